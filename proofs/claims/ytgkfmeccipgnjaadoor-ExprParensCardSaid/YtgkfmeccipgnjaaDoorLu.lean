/- Tokens compared; tokens read at a place of their slice. -/
import Derived.Test.YtgkfmeccipgnjaaDoorLk
import Derived.Test.YtgkfmeccipgnjaaDoorLf
import Derived.Test.YtgkfmeccipgnjaaDoorLt
namespace Go.Proofs.YtgkfmeccipgnjaaDoor
open Go.RowKit

theorem fields31 : Tryd.prog.underlying 31 = some (.struct (Tryd.prog.fieldsOf 31)) := by kernel_rfl
theorem fields31b : (Tryd.prog.fieldsOf 31).toList.map (fun f => (f.name, f.type, f.offset)) = [("Kind", 3, 0), ("Text", 9, 1), ("N", 3, 2), ("At", 25, 3)] := by kernel_rfl
theorem stood31 : Tryd.prog.stoodInHeld 31 = false := by kernel_rfl

theorem eqIn_complex (d : Nat) (a b x y : Nat) (Z : World) : (Op.equalIn (d + 1) 25 (.complex .f64 a b) (.complex .f64 x y)).run Tryd.prog Z = .ok ((FloatKind.f64.format.order a x == some .eq) && (FloatKind.f64.format.order b y == some .eq)) Z := by
  simp [Op.equalIn, run_underlying Tryd.underlying25, Op.floatEq]
theorem eqIn_plc {p q : Nat × Nat} (hp : p.1 < 6100 ∧ p.2 < 6100) (hq : q.1 < 6100 ∧ q.2 < 6100) (Z : World) : (Op.equalIn 9999 25 (plc p) (plc q)).run Tryd.prog Z = .ok (decide (p = q)) Z := by
  have h := eqIn_complex 9998 (floatOfInt .f64 p.1) (floatOfInt .f64 p.2) (floatOfInt .f64 q.1) (floatOfInt .f64 q.2) Z
  rw [plc_order hp hq] at h
  exact h
theorem tok_neq_same (k n : Int) (tx : ByteArray) {p : Nat × Nat} (hp : p.1 < 6100 ∧ p.2 < 6100) (Z : World) :
    (binOp .neq 31 (.agg #[.int .i64 k, .string tx, .int .i64 n, plc p]) (.agg #[.int .i64 k, .string tx, .int .i64 n, plc p])).run Tryd.prog Z = .ok (.bool false) Z := by
  have hf := fields31b
  rw [run_neq_struct, run_equalIn_struct Z 9999 31 _ _ fields31 stood31]
  generalize (Tryd.prog.fieldsOf 31).toList = fs at hf
  have hlen : fs.length = 4 := by simpa using congrArg List.length hf
  match fs, hlen with
  | [a, b, c, d], _ =>
    simp only [List.map_cons, List.map_nil, List.cons.injEq, Prod.mk.injEq, and_true] at hf
    obtain ⟨⟨a1, a2, a3⟩, ⟨b1, b2, b3⟩, ⟨c1, c2, c3⟩, d1, d2, d3⟩ := hf
    simp [Op.eqFields, a1, a2, a3, b1, b2, b3, c1, c2, c3, d1, d2, d3, go_sem]
    rw [eqIn_plc hp hp]
    simp

theorem cellsOf_length (s : ByteArray) (l : List Tok) : (cellsOf s l).length = l.length * 4 := by
  induction l with
  | nil => rfl
  | cons t l ih => simp only [cellsOf, List.flatMap_cons, List.length_append, List.length_cons] at ih ⊢; rw [ih]; simp [tokCells]; omega
theorem cellsOf_at (s : ByteArray) : ∀ (l : List Tok) (i : Nat) (t : Tok) (k : Nat), l[i]? = some t → k < 4 → (cellsOf s l)[i * 4 + k]? = (tokCells s t)[k]? := by
  intro l
  induction l with
  | nil => intro i t k h; simp at h
  | cons u l ih =>
    intro i t k h hk
    have hc : (tokCells s u).length = 4 := rfl
    cases i with
    | zero =>
      simp only [List.getElem?_cons_zero, Option.some.injEq] at h
      subst h
      simp only [cellsOf, List.flatMap_cons]
      rw [List.getElem?_append_left (by omega)]; simp
    | succ i =>
      simp only [List.getElem?_cons_succ] at h
      simp only [cellsOf, List.flatMap_cons]
      rw [List.getElem?_append_right (by omega), hc, show (i + 1) * 4 + k - 4 = i * 4 + k by omega]
      exact ih i t k h hk

/-- A token at its place in a slice. -/
structure TokIs (w : World) (b off : Nat) (s : ByteArray) (t : Tok) : Prop where
  kind : w.cell? ⟨b, off, none⟩ = some (.int .i64 t.kind)
  text : w.cell? ⟨b, off + 1, none⟩ = some (.string ⟨t.text.toArray⟩)
  num : w.cell? ⟨b, off + 2, none⟩ = some (.int .i64 t.n)
  pos : w.cell? ⟨b, off + 3, none⟩ = some (plc (spotL (s.data.toList.take t.pos)))

theorem TokIs.below {w w' : World} {b off : Nat} {s : ByteArray} {t : Tok} (h : TokIs w b off s t) {B : Nat} (hb : Below B w w') (hB : b < B) : TokIs w' b off s t :=
  ⟨(hb.cell (p := ⟨b, off, none⟩) hB).trans h.kind, (hb.cell (p := ⟨b, off + 1, none⟩) hB).trans h.text, (hb.cell (p := ⟨b, off + 2, none⟩) hB).trans h.num, (hb.cell (p := ⟨b, off + 3, none⟩) hB).trans h.pos⟩

/-- A slice of tokens, not empty. -/
theorem toks_at {w : World} {v : Value} {s : ByteArray} {l : List Tok} (h : SliceAt w v l.length (cellsOf s l)) (hne : l ≠ []) :
    ∃ b off c, v = .slice (some ⟨b, off, none⟩) l.length c ∧ l.length ≤ c ∧ c ≤ 9223372036854775807 ∧ b < w.heap.size ∧ ∀ i t, l[i]? = some t → TokIs w b (off + i * 4) s t := by
  obtain ⟨A, c, hv, hc, hm, h⟩ := h
  rcases h with h | ⟨b, off, rfl, hlt, h⟩
  · exact absurd (List.eq_nil_of_length_eq_zero h) hne
  · refine ⟨b, off, c, hv, hc, by unfold maxLen at hm; exact hm, hlt, fun i t ht => ?_⟩
    have g : ∀ k u, (tokCells s t)[k]? = some u → k < 4 → w.cell? ⟨b, off + i * 4 + k, none⟩ = some u := by
      intro k u hu hk
      rw [Nat.add_assoc]
      exact h _ _ (by rw [cellsOf_at s l i t k ht hk]; exact hu)
    exact ⟨g 0 _ rfl (by omega), g 1 _ rfl (by omega), g 2 _ rfl (by omega), g 3 _ rfl (by omega)⟩

end Go.Proofs.YtgkfmeccipgnjaaDoor
