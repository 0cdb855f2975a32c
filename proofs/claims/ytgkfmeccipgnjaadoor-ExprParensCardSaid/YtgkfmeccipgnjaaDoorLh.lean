/- What the walk of lex.Tokens leans on: its callees at a byte of the text; stores into its token; what holds at each label. -/
import Derived.Test.YtgkfmeccipgnjaaDoorLg
import Derived.Lib.QuietBelow
import Derived.Lib.AppendIntMem
import Derived.Lib.AtoiErrMem
import Derived.Deep.AppendLies
import Derived.BigQuiet
import Derived.WalkSmall
namespace Go.Proofs.YtgkfmeccipgnjaaDoor
open Go.RowKit

theorem extract_from (s : ByteArray) (k : Nat) : (s.extract k s.size).data.toList = s.data.toList.drop k := by
  simp
  rw [List.take_of_length_le (by simp)]
theorem extract_mid (s : ByteArray) (a k : Nat) : (s.extract a (a + k)).data.toList = (s.data.toList.drop a).take k := by
  simp [List.take_drop]
theorem bytes_of_list {s : ByteArray} {l : List UInt8} (h : s.data.toList = l) : s = ⟨l.toArray⟩ := by
  subst h; rfl

theorem run_blank_at (s : ByteArray) (k : Nat) (hs : s.size ≤ 6000) (w : World) :
    Calls Tryd.prog 35 #[.string (s.extract k s.size), .func (.func 36) #[] #[]] w fun e w' => e = .returned (.int .i64 (runL blankB (s.data.toList.drop k))) ∧ w = w' := by
  have h := run_blank (s.extract k s.size) (by simp [maxLen]; omega) w
  rw [extract_from] at h; exact h
theorem run_note_at (s : ByteArray) (k : Nat) (hs : s.size ≤ 6000) (w : World) :
    Calls Tryd.prog 35 #[.string (s.extract k s.size), .func (.func 41) #[] #[]] w fun e w' => e = .returned (.int .i64 (runL noteB (s.data.toList.drop k))) ∧ w = w' := by
  have h := run_note (s.extract k s.size) (by simp [maxLen]; omega) w
  rw [extract_from] at h; exact h
theorem run_digit_at (s : ByteArray) (k : Nat) (hs : s.size ≤ 6000) (w : World) :
    Calls Tryd.prog 35 #[.string (s.extract k s.size), .func (.func 38) #[] #[]] w fun e w' => e = .returned (.int .i64 (runL digitB (s.data.toList.drop k))) ∧ w = w' := by
  have h := run_digit (s.extract k s.size) (by simp [maxLen]; omega) w
  rw [extract_from] at h; exact h
theorem word_at (s : ByteArray) (k : Nat) (hs : s.size ≤ 6000) (w : World) :
    Calls Tryd.prog 42 #[.string (s.extract k s.size)] w fun e w' => e = .returned (.int .i64 (wordL (s.data.toList.drop k))) ∧ w = w' := by
  have h := word_any (s.extract k s.size) (by simp [maxLen]; omega) w
  rw [extract_from] at h; exact h
theorem eqeq_at (s : ByteArray) (k : Nat) (w : World) :
    Calls Tryd.prog 39 #[.string (s.extract k s.size), .string ⟨#[61, 61]⟩] w fun e w' => e = .returned (.bool ([61, 61].isPrefixOf (s.data.toList.drop k))) ∧ w = w' := by
  have h := Tryd.strings_HasPrefix (s.extract k s.size) ⟨#[61, 61]⟩ w
  rw [extract_from] at h; exact h.mono fun _ _ ⟨he, hw⟩ => ⟨he, hw.symm⟩
theorem indexByte_neg (l : List UInt8) (c : UInt8) : Lib.indexByte l c < 0 ↔ c ∉ l := by
  induction l with
  | nil => simp [Lib.indexByte]
  | cons a l ih =>
    unfold Lib.indexByte
    by_cases h : a = c
    · simp [h]
    · have h' : ¬ c = a := fun e => h e.symm
      simp only [List.mem_cons, h', false_or]
      rw [← ih]
      have := Lib.indexByte_ge l c
      simp [h]
      split <;> omega
theorem sign_at (c : UInt8) (w : World) :
    Calls Tryd.prog 40 #[.string ⟨#[61, 60, 43, 45, 42, 47, 37, 40, 41, 123, 125]⟩, .int .u8 c.toNat] w fun e w' => e = .returned (.int .i64 (Lib.indexByte signsL c)) ∧ w = w' := by
  have h := Tryd.strings_IndexByte ⟨#[61, 60, 43, 45, 42, 47, 37, 40, 41, 123, 125]⟩ c.toNat w
  have e : ((c.toNat : Int).toNat.toUInt8) = c := by simp
  rw [e] at h
  exact h.mono fun _ _ ⟨he, hw⟩ => ⟨he, hw.symm⟩

/-- What the library's variables hold. -/
structure Env (w : World) : Prop where
  size : 6 ≤ w.heap.size
  pow : Lib.TabIs Tryd.prog w "internal/strconv.uint64pow10" .u64 Lib.pow10Tab
  syn : ∃ tp p, w.cell? ⟨1, 0, none⟩ = some (.iface tp p)
  rng : ∃ tp p, w.cell? ⟨2, 0, none⟩ = some (.iface tp p)

theorem glob3 : Tryd.prog.globalNamed "internal/strconv.uint64pow10" = some 3 := by kernel_rfl
theorem Env.below {w w' : World} {B : Nat} (h : Env w) (hb : Below B w w') (hB : 6 ≤ B) : Env w' := by
  refine ⟨Nat.le_trans h.size hb.size, ?_, ?_, ?_⟩
  · exact var?_below hb glob3 (by omega) h.pow
  · obtain ⟨tp, p, hc⟩ := h.syn
    exact ⟨tp, p, by rw [hb.cell (by simp; omega)]; exact hc⟩
  · obtain ⟨tp, p, hc⟩ := h.rng
    exact ⟨tp, p, by rw [hb.cell (by simp; omega)]; exact hc⟩

theorem atoiV_bounds (d : List UInt8) : -9223372036854775808 ≤ atoiV d ∧ atoiV d ≤ 9223372036854775807 := by
  unfold atoiV
  split
  · rename_i v h
    unfold Lib.atoiAll at h
    cases d with
    | nil => simp at h
    | cons c r =>
      simp only at h
      split at h <;> try (cases h; done)
      split at h <;> try (cases h; done)
      split at h <;> try (cases h; done)
      rename_i u _ h1 h2
      injection h with h
      split at h <;> omega
  · unfold Lib.atoiSat; split <;> omega
  · omega

theorem atoi_at (s : ByteArray) (hs : s.size ≤ 6000) (w : World) (hE : Env w) :
    Calls Tryd.prog 43 #[.string s] w fun e w' => ∃ ev, e = .returned (.tuple #[.int .i64 (atoiV s.data.toList), ev]) ∧ Below w.heap.size w w' := by
  cases h : Lib.atoiAll s.data.toList
  · rename_i v
    have hv : atoiV s.data.toList = v := by unfold atoiV; rw [h]
    refine (Tryd.strconv_Atoi_ok s (by omega) v h w).mono fun e w' ⟨he, hw⟩ => ⟨.nilIface, by rw [he, hv], ?_⟩
    rcases hw with rfl | ⟨t, rfl⟩
    · exact Below.refl _ _
    · exact Lib.bytesWorld_below w 5 t
  · have hv : atoiV s.data.toList = 0 := by unfold atoiV; rw [h]
    obtain ⟨tp, p, hc⟩ := hE.syn
    exact (Any.strconv_Atoi_syntax Tryd.laysC172 s (by omega) h _ w hc (.inr ⟨tp, p, rfl⟩)).mono fun e w' ⟨N, he, _, _, hb⟩ => ⟨.iface 122 (.pointer (some ⟨N, 0, none⟩)), by rw [hv]; exact he, hb⟩
  · have hv : atoiV s.data.toList = Lib.atoiSat s.data.toList := by unfold atoiV; rw [h]
    obtain ⟨tp, p, hc⟩ := hE.rng
    exact (Tryd.strconv_Atoi_range s (by omega) h _ w hc (.inr ⟨tp, p, rfl⟩)).mono fun e w' ⟨N, he, _, _, hb⟩ => ⟨.iface 122 (.pointer (some ⟨N, 0, none⟩)), by rw [he, hv], hb⟩

theorem itoa_at (n : Int) (h0 : -9223372036854775808 ≤ n) (h1 : n ≤ 9223372036854775807) (w : World) (hE : Env w) :
    Calls Tryd.prog 44 #[.int .i64 n] w fun e w' => e = .returned (.string ⟨(Lib.itoa n).toArray⟩) ∧ Below w.heap.size w w' :=
  (Tryd.strconv_Itoa n h0 h1 w hE.pow).mono fun e w' ⟨he, k, os, hw⟩ => ⟨he, by rw [hw]; exact Lib.below_grow _ w (Nat.le_refl _) k os⟩

/-- The cells of a token. -/
def tokCells (s : ByteArray) (t : Tok) : List Value := [.int .i64 t.kind, .string ⟨t.text.toArray⟩, .int .i64 t.n, plc (spotL (s.data.toList.take t.pos))]
def cellsOf (s : ByteArray) (l : List Tok) : List Value := l.flatMap (tokCells s)

/-- A slice value that reads as n elements, the cells xs behind one another. -/
def SliceAt (w : World) (v : Value) (n : Nat) (xs : List Value) : Prop :=
  ∃ A c, v = .slice A n c ∧ n ≤ c ∧ c ≤ maxLen ∧ (n = 0 ∨ ∃ b off, A = some ⟨b, off, none⟩ ∧ b < w.heap.size ∧ ∀ (j : Nat) (u : Value), xs[j]? = some u → w.cell? ⟨b, off + j, none⟩ = some u)

theorem SliceAt.below {w w' : World} {v : Value} {n : Nat} {xs : List Value} (h : SliceAt w v n xs) (hb : Below w.heap.size w w') : SliceAt w' v n xs := by
  obtain ⟨A, c, hv, hc, hm, h⟩ := h
  refine ⟨A, c, hv, hc, hm, ?_⟩
  rcases h with h | ⟨b, off, hA, hlt, h⟩
  · exact .inl h
  · exact .inr ⟨b, off, hA, Nat.lt_of_lt_of_le hlt hb.size, fun j u hu => (hb.cell (p := ⟨b, off + j, none⟩) hlt).trans (h j u hu)⟩

theorem info31 : (Tryd.prog.info? 31).map (·.size) = some 4 := by kernel_rfl
theorem info31b : (Tryd.prog.info? 31).map (fun i => (i.zero, i.size, i.bytes)) = some (some (.agg #[.int .i64 0, .string ⟨#[]⟩, .int .i64 0, .complex .f64 0 0]), 4, 48) := by kernel_rfl

/-- What the walk keeps at every label: the token's block, the tokens' row, nothing old has turned. -/
structure TI (s : ByteArray) (w0 : World) (v5 : Value) (acc : List Tok) (pos : Nat) (tc : Array Value) (w : World) : Prop where
  posle : pos ≤ s.size
  own : w.ownsRow (w0.heap.size + 1) 31 4 v5 acc.length (cellsOf s acc)
  blk : w.heap[w0.heap.size]? = some (.cells tc 31 (0, 0))
  four : tc.size = 4
  below : Below w0.heap.size w0 w
  len : acc.length ≤ pos

theorem TI.lt {s : ByteArray} {w0 w : World} {v5 : Value} {acc : List Tok} {pos : Nat} {tc : Array Value} (h : TI s w0 v5 acc pos tc w) : w0.heap.size < w.heap.size := by
  have := h.blk
  rcases Nat.lt_or_ge w0.heap.size w.heap.size with hlt | hge
  · exact hlt
  · rw [Array.getElem?_eq_none hge] at this; cases this
theorem TI.cell {s : ByteArray} {w0 w : World} {v5 : Value} {acc : List Tok} {pos : Nat} {tc : Array Value} (h : TI s w0 v5 acc pos tc w) (i : Nat) : w.cell? ⟨w0.heap.size, i, none⟩ = tc[i]? := cell_of_row w _ i tc 31 (0, 0) h.blk
theorem TI.frozen {s : ByteArray} {w0 w : World} {v5 : Value} {acc : List Tok} {pos : Nat} {tc : Array Value} (h : TI s w0 v5 acc pos tc w) (i : Nat) : w.frozen? ⟨w0.heap.size, i, none⟩ = false := by
  simp [World.frozen?, h.blk]

/-- Whatever only adds blocks. -/
theorem TI.grow {s : ByteArray} {w0 w w' : World} {v5 : Value} {acc : List Tok} {pos : Nat} {tc : Array Value} (h : TI s w0 v5 acc pos tc w) (hb : Below w.heap.size w w') : TI s w0 v5 acc pos tc w' := by
  have hlt := h.lt
  refine ⟨h.posle, ?_, ?_, h.four, h.below.trans (hb.mono (by omega)), h.len⟩
  · obtain ⟨h1, h2⟩ := h.own
    refine ⟨h1, ?_⟩
    rcases h2 with h2 | ⟨g, cap, cur, hv, hg, hh, r⟩
    · exact .inl h2
    · refine .inr ⟨g, cap, cur, hv, hg, ?_, r⟩
      have : g < w.heap.size := by
        rcases Nat.lt_or_ge g w.heap.size with hlt | hge
        · exact hlt
        · rw [Array.getElem?_eq_none hge] at hh; cases hh
      rw [hb.block g this]; exact hh
  · rw [hb.block _ hlt]; exact h.blk

/-- A store into the token. -/
theorem TI.set {s : ByteArray} {w0 w : World} {v5 : Value} {acc : List Tok} {pos : Nat} {tc : Array Value} (h : TI s w0 v5 acc pos tc w) (i : Nat) (u : Value) : TI s w0 v5 acc pos (tc.setIfInBounds i u) (w.setCell ⟨w0.heap.size, i, none⟩ u) := by
  refine ⟨h.posle, ?_, heap_setCell_same w _ i tc 31 u h.blk, by simp [h.four], h.below.setCell (p := ⟨w0.heap.size, i, none⟩) (Nat.le_refl _) u, h.len⟩
  exact ownsRow_setCell_below h.own (a := ⟨w0.heap.size, i, none⟩) (by simp) u

theorem TI.row {s : ByteArray} {w0 w : World} {v5 : Value} {acc : List Tok} {pos : Nat} {tc : Array Value} (h : TI s w0 v5 acc pos tc w) (cs : Array Value) (hcs : cs.size = 4) (pos' : Nat) (h1 : pos ≤ pos') (h2 : pos' ≤ s.size) : TI s w0 v5 acc pos' cs (w.setRow w0.heap.size cs) := by
  refine ⟨h2, ?_, setRow_heap w _ tc cs 31 (0, 0) h.blk, hcs, ?_, by have := h.len; omega⟩
  · obtain ⟨g1, g2⟩ := h.own
    refine ⟨g1, ?_⟩
    rcases g2 with g2 | ⟨g, cap, cur, hv, hg, hh, r⟩
    · exact .inl g2
    · exact .inr ⟨g, cap, cur, hv, hg, by rw [setRow_other w _ g cs (by omega)]; exact hh, r⟩
  · exact h.below.trans ⟨rfl, rfl, rfl, by simp, fun k hk => setRow_other w _ k cs (by omega)⟩

end Go.Proofs.YtgkfmeccipgnjaaDoor
