/- Contract of expr.operator at a sign: a region that draws, three map literals, by an invariant. -/
import Derived.Test.YtgkfmeccipgnjaaDoorEc
import Derived.Test.YtgkfmeccipgnjaaDoorPf
import Derived.Test.YtgkfmeccipgnjaaDoorPj
namespace Go.Proofs.YtgkfmeccipgnjaaDoor
open Go Go.RowKit

theorem step_val {P : Program} {ops : Array Oper} {Q : Exit → Act → World → Prop} {i : Nat} {o : Oper} {K : Act → World → Prop} {a : Act} {w w' : World} {v : Value} (ho : ops[i]? = some o) (hg : o.guard = none)
    (hr : (execOp a.eval o).run P w = .ok (.value v) w') (h : K (a.put o.dst v) w') : wpOp P ops Q i K a w := by
  unfold wpOp
  rw [ho]
  simp only [Region.wanted, hg, if_true]
  left
  unfold Oper.wp
  rw [hr]; exact h
theorem step_skip {P : Program} {ops : Array Oper} {Q : Exit → Act → World → Prop} {i : Nat} {o : Oper} {K : Act → World → Prop} {a : Act} {w w' : World} (ho : ops[i]? = some o) (hg : o.guard = none)
    (hr : (execOp a.eval o).run P w = .ok .skip w') (h : K (a.put o.dst undef) w') : wpOp P ops Q i K a w := by
  unfold wpOp
  rw [ho]
  simp only [Region.wanted, hg, if_true]
  left
  unfold Oper.wp
  rw [hr]; exact h

/-- All have come up, if none may. -/
theorem all_listed {md : Region.Mode} {ops : Array Oper} {listed : Array Bool} (hlt : (List.range ops.size).all (fun j => ((ops[j]?).map fun o => o.after.all fun e => decide (e.on < j)).getD false) = true) (hr : Region.ready md ops listed = []) :
    ∀ j, j < ops.size → listed.getD j true = true := by
  intro j
  induction j using Nat.strongRecOn with
  | _ j ih =>
    intro hj
    cases hc : listed.getD j true with
    | true => rfl
    | false =>
      exfalso
      have h1 := List.all_eq_true.mp hlt j (List.mem_range.mpr hj)
      rw [Array.getElem?_eq_getElem hj] at h1
      simp only [Option.map_some, Option.getD_some] at h1
      have : j ∈ Region.ready md ops listed := by
        refine mem_ready.2 ⟨hc, ops[j], Array.getElem?_eq_getElem hj, fun e he _ => ?_⟩
        have h2 : e.on < j := by simpa using Array.all_eq_true_iff_forall_mem.mp h1 e he
        have h3 := ih e.on h2 (by omega)
        rcases Nat.lt_or_ge e.on listed.size with h4 | h4
        · simp only [Array.getD_eq_getD_getElem?, Array.getElem?_eq_getElem h4, Option.getD_some] at h3 ⊢; exact h3
        · exfalso
          have h5 : listed.getD j true = true := by
            rw [Array.getD_eq_getD_getElem?, Array.getElem?_eq_none (by omega)]; rfl
          rw [hc] at h5; cases h5
      rw [hr] at this; cases this

def upd {α : Type} (f : Nat → α) (i : Nat) (v : α) : Nat → α := fun j => if j = i then v else f j
theorem upd_same {α : Type} (f : Nat → α) (i : Nat) (v : α) : upd f i v i = v := if_pos rfl
theorem upd_other {α : Type} (f : Nat → α) {i j : Nat} (v : α) (h : j ≠ i) : upd f i v j = f j := if_neg h

/-- A block that is a map of strings, what it answers. -/
def MapIs (w : World) (g : Nat) (c : ByteArray → Option Int) : Prop :=
  ∃ es clock, w.heap[g]? = some (.map es clock) ∧ (∀ e ∈ es.toList, ∃ t, e.key = .string t) ∧ ∀ s, (entF s es.toList 0).map (·.2) = (c s).map (Value.int .i64)
theorem MapIs.lt {w : World} {g : Nat} {c : ByteArray → Option Int} (h : MapIs w g c) : g < w.heap.size := by
  obtain ⟨es, clock, h, _⟩ := h
  rcases Nat.lt_or_ge g w.heap.size with hlt | hge
  · exact hlt
  · rw [Array.getElem?_eq_none hge] at h; cases h
theorem MapIs.new (w : World) : MapIs (w.alloc (.map #[] 0)) w.heap.size (fun _ => none) := ⟨#[], 0, heap_alloc_new _ _, by simp, fun s => rfl⟩
theorem MapIs.alloc {w : World} {g : Nat} {c : ByteArray → Option Int} (h : MapIs w g c) (o : Obj) : MapIs (w.alloc o) g c := by
  have hl := h.lt
  obtain ⟨es, clock, h1, h2, h3⟩ := h
  exact ⟨es, clock, by rw [heap_alloc_old w o hl]; exact h1, h2, h3⟩
theorem entF_some {s : ByteArray} : ∀ (l : List MapEntry) (i : Nat), (entF s l i).map (·.2) = (entF s l 0).map (·.2) := by
  intro l
  induction l with
  | nil => intro i; rfl
  | cons e es ih =>
    intro i
    simp only [entF]
    split
    · split
      · rfl
      · rw [ih (i + 1), ih (0 + 1)]
    · rw [ih (i + 1), ih (0 + 1)]
theorem entF_push (s k : ByteArray) (v : Value) (n : Nat) : ∀ (l : List MapEntry), (entF s l 0).map (·.2) = none → (entF s (l ++ [{ key := .string k, val := v, born := n }]) 0).map (·.2) = if s = k then some v else none := by
  intro l
  induction l with
  | nil =>
    intro _
    simp only [List.nil_append, entF]
    by_cases h : s = k
    · have := (MapKept.bytes_beq s k).mpr h
      subst h
      simp [this]
    · have : (s == k) = false := by
        cases hb : s == k with
        | false => rfl
        | true => exact absurd ((MapKept.bytes_beq s k).mp hb) h
      simp [this, h]
  | cons e es ih =>
    intro h
    simp only [List.cons_append, entF] at h ⊢
    split
    · rename_i t ht
      rw [ht] at h
      simp only at h
      by_cases hst : (s == t) = true
      · rw [if_pos hst] at h; cases h
      · rw [if_neg hst] at h ⊢
        rw [entF_some] at h ⊢; exact ih h
    · rename_i ht
      have h' : (entF s es (0 + 1)).map (·.2) = none := by
        split at h
        · rename_i t ht2; exact absurd ht2 (ht t)
        · exact h
      rw [entF_some] at h' ⊢; exact ih h'
theorem entF_push_old (s k : ByteArray) (v u : Value) (n : Nat) : ∀ (l : List MapEntry), (entF s l 0).map (·.2) = some u → (entF s (l ++ [{ key := .string k, val := v, born := n }]) 0).map (·.2) = some u := by
  intro l
  induction l with
  | nil => intro h; cases h
  | cons e es ih =>
    intro h
    simp only [List.cons_append, entF] at h ⊢
    split
    · rename_i t ht
      rw [ht] at h
      simp only at h
      by_cases hst : (s == t) = true
      · rw [if_pos hst] at h ⊢; exact h
      · rw [if_neg hst] at h ⊢
        rw [entF_some] at h ⊢; exact ih h
    · rename_i ht
      have h' : (entF s es (0 + 1)).map (·.2) = some u := by
        split at h
        · rename_i t ht2; exact absurd ht2 (ht t)
        · exact h
      rw [entF_some] at h' ⊢; exact ih h'

/-- An insertion of a key that is not there. -/
theorem MapIs.ins {P : Program} {w : World} {mty kt et : TypeId} {g : Nat} {c : ByteArray → Option Int} (h : MapIs w g c) (s : ByteArray) (n : Int) (hm : P.underlying mty = some (.map kt et)) (hk : P.underlying kt = some .string) (hno : c s = none) :
    ∃ w', (Instr.mapUpdate mty (.map (some g)) (.string s) (.int .i64 n)).run P w = .ok () w' ∧ MapIs w' g (fun x => if x = s then some n else c x) ∧
      (∀ B, B ≤ g → Below B w w') ∧ ∀ g' c', g' ≠ g → MapIs w g' c' → MapIs w' g' c' := by
  have hl := h.lt
  obtain ⟨es, clock, h1, h2, h3⟩ := h
  have hn : (entF s es.toList 0).map (·.2) = none := by rw [h3, hno]; rfl
  have hn' : entF s es.toList 0 = none := by cases hx : entF s es.toList 0 <;> simp_all
  refine ⟨_, run_ins w mty kt et g clock es s (.int .i64 n) hm hk h1 h2 hn', ?_, fun B hB => ?_, fun g' c' hg hM => ?_⟩
  · refine ⟨_, _, (MapKept.heap_set h1).1, ?_, fun x => ?_⟩
    · intro e he
      simp only [Array.toList_push, List.mem_append, List.mem_singleton] at he
      rcases he with he | rfl
      · exact h2 e he
      · exact ⟨s, rfl⟩
    · rw [Array.toList_push]
      by_cases hx : x = s
      · subst hx
        rw [entF_push _ _ _ _ _ hn]; simp
      · cases hc : c x with
        | none =>
          have := h3 x
          rw [hc] at this
          rw [entF_push _ _ _ _ _ this]; simp [hx, hc]
        | some m =>
          have := h3 x
          rw [hc] at this
          rw [entF_push_old _ _ _ _ _ _ this]; simp [hx, hc]
  · exact ⟨rfl, rfl, rfl, by simp, fun k hk' => (MapKept.heap_set h1).2 k (by omega)⟩
  · obtain ⟨es', clock', j1, j2, j3⟩ := hM
    exact ⟨es', clock', by rw [← j1]; exact (MapKept.heap_set h1).2 g' hg, j2, j3⟩

/-- A look-up. -/
theorem MapIs.look {P : Program} {w : World} {mty kt et : TypeId} {g : Nat} {c : ByteArray → Option Int} (h : MapIs w g c) (s : ByteArray) (hm : P.underlying mty = some (.map kt et)) (hk : P.underlying kt = some .string)
    (hz : (zeroValue et).run P w = .ok (.int .i64 0) w) : (Instr.lookup mty (.map (some g)) (.string s) false).run P w = .ok (.int .i64 ((c s).getD 0)) w := by
  obtain ⟨es, clock, h1, h2, h3⟩ := h
  have hf : Instr.findNow .string (.string s) es.toList 0 = some (entF s es.toList 0) := entF_now s _ _ h2
  have hc : (Instr.checkKey es.isEmpty 10000 kt (.string s)).run P w = .ok () w := MapKept.run_checkKey (k := .string s) hk (by simp [MapKept.IsKey]) _ 9999
  have h3 := h3 s
  simp only [Instr.lookup, Sem.run_bind, run_underlying hm, Result.andThen, MapKept.run_getObj_map h1, Sem.run_pure, hc, MapKept.run_findKey hk hf]
  cases hx : entF s es.toList 0 with
  | none =>
    rw [hx] at h3
    cases hy : c s with
    | none => simp [hz]
    | some m => rw [hy] at h3; cases h3
  | some p =>
    rw [hx] at h3
    obtain ⟨j, v⟩ := p
    cases hy : c s with
    | none => rw [hy] at h3; cases h3
    | some m =>
      rw [hy] at h3
      simp only [Option.map_some, Option.some.injEq] at h3
      subst h3
      simp

def kA : ByteArray := ⟨#[60]⟩
def kB : ByteArray := ⟨#[61, 61]⟩
def kC : ByteArray := ⟨#[43]⟩
def kD : ByteArray := ⟨#[45]⟩
def kE : ByteArray := ⟨#[42]⟩
def kF : ByteArray := ⟨#[47]⟩
def kG : ByteArray := ⟨#[37]⟩
def c2 (k l : ByteArray) (m n : Int) (a b : Bool) (x : ByteArray) : Option Int := if a = true ∧ x = k then some m else if b = true ∧ x = l then some n else none
def c3 (k l p : ByteArray) (m n q : Int) (a b c : Bool) (x : ByteArray) : Option Int := if a = true ∧ x = k then some m else if b = true ∧ x = l then some n else if c = true ∧ x = p then some q else none
theorem c2_none (k l : ByteArray) (m n : Int) : c2 k l m n false false = fun _ => none := by funext x; simp [c2]
theorem c3_none (k l p : ByteArray) (m n q : Int) : c3 k l p m n q false false false = fun _ => none := by funext x; simp [c3]
theorem c2_fst {k l : ByteArray} (m n : Int) (b : Bool) (h : k ≠ l) : c2 k l m n false b k = none ∧ (fun x => if x = k then some m else c2 k l m n false b x) = c2 k l m n true b := by
  refine ⟨by simp [c2, h], ?_⟩
  funext x; by_cases hx : x = k <;> simp [c2, hx]
theorem c2_snd {k l : ByteArray} (m n : Int) (a : Bool) (h : k ≠ l) : c2 k l m n a false l = none ∧ (fun x => if x = l then some n else c2 k l m n a false x) = c2 k l m n a true := by
  refine ⟨by simp [c2, h.symm], ?_⟩
  funext x
  by_cases hx : x = l
  · subst hx; simp [c2, h.symm]
  · simp [c2, hx]
theorem c3_fst {k l p : ByteArray} (m n q : Int) (b c : Bool) (h1 : k ≠ l) (h2 : k ≠ p) : c3 k l p m n q false b c k = none ∧ (fun x => if x = k then some m else c3 k l p m n q false b c x) = c3 k l p m n q true b c := by
  refine ⟨by simp [c3, h1, h2], ?_⟩
  funext x; by_cases hx : x = k <;> simp [c3, hx]
theorem c3_snd {k l p : ByteArray} (m n q : Int) (a c : Bool) (h1 : k ≠ l) (h2 : l ≠ p) : c3 k l p m n q a false c l = none ∧ (fun x => if x = l then some n else c3 k l p m n q a false c x) = c3 k l p m n q a true c := by
  refine ⟨by simp [c3, h1.symm, h2], ?_⟩
  funext x
  by_cases hx : x = l
  · subst hx; simp [c3, h1.symm]
  · simp [c3, hx]
theorem c3_thd {k l p : ByteArray} (m n q : Int) (a b : Bool) (h1 : k ≠ p) (h2 : l ≠ p) : c3 k l p m n q a b false p = none ∧ (fun x => if x = p then some q else c3 k l p m n q a b false x) = c3 k l p m n q a b true := by
  refine ⟨by simp [c3, h1.symm, h2.symm], ?_⟩
  funext x
  by_cases hx : x = p
  · subst hx; simp [c3, h1.symm, h2.symm]
  · simp [c3, hx]

def pick3 (lv : Nat) (a b c : Value) : Value := match lv with | 0 => a | 1 => b | _ => c
/-- What the chosen map answers. -/
def ans3 (lv : Nat) (x : ByteArray) : Int := match lv with
  | 0 => (c2 kA kB 9 10 true true x).getD 0
  | 1 => (c2 kC kD 4 5 true true x).getD 0
  | _ => (c3 kE kF kG 6 7 8 true true true x).getD 0

structure OI (B tb lv : Nat) (tx : ByteArray) (W0 : World) (L : Nat → Bool) (S : Nat → Value) (w : World) : Prop where
  below : Below B W0 w
  s1 : S 1 = .int .i64 lv
  s2 : S 2 = .pointer (some ⟨tb, 0, none⟩)
  a0 : L 0 = false → L 1 = false ∧ L 2 = false
  a4 : L 4 = false → L 5 = false ∧ L 6 = false
  a8 : L 8 = false → L 9 = false ∧ L 10 = false ∧ L 11 = false
  m0 : L 0 = true → ∃ g, S 8 = .map (some g) ∧ B ≤ g ∧ MapIs w g (c2 kA kB 9 10 (L 1) (L 2))
  m4 : L 4 = true → ∃ g, S 10 = .map (some g) ∧ B ≤ g ∧ MapIs w g (c2 kC kD 4 5 (L 5) (L 6))
  m8 : L 8 = true → ∃ g, S 12 = .map (some g) ∧ B ≤ g ∧ MapIs w g (c3 kE kF kG 6 7 8 (L 9) (L 10) (L 11))
  d04 : L 0 = true → L 4 = true → S 8 ≠ S 10
  d08 : L 0 = true → L 8 = true → S 8 ≠ S 12
  d48 : L 4 = true → L 8 = true → S 10 ≠ S 12
  v3 : L 3 = true → S 9 = S 8 ∧ L 0 = true ∧ L 1 = true ∧ L 2 = true
  v7 : L 7 = true → S 11 = S 10 ∧ L 4 = true ∧ L 5 = true ∧ L 6 = true
  v12 : L 12 = true → S 13 = S 12 ∧ L 8 = true ∧ L 9 = true ∧ L 10 = true ∧ L 11 = true
  v13 : L 13 = true → S 14 = .agg #[S 8, S 10, S 12] ∧ L 3 = true ∧ L 7 = true ∧ L 12 = true
  v14 : L 14 = true → S 15 = .int .i64 lv
  v15 : L 15 = true → S 16 = pick3 lv (S 8) (S 10) (S 12) ∧ L 13 = true
  v16 : L 16 = true → S 17 = .pointer (some ⟨tb, 1, none⟩)
  v17 : L 17 = true → S 18 = .string tx
  v18 : L 18 = true → S 19 = .int .i64 (ans3 lv tx)
  v19 : L 19 = true → S 4 = .int .i64 (ans3 lv tx)

theorem OI.make0 {B tb lv : Nat} {tx : ByteArray} {W0 : World} {L : Nat → Bool} {S : Nat → Value} {w : World} (h : OI B tb lv tx W0 L S w) (hB : B ≤ w.heap.size) (hi : L 0 = false) : OI B tb lv tx W0 (upd L 0 true) (upd S 8 (.map (some w.heap.size))) (w.alloc (.map #[] 0)) := by
  have m4 : L 4 = true → ∃ g, S 10 = .map (some g) ∧ B ≤ g ∧ MapIs (w.alloc (.map #[] 0)) g _ := fun hl => by obtain ⟨g, q1, q2, q3⟩ := h.m4 hl; exact ⟨g, q1, q2, q3.alloc _⟩
  have nm4 : L 4 = true → S 10 ≠ .map (some w.heap.size) := fun hl e => by obtain ⟨g, q1, q2, q3⟩ := h.m4 hl; rw [q1] at e; injection e with e; injection e with e; have := q3.lt; omega
  have m8 : L 8 = true → ∃ g, S 12 = .map (some g) ∧ B ≤ g ∧ MapIs (w.alloc (.map #[] 0)) g _ := fun hl => by obtain ⟨g, q1, q2, q3⟩ := h.m8 hl; exact ⟨g, q1, q2, q3.alloc _⟩
  have nm8 : L 8 = true → S 12 ≠ .map (some w.heap.size) := fun hl e => by obtain ⟨g, q1, q2, q3⟩ := h.m8 hl; rw [q1] at e; injection e with e; injection e with e; have := q3.lt; omega
  obtain ⟨z1, z2⟩ := h.a0 hi
  have new : MapIs (w.alloc (.map #[] 0)) w.heap.size (c2 kA kB 9 10 (upd L 0 true 1) (upd L 0 true 2)) := by
    rw [upd_other L true (show 1 ≠ 0 by decide), upd_other L true (show 2 ≠ 0 by decide), z1, z2, c2_none]; exact MapIs.new w
  have nv : ¬ L 3 = true := fun hl => by have := (h.v3 hl).2.1; rw [hi] at this; cases this
  have n13 : ¬ L 13 = true := fun hl => nv (h.v13 hl).2.1
  have n15 : ¬ L 15 = true := fun hl => n13 (h.v15 hl).2
  exact { below := ((h.below.trans ((Below.refl _ _).alloc hB _))), s1 := (h.s1), s2 := (h.s2), a0 := (fun hl => by cases (upd_same L 0 true).symm.trans hl), a4 := (h.a4), a8 := (h.a8), m0 := (fun _ => ⟨w.heap.size, upd_same S 8 _, hB, new⟩), m4 := (m4), m8 := (m8), d04 := (fun _ hl e => nm4 hl (e.symm.trans (upd_same S 8 _))), d08 := (fun _ hl e => nm8 hl (e.symm.trans (upd_same S 8 _))), d48 := (h.d48), v3 := (fun hl => absurd hl nv), v7 := (h.v7), v12 := (h.v12), v13 := (fun hl => absurd hl n13), v14 := (h.v14), v15 := (fun hl => absurd hl n15), v16 := (h.v16), v17 := (h.v17), v18 := (h.v18), v19 := (h.v19) }
theorem OI.make4 {B tb lv : Nat} {tx : ByteArray} {W0 : World} {L : Nat → Bool} {S : Nat → Value} {w : World} (h : OI B tb lv tx W0 L S w) (hB : B ≤ w.heap.size) (hi : L 4 = false) : OI B tb lv tx W0 (upd L 4 true) (upd S 10 (.map (some w.heap.size))) (w.alloc (.map #[] 0)) := by
  have m0 : L 0 = true → ∃ g, S 8 = .map (some g) ∧ B ≤ g ∧ MapIs (w.alloc (.map #[] 0)) g _ := fun hl => by obtain ⟨g, q1, q2, q3⟩ := h.m0 hl; exact ⟨g, q1, q2, q3.alloc _⟩
  have nm0 : L 0 = true → S 8 ≠ .map (some w.heap.size) := fun hl e => by obtain ⟨g, q1, q2, q3⟩ := h.m0 hl; rw [q1] at e; injection e with e; injection e with e; have := q3.lt; omega
  have m8 : L 8 = true → ∃ g, S 12 = .map (some g) ∧ B ≤ g ∧ MapIs (w.alloc (.map #[] 0)) g _ := fun hl => by obtain ⟨g, q1, q2, q3⟩ := h.m8 hl; exact ⟨g, q1, q2, q3.alloc _⟩
  have nm8 : L 8 = true → S 12 ≠ .map (some w.heap.size) := fun hl e => by obtain ⟨g, q1, q2, q3⟩ := h.m8 hl; rw [q1] at e; injection e with e; injection e with e; have := q3.lt; omega
  obtain ⟨z1, z2⟩ := h.a4 hi
  have new : MapIs (w.alloc (.map #[] 0)) w.heap.size (c2 kC kD 4 5 (upd L 4 true 5) (upd L 4 true 6)) := by
    rw [upd_other L true (show 5 ≠ 4 by decide), upd_other L true (show 6 ≠ 4 by decide), z1, z2, c2_none]; exact MapIs.new w
  have nv : ¬ L 7 = true := fun hl => by have := (h.v7 hl).2.1; rw [hi] at this; cases this
  have n13 : ¬ L 13 = true := fun hl => nv (h.v13 hl).2.2.1
  have n15 : ¬ L 15 = true := fun hl => n13 (h.v15 hl).2
  exact { below := ((h.below.trans ((Below.refl _ _).alloc hB _))), s1 := (h.s1), s2 := (h.s2), a0 := (h.a0), a4 := (fun hl => by cases (upd_same L 4 true).symm.trans hl), a8 := (h.a8), m0 := (m0), m4 := (fun _ => ⟨w.heap.size, upd_same S 10 _, hB, new⟩), m8 := (m8), d04 := (fun hl _ e => nm0 hl (e.trans (upd_same S 10 _))), d08 := (h.d08), d48 := (fun _ hl e => nm8 hl (e.symm.trans (upd_same S 10 _))), v3 := (h.v3), v7 := (fun hl => absurd hl nv), v12 := (h.v12), v13 := (fun hl => absurd hl n13), v14 := (h.v14), v15 := (fun hl => absurd hl n15), v16 := (h.v16), v17 := (h.v17), v18 := (h.v18), v19 := (h.v19) }
theorem OI.make8 {B tb lv : Nat} {tx : ByteArray} {W0 : World} {L : Nat → Bool} {S : Nat → Value} {w : World} (h : OI B tb lv tx W0 L S w) (hB : B ≤ w.heap.size) (hi : L 8 = false) : OI B tb lv tx W0 (upd L 8 true) (upd S 12 (.map (some w.heap.size))) (w.alloc (.map #[] 0)) := by
  have m0 : L 0 = true → ∃ g, S 8 = .map (some g) ∧ B ≤ g ∧ MapIs (w.alloc (.map #[] 0)) g _ := fun hl => by obtain ⟨g, q1, q2, q3⟩ := h.m0 hl; exact ⟨g, q1, q2, q3.alloc _⟩
  have nm0 : L 0 = true → S 8 ≠ .map (some w.heap.size) := fun hl e => by obtain ⟨g, q1, q2, q3⟩ := h.m0 hl; rw [q1] at e; injection e with e; injection e with e; have := q3.lt; omega
  have m4 : L 4 = true → ∃ g, S 10 = .map (some g) ∧ B ≤ g ∧ MapIs (w.alloc (.map #[] 0)) g _ := fun hl => by obtain ⟨g, q1, q2, q3⟩ := h.m4 hl; exact ⟨g, q1, q2, q3.alloc _⟩
  have nm4 : L 4 = true → S 10 ≠ .map (some w.heap.size) := fun hl e => by obtain ⟨g, q1, q2, q3⟩ := h.m4 hl; rw [q1] at e; injection e with e; injection e with e; have := q3.lt; omega
  obtain ⟨z1, z2, z3⟩ := h.a8 hi
  have new : MapIs (w.alloc (.map #[] 0)) w.heap.size (c3 kE kF kG 6 7 8 (upd L 8 true 9) (upd L 8 true 10) (upd L 8 true 11)) := by
    rw [upd_other L true (show 9 ≠ 8 by decide), upd_other L true (show 10 ≠ 8 by decide), upd_other L true (show 11 ≠ 8 by decide), z1, z2, z3, c3_none]; exact MapIs.new w
  have nv : ¬ L 12 = true := fun hl => by have := (h.v12 hl).2.1; rw [hi] at this; cases this
  have n13 : ¬ L 13 = true := fun hl => nv (h.v13 hl).2.2.2
  have n15 : ¬ L 15 = true := fun hl => n13 (h.v15 hl).2
  exact { below := ((h.below.trans ((Below.refl _ _).alloc hB _))), s1 := (h.s1), s2 := (h.s2), a0 := (h.a0), a4 := (h.a4), a8 := (fun hl => by cases (upd_same L 8 true).symm.trans hl), m0 := (m0), m4 := (m4), m8 := (fun _ => ⟨w.heap.size, upd_same S 12 _, hB, new⟩), d04 := (h.d04), d08 := (fun hl _ e => nm0 hl (e.trans (upd_same S 12 _))), d48 := (fun hl _ e => nm4 hl (e.trans (upd_same S 12 _))), v3 := (h.v3), v7 := (h.v7), v12 := (fun hl => absurd hl nv), v13 := (fun hl => absurd hl n13), v14 := (h.v14), v15 := (fun hl => absurd hl n15), v16 := (h.v16), v17 := (h.v17), v18 := (h.v18), v19 := (h.v19) }
theorem OI.ins1 {B tb lv : Nat} {tx : ByteArray} {W0 : World} {L : Nat → Bool} {S : Nat → Value} {w : World} (h : OI B tb lv tx W0 L S w) (hi : L 1 = false) (hd : L 0 = true) : ∃ w', (Instr.mapUpdate 147 (S 8) (.string kA) (.int .i64 9)).run Tryd.prog w = .ok () w' ∧ OI B tb lv tx W0 (upd L 1 true) S w' := by
  obtain ⟨g, q1, q2, q3⟩ := h.m0 hd
  rw [hi] at q3
  obtain ⟨e1, e2⟩ := c2_fst 9 10 (L 2) (show kA ≠ kB by decide)
  obtain ⟨w', r1, r2, r3, r4⟩ := q3.ins kA 9 Tryd.underlying147 Tryd.underlying9 e1
  rw [e2] at r2
  refine ⟨w', by rw [q1]; exact r1, ?_⟩
  have m4 : L 4 = true → ∃ g, S 10 = .map (some g) ∧ B ≤ g ∧ MapIs w' g _ := fun hl => by obtain ⟨g', p1, p2, p3⟩ := h.m4 hl; exact ⟨g', p1, p2, r4 g' _ (fun e => (h.d04 hd hl) (q1.trans (by rw [e] at p1; exact p1.symm))) p3⟩
  have m8 : L 8 = true → ∃ g, S 12 = .map (some g) ∧ B ≤ g ∧ MapIs w' g _ := fun hl => by obtain ⟨g', p1, p2, p3⟩ := h.m8 hl; exact ⟨g', p1, p2, r4 g' _ (fun e => (h.d08 hd hl) (q1.trans (by rw [e] at p1; exact p1.symm))) p3⟩
  exact { below := (h.below.trans (r3 B q2)), s1 := (h.s1), s2 := (h.s2), a0 := (fun hl => by rw [show upd L 1 true 0 = L 0 from upd_other _ _ (by decide), hd] at hl; cases hl), a4 := (h.a4), a8 := (h.a8), m0 := (fun _ => ⟨g, q1, q2, r2⟩), m4 := (m4), m8 := (m8), d04 := (h.d04), d08 := (h.d08), d48 := (h.d48), v3 := (fun hl => by have := (h.v3 hl).2.2.1; rw [hi] at this; cases this), v7 := (h.v7), v12 := (h.v12), v13 := (h.v13), v14 := (h.v14), v15 := (h.v15), v16 := (h.v16), v17 := (h.v17), v18 := (h.v18), v19 := (h.v19) }
theorem OI.ins2 {B tb lv : Nat} {tx : ByteArray} {W0 : World} {L : Nat → Bool} {S : Nat → Value} {w : World} (h : OI B tb lv tx W0 L S w) (hi : L 2 = false) (hd : L 0 = true) : ∃ w', (Instr.mapUpdate 147 (S 8) (.string kB) (.int .i64 10)).run Tryd.prog w = .ok () w' ∧ OI B tb lv tx W0 (upd L 2 true) S w' := by
  obtain ⟨g, q1, q2, q3⟩ := h.m0 hd
  rw [hi] at q3
  obtain ⟨e1, e2⟩ := c2_snd 9 10 (L 1) (show kA ≠ kB by decide)
  obtain ⟨w', r1, r2, r3, r4⟩ := q3.ins kB 10 Tryd.underlying147 Tryd.underlying9 e1
  rw [e2] at r2
  refine ⟨w', by rw [q1]; exact r1, ?_⟩
  have m4 : L 4 = true → ∃ g, S 10 = .map (some g) ∧ B ≤ g ∧ MapIs w' g _ := fun hl => by obtain ⟨g', p1, p2, p3⟩ := h.m4 hl; exact ⟨g', p1, p2, r4 g' _ (fun e => (h.d04 hd hl) (q1.trans (by rw [e] at p1; exact p1.symm))) p3⟩
  have m8 : L 8 = true → ∃ g, S 12 = .map (some g) ∧ B ≤ g ∧ MapIs w' g _ := fun hl => by obtain ⟨g', p1, p2, p3⟩ := h.m8 hl; exact ⟨g', p1, p2, r4 g' _ (fun e => (h.d08 hd hl) (q1.trans (by rw [e] at p1; exact p1.symm))) p3⟩
  exact { below := (h.below.trans (r3 B q2)), s1 := (h.s1), s2 := (h.s2), a0 := (fun hl => by rw [show upd L 2 true 0 = L 0 from upd_other _ _ (by decide), hd] at hl; cases hl), a4 := (h.a4), a8 := (h.a8), m0 := (fun _ => ⟨g, q1, q2, r2⟩), m4 := (m4), m8 := (m8), d04 := (h.d04), d08 := (h.d08), d48 := (h.d48), v3 := (fun hl => by have := (h.v3 hl).2.2.2; rw [hi] at this; cases this), v7 := (h.v7), v12 := (h.v12), v13 := (h.v13), v14 := (h.v14), v15 := (h.v15), v16 := (h.v16), v17 := (h.v17), v18 := (h.v18), v19 := (h.v19) }
theorem OI.ins5 {B tb lv : Nat} {tx : ByteArray} {W0 : World} {L : Nat → Bool} {S : Nat → Value} {w : World} (h : OI B tb lv tx W0 L S w) (hi : L 5 = false) (hd : L 4 = true) : ∃ w', (Instr.mapUpdate 147 (S 10) (.string kC) (.int .i64 4)).run Tryd.prog w = .ok () w' ∧ OI B tb lv tx W0 (upd L 5 true) S w' := by
  obtain ⟨g, q1, q2, q3⟩ := h.m4 hd
  rw [hi] at q3
  obtain ⟨e1, e2⟩ := c2_fst 4 5 (L 6) (show kC ≠ kD by decide)
  obtain ⟨w', r1, r2, r3, r4⟩ := q3.ins kC 4 Tryd.underlying147 Tryd.underlying9 e1
  rw [e2] at r2
  refine ⟨w', by rw [q1]; exact r1, ?_⟩
  have m0 : L 0 = true → ∃ g, S 8 = .map (some g) ∧ B ≤ g ∧ MapIs w' g _ := fun hl => by obtain ⟨g', p1, p2, p3⟩ := h.m0 hl; exact ⟨g', p1, p2, r4 g' _ (fun e => (h.d04 hl hd) (p1.trans (by rw [e]; exact q1.symm))) p3⟩
  have m8 : L 8 = true → ∃ g, S 12 = .map (some g) ∧ B ≤ g ∧ MapIs w' g _ := fun hl => by obtain ⟨g', p1, p2, p3⟩ := h.m8 hl; exact ⟨g', p1, p2, r4 g' _ (fun e => (h.d48 hd hl) (q1.trans (by rw [e] at p1; exact p1.symm))) p3⟩
  exact { below := (h.below.trans (r3 B q2)), s1 := (h.s1), s2 := (h.s2), a0 := (h.a0), a4 := (fun hl => by rw [show upd L 5 true 4 = L 4 from upd_other _ _ (by decide), hd] at hl; cases hl), a8 := (h.a8), m0 := (m0), m4 := (fun _ => ⟨g, q1, q2, r2⟩), m8 := (m8), d04 := (h.d04), d08 := (h.d08), d48 := (h.d48), v3 := (h.v3), v7 := (fun hl => by have := (h.v7 hl).2.2.1; rw [hi] at this; cases this), v12 := (h.v12), v13 := (h.v13), v14 := (h.v14), v15 := (h.v15), v16 := (h.v16), v17 := (h.v17), v18 := (h.v18), v19 := (h.v19) }
theorem OI.ins6 {B tb lv : Nat} {tx : ByteArray} {W0 : World} {L : Nat → Bool} {S : Nat → Value} {w : World} (h : OI B tb lv tx W0 L S w) (hi : L 6 = false) (hd : L 4 = true) : ∃ w', (Instr.mapUpdate 147 (S 10) (.string kD) (.int .i64 5)).run Tryd.prog w = .ok () w' ∧ OI B tb lv tx W0 (upd L 6 true) S w' := by
  obtain ⟨g, q1, q2, q3⟩ := h.m4 hd
  rw [hi] at q3
  obtain ⟨e1, e2⟩ := c2_snd 4 5 (L 5) (show kC ≠ kD by decide)
  obtain ⟨w', r1, r2, r3, r4⟩ := q3.ins kD 5 Tryd.underlying147 Tryd.underlying9 e1
  rw [e2] at r2
  refine ⟨w', by rw [q1]; exact r1, ?_⟩
  have m0 : L 0 = true → ∃ g, S 8 = .map (some g) ∧ B ≤ g ∧ MapIs w' g _ := fun hl => by obtain ⟨g', p1, p2, p3⟩ := h.m0 hl; exact ⟨g', p1, p2, r4 g' _ (fun e => (h.d04 hl hd) (p1.trans (by rw [e]; exact q1.symm))) p3⟩
  have m8 : L 8 = true → ∃ g, S 12 = .map (some g) ∧ B ≤ g ∧ MapIs w' g _ := fun hl => by obtain ⟨g', p1, p2, p3⟩ := h.m8 hl; exact ⟨g', p1, p2, r4 g' _ (fun e => (h.d48 hd hl) (q1.trans (by rw [e] at p1; exact p1.symm))) p3⟩
  exact { below := (h.below.trans (r3 B q2)), s1 := (h.s1), s2 := (h.s2), a0 := (h.a0), a4 := (fun hl => by rw [show upd L 6 true 4 = L 4 from upd_other _ _ (by decide), hd] at hl; cases hl), a8 := (h.a8), m0 := (m0), m4 := (fun _ => ⟨g, q1, q2, r2⟩), m8 := (m8), d04 := (h.d04), d08 := (h.d08), d48 := (h.d48), v3 := (h.v3), v7 := (fun hl => by have := (h.v7 hl).2.2.2; rw [hi] at this; cases this), v12 := (h.v12), v13 := (h.v13), v14 := (h.v14), v15 := (h.v15), v16 := (h.v16), v17 := (h.v17), v18 := (h.v18), v19 := (h.v19) }
theorem OI.ins9 {B tb lv : Nat} {tx : ByteArray} {W0 : World} {L : Nat → Bool} {S : Nat → Value} {w : World} (h : OI B tb lv tx W0 L S w) (hi : L 9 = false) (hd : L 8 = true) : ∃ w', (Instr.mapUpdate 147 (S 12) (.string kE) (.int .i64 6)).run Tryd.prog w = .ok () w' ∧ OI B tb lv tx W0 (upd L 9 true) S w' := by
  obtain ⟨g, q1, q2, q3⟩ := h.m8 hd
  rw [hi] at q3
  obtain ⟨e1, e2⟩ := c3_fst 6 7 8 (L 10) (L 11) (show kE ≠ kF by decide) (show kE ≠ kG by decide)
  obtain ⟨w', r1, r2, r3, r4⟩ := q3.ins kE 6 Tryd.underlying147 Tryd.underlying9 e1
  rw [e2] at r2
  refine ⟨w', by rw [q1]; exact r1, ?_⟩
  have m0 : L 0 = true → ∃ g, S 8 = .map (some g) ∧ B ≤ g ∧ MapIs w' g _ := fun hl => by obtain ⟨g', p1, p2, p3⟩ := h.m0 hl; exact ⟨g', p1, p2, r4 g' _ (fun e => (h.d08 hl hd) (p1.trans (by rw [e]; exact q1.symm))) p3⟩
  have m4 : L 4 = true → ∃ g, S 10 = .map (some g) ∧ B ≤ g ∧ MapIs w' g _ := fun hl => by obtain ⟨g', p1, p2, p3⟩ := h.m4 hl; exact ⟨g', p1, p2, r4 g' _ (fun e => (h.d48 hl hd) (p1.trans (by rw [e]; exact q1.symm))) p3⟩
  exact { below := (h.below.trans (r3 B q2)), s1 := (h.s1), s2 := (h.s2), a0 := (h.a0), a4 := (h.a4), a8 := (fun hl => by rw [show upd L 9 true 8 = L 8 from upd_other _ _ (by decide), hd] at hl; cases hl), m0 := (m0), m4 := (m4), m8 := (fun _ => ⟨g, q1, q2, r2⟩), d04 := (h.d04), d08 := (h.d08), d48 := (h.d48), v3 := (h.v3), v7 := (h.v7), v12 := (fun hl => by have := (h.v12 hl).2.2.1; rw [hi] at this; cases this), v13 := (h.v13), v14 := (h.v14), v15 := (h.v15), v16 := (h.v16), v17 := (h.v17), v18 := (h.v18), v19 := (h.v19) }
theorem OI.ins10 {B tb lv : Nat} {tx : ByteArray} {W0 : World} {L : Nat → Bool} {S : Nat → Value} {w : World} (h : OI B tb lv tx W0 L S w) (hi : L 10 = false) (hd : L 8 = true) : ∃ w', (Instr.mapUpdate 147 (S 12) (.string kF) (.int .i64 7)).run Tryd.prog w = .ok () w' ∧ OI B tb lv tx W0 (upd L 10 true) S w' := by
  obtain ⟨g, q1, q2, q3⟩ := h.m8 hd
  rw [hi] at q3
  obtain ⟨e1, e2⟩ := c3_snd 6 7 8 (L 9) (L 11) (show kE ≠ kF by decide) (show kF ≠ kG by decide)
  obtain ⟨w', r1, r2, r3, r4⟩ := q3.ins kF 7 Tryd.underlying147 Tryd.underlying9 e1
  rw [e2] at r2
  refine ⟨w', by rw [q1]; exact r1, ?_⟩
  have m0 : L 0 = true → ∃ g, S 8 = .map (some g) ∧ B ≤ g ∧ MapIs w' g _ := fun hl => by obtain ⟨g', p1, p2, p3⟩ := h.m0 hl; exact ⟨g', p1, p2, r4 g' _ (fun e => (h.d08 hl hd) (p1.trans (by rw [e]; exact q1.symm))) p3⟩
  have m4 : L 4 = true → ∃ g, S 10 = .map (some g) ∧ B ≤ g ∧ MapIs w' g _ := fun hl => by obtain ⟨g', p1, p2, p3⟩ := h.m4 hl; exact ⟨g', p1, p2, r4 g' _ (fun e => (h.d48 hl hd) (p1.trans (by rw [e]; exact q1.symm))) p3⟩
  exact { below := (h.below.trans (r3 B q2)), s1 := (h.s1), s2 := (h.s2), a0 := (h.a0), a4 := (h.a4), a8 := (fun hl => by rw [show upd L 10 true 8 = L 8 from upd_other _ _ (by decide), hd] at hl; cases hl), m0 := (m0), m4 := (m4), m8 := (fun _ => ⟨g, q1, q2, r2⟩), d04 := (h.d04), d08 := (h.d08), d48 := (h.d48), v3 := (h.v3), v7 := (h.v7), v12 := (fun hl => by have := (h.v12 hl).2.2.2.1; rw [hi] at this; cases this), v13 := (h.v13), v14 := (h.v14), v15 := (h.v15), v16 := (h.v16), v17 := (h.v17), v18 := (h.v18), v19 := (h.v19) }
theorem OI.ins11 {B tb lv : Nat} {tx : ByteArray} {W0 : World} {L : Nat → Bool} {S : Nat → Value} {w : World} (h : OI B tb lv tx W0 L S w) (hi : L 11 = false) (hd : L 8 = true) : ∃ w', (Instr.mapUpdate 147 (S 12) (.string kG) (.int .i64 8)).run Tryd.prog w = .ok () w' ∧ OI B tb lv tx W0 (upd L 11 true) S w' := by
  obtain ⟨g, q1, q2, q3⟩ := h.m8 hd
  rw [hi] at q3
  obtain ⟨e1, e2⟩ := c3_thd 6 7 8 (L 9) (L 10) (show kE ≠ kG by decide) (show kF ≠ kG by decide)
  obtain ⟨w', r1, r2, r3, r4⟩ := q3.ins kG 8 Tryd.underlying147 Tryd.underlying9 e1
  rw [e2] at r2
  refine ⟨w', by rw [q1]; exact r1, ?_⟩
  have m0 : L 0 = true → ∃ g, S 8 = .map (some g) ∧ B ≤ g ∧ MapIs w' g _ := fun hl => by obtain ⟨g', p1, p2, p3⟩ := h.m0 hl; exact ⟨g', p1, p2, r4 g' _ (fun e => (h.d08 hl hd) (p1.trans (by rw [e]; exact q1.symm))) p3⟩
  have m4 : L 4 = true → ∃ g, S 10 = .map (some g) ∧ B ≤ g ∧ MapIs w' g _ := fun hl => by obtain ⟨g', p1, p2, p3⟩ := h.m4 hl; exact ⟨g', p1, p2, r4 g' _ (fun e => (h.d48 hl hd) (p1.trans (by rw [e]; exact q1.symm))) p3⟩
  exact { below := (h.below.trans (r3 B q2)), s1 := (h.s1), s2 := (h.s2), a0 := (h.a0), a4 := (h.a4), a8 := (fun hl => by rw [show upd L 11 true 8 = L 8 from upd_other _ _ (by decide), hd] at hl; cases hl), m0 := (m0), m4 := (m4), m8 := (fun _ => ⟨g, q1, q2, r2⟩), d04 := (h.d04), d08 := (h.d08), d48 := (h.d48), v3 := (h.v3), v7 := (h.v7), v12 := (fun hl => by have := (h.v12 hl).2.2.2.2; rw [hi] at this; cases this), v13 := (h.v13), v14 := (h.v14), v15 := (h.v15), v16 := (h.v16), v17 := (h.v17), v18 := (h.v18), v19 := (h.v19) }
theorem OI.val3 {B tb lv : Nat} {tx : ByteArray} {W0 : World} {L : Nat → Bool} {S : Nat → Value} {w : World} (h : OI B tb lv tx W0 L S w) (h0 : L 0 = true) (h1 : L 1 = true) (h2 : L 2 = true) : OI B tb lv tx W0 (upd L 3 true) (upd S 9 (S 8)) w := by
  exact { below := (h.below), s1 := (h.s1), s2 := (h.s2), a0 := (h.a0), a4 := (h.a4), a8 := (h.a8), m0 := (h.m0), m4 := (h.m4), m8 := (h.m8), d04 := (h.d04), d08 := (h.d08), d48 := (h.d48), v3 := (fun _ => ⟨rfl, h0, h1, h2⟩), v7 := (h.v7), v12 := (h.v12), v13 := (fun hl => ⟨(h.v13 hl).1, rfl, (h.v13 hl).2.2⟩), v14 := (h.v14), v15 := (h.v15), v16 := (h.v16), v17 := (h.v17), v18 := (h.v18), v19 := (h.v19) }
theorem OI.val7 {B tb lv : Nat} {tx : ByteArray} {W0 : World} {L : Nat → Bool} {S : Nat → Value} {w : World} (h : OI B tb lv tx W0 L S w) (h0 : L 4 = true) (h1 : L 5 = true) (h2 : L 6 = true) : OI B tb lv tx W0 (upd L 7 true) (upd S 11 (S 10)) w := by
  exact { below := (h.below), s1 := (h.s1), s2 := (h.s2), a0 := (h.a0), a4 := (h.a4), a8 := (h.a8), m0 := (h.m0), m4 := (h.m4), m8 := (h.m8), d04 := (h.d04), d08 := (h.d08), d48 := (h.d48), v3 := (h.v3), v7 := (fun _ => ⟨rfl, h0, h1, h2⟩), v12 := (h.v12), v13 := (fun hl => ⟨(h.v13 hl).1, (h.v13 hl).2.1, rfl, (h.v13 hl).2.2.2⟩), v14 := (h.v14), v15 := (h.v15), v16 := (h.v16), v17 := (h.v17), v18 := (h.v18), v19 := (h.v19) }
theorem OI.val12 {B tb lv : Nat} {tx : ByteArray} {W0 : World} {L : Nat → Bool} {S : Nat → Value} {w : World} (h : OI B tb lv tx W0 L S w) (h0 : L 8 = true) (h1 : L 9 = true) (h2 : L 10 = true) (h3 : L 11 = true) : OI B tb lv tx W0 (upd L 12 true) (upd S 13 (S 12)) w := by
  exact { below := (h.below), s1 := (h.s1), s2 := (h.s2), a0 := (h.a0), a4 := (h.a4), a8 := (h.a8), m0 := (h.m0), m4 := (h.m4), m8 := (h.m8), d04 := (h.d04), d08 := (h.d08), d48 := (h.d48), v3 := (h.v3), v7 := (h.v7), v12 := (fun _ => ⟨rfl, h0, h1, h2, h3⟩), v13 := (fun hl => ⟨(h.v13 hl).1, (h.v13 hl).2.1, (h.v13 hl).2.2.1, rfl⟩), v14 := (h.v14), v15 := (h.v15), v16 := (h.v16), v17 := (h.v17), v18 := (h.v18), v19 := (h.v19) }
theorem OI.val13 {B tb lv : Nat} {tx : ByteArray} {W0 : World} {L : Nat → Bool} {S : Nat → Value} {w : World} (h : OI B tb lv tx W0 L S w) (h0 : L 3 = true) (h1 : L 7 = true) (h2 : L 12 = true) : OI B tb lv tx W0 (upd L 13 true) (upd S 14 (.agg #[S 8, S 10, S 12])) w := by
  exact { below := (h.below), s1 := (h.s1), s2 := (h.s2), a0 := (h.a0), a4 := (h.a4), a8 := (h.a8), m0 := (h.m0), m4 := (h.m4), m8 := (h.m8), d04 := (h.d04), d08 := (h.d08), d48 := (h.d48), v3 := (h.v3), v7 := (h.v7), v12 := (h.v12), v13 := (fun _ => ⟨rfl, h0, h1, h2⟩), v14 := (h.v14), v15 := (fun hl => ⟨(h.v15 hl).1, rfl⟩), v16 := (h.v16), v17 := (h.v17), v18 := (h.v18), v19 := (h.v19) }
theorem OI.val14 {B tb lv : Nat} {tx : ByteArray} {W0 : World} {L : Nat → Bool} {S : Nat → Value} {w : World} (h : OI B tb lv tx W0 L S w) : OI B tb lv tx W0 (upd L 14 true) (upd S 15 (.int .i64 lv)) w := by
  exact { below := (h.below), s1 := (h.s1), s2 := (h.s2), a0 := (h.a0), a4 := (h.a4), a8 := (h.a8), m0 := (h.m0), m4 := (h.m4), m8 := (h.m8), d04 := (h.d04), d08 := (h.d08), d48 := (h.d48), v3 := (h.v3), v7 := (h.v7), v12 := (h.v12), v13 := (h.v13), v14 := (fun _ => rfl), v15 := (h.v15), v16 := (h.v16), v17 := (h.v17), v18 := (h.v18), v19 := (h.v19) }
theorem OI.val15 {B tb lv : Nat} {tx : ByteArray} {W0 : World} {L : Nat → Bool} {S : Nat → Value} {w : World} (h : OI B tb lv tx W0 L S w) (h0 : L 13 = true) : OI B tb lv tx W0 (upd L 15 true) (upd S 16 (pick3 lv (S 8) (S 10) (S 12))) w := by
  exact { below := (h.below), s1 := (h.s1), s2 := (h.s2), a0 := (h.a0), a4 := (h.a4), a8 := (h.a8), m0 := (h.m0), m4 := (h.m4), m8 := (h.m8), d04 := (h.d04), d08 := (h.d08), d48 := (h.d48), v3 := (h.v3), v7 := (h.v7), v12 := (h.v12), v13 := (h.v13), v14 := (h.v14), v15 := (fun _ => ⟨rfl, h0⟩), v16 := (h.v16), v17 := (h.v17), v18 := (h.v18), v19 := (h.v19) }
theorem OI.val16 {B tb lv : Nat} {tx : ByteArray} {W0 : World} {L : Nat → Bool} {S : Nat → Value} {w : World} (h : OI B tb lv tx W0 L S w) : OI B tb lv tx W0 (upd L 16 true) (upd S 17 (.pointer (some ⟨tb, 1, none⟩))) w := by
  exact { below := (h.below), s1 := (h.s1), s2 := (h.s2), a0 := (h.a0), a4 := (h.a4), a8 := (h.a8), m0 := (h.m0), m4 := (h.m4), m8 := (h.m8), d04 := (h.d04), d08 := (h.d08), d48 := (h.d48), v3 := (h.v3), v7 := (h.v7), v12 := (h.v12), v13 := (h.v13), v14 := (h.v14), v15 := (h.v15), v16 := (fun _ => rfl), v17 := (h.v17), v18 := (h.v18), v19 := (h.v19) }
theorem OI.val17 {B tb lv : Nat} {tx : ByteArray} {W0 : World} {L : Nat → Bool} {S : Nat → Value} {w : World} (h : OI B tb lv tx W0 L S w) : OI B tb lv tx W0 (upd L 17 true) (upd S 18 (.string tx)) w := by
  exact { below := (h.below), s1 := (h.s1), s2 := (h.s2), a0 := (h.a0), a4 := (h.a4), a8 := (h.a8), m0 := (h.m0), m4 := (h.m4), m8 := (h.m8), d04 := (h.d04), d08 := (h.d08), d48 := (h.d48), v3 := (h.v3), v7 := (h.v7), v12 := (h.v12), v13 := (h.v13), v14 := (h.v14), v15 := (h.v15), v16 := (h.v16), v17 := (fun _ => rfl), v18 := (h.v18), v19 := (h.v19) }
theorem OI.val18 {B tb lv : Nat} {tx : ByteArray} {W0 : World} {L : Nat → Bool} {S : Nat → Value} {w : World} (h : OI B tb lv tx W0 L S w) : OI B tb lv tx W0 (upd L 18 true) (upd S 19 (.int .i64 (ans3 lv tx))) w := by
  exact { below := (h.below), s1 := (h.s1), s2 := (h.s2), a0 := (h.a0), a4 := (h.a4), a8 := (h.a8), m0 := (h.m0), m4 := (h.m4), m8 := (h.m8), d04 := (h.d04), d08 := (h.d08), d48 := (h.d48), v3 := (h.v3), v7 := (h.v7), v12 := (h.v12), v13 := (h.v13), v14 := (h.v14), v15 := (h.v15), v16 := (h.v16), v17 := (h.v17), v18 := (fun _ => rfl), v19 := (h.v19) }
theorem OI.val19 {B tb lv : Nat} {tx : ByteArray} {W0 : World} {L : Nat → Bool} {S : Nat → Value} {w : World} (h : OI B tb lv tx W0 L S w) : OI B tb lv tx W0 (upd L 19 true) (upd S 4 (.int .i64 (ans3 lv tx))) w := by
  exact { below := (h.below), s1 := (h.s1), s2 := (h.s2), a0 := (h.a0), a4 := (h.a4), a8 := (h.a8), m0 := (h.m0), m4 := (h.m4), m8 := (h.m8), d04 := (h.d04), d08 := (h.d08), d48 := (h.d48), v3 := (h.v3), v7 := (h.v7), v12 := (h.v12), v13 := (h.v13), v14 := (h.v14), v15 := (h.v15), v16 := (h.v16), v17 := (h.v17), v18 := (h.v18), v19 := (fun _ => rfl) }
end Go.Proofs.YtgkfmeccipgnjaaDoor
