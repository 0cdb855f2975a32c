/- Contract of the reference's SameExpr. -/
import Derived.Test.YtgkfmeccipgnjaaDoorEk
namespace Go.Proofs.YtgkfmeccipgnjaaDoor
open Go.RowKit

/-- What the reference's SameExpr answers of two expressions, wherever they stand. -/
def SameR (a a' : Ex) : Prop := ∀ (ok ok' : Nat → Prop) (W : World) (A B : Option Addr) (c c' : Nat), OfAt ok W a (.slice A a.len c) → OfAt ok' W a' (.slice B a'.len c') →
  Calls Tryd.prog 29 #[.agg #[.int .i64 a.kind, .int .i64 a.num, .string a.nm, .slice A a.len c], .agg #[.int .i64 a'.kind, .int .i64 a'.num, .string a'.nm, .slice B a'.len c']] W fun e w' => e = .returned (.bool (decide (a = a'))) ∧ Below W.heap.size W w'

theorem heap_alloc_newE2 (w : World) (o : Obj) {n : Nat} (h : w.heap.size = n) : (w.alloc o).heap[n]? = some o := by
  subst h; exact heap_alloc_new w o
theorem nm_beq {e f : Ex} : (e.nm.toList == f.nm.toList) = decide (e.nm = f.nm) := by
  by_cases h : e.nm = f.nm
  · simp [h]
  · simp only [h, decide_false, beq_eq_false_iff_ne, ne_eq]
    intro hh
    apply h
    rw [toList_data, toList_data] at hh
    exact (bytes_of_list hh).trans rfl

set_option maxRecDepth 100000 in
set_option maxHeartbeats 4000000 in
theorem refsame_other (e f : Ex) (h : ¬ (e.kind = f.kind ∧ e.num = f.num ∧ e.nm = f.nm ∧ e.len = f.len)) (w : World) (A B : Option Addr) (c c' : Nat) :
    Calls Tryd.prog 29 #[.agg #[.int .i64 e.kind, .int .i64 e.num, .string e.nm, .slice A e.len c], .agg #[.int .i64 f.kind, .int .i64 f.num, .string f.nm, .slice B f.len c']] w fun e' w' => e' = .returned (.bool false) ∧ Below w.heap.size w w' := by
  have hb : ∀ (o1 o2 : Obj), Below w.heap.size w ((w.alloc o1).alloc o2) := fun o1 o2 => ((Below.refl _ _).alloc (Nat.le_refl _) _).alloc (by simp) _
  have HB := Lib.hid hb
  clear hb
  by_cases h1 : e.kind = f.kind
  · have g1 : (e.kind == f.kind) = true := by simp [h1]
    have g1' : (e.kind != f.kind) = false := by simp [h1]
    by_cases h2 : e.num = f.num
    · have g2 : (e.num == f.num) = true := by simp [h2]
      have g2' : (e.num != f.num) = false := by simp [h2]
      by_cases h3 : e.nm = f.nm
      · have g3 : (e.nm.toList == f.nm.toList) = true := by rw [nm_beq]; simp [h3]
        have h4 : ¬ e.len = f.len := fun h4 => h ⟨h1, h2, h3, h4⟩
        have g4 : ((e.len : Int) == (f.len : Int)) = false := by simp only [beq_eq_false_iff_ne]; omega
        have g4' : ((e.len : Int) != (f.len : Int)) = true := by simp; omega
        clear h h1 h2 h3 h4
        go_enter Tryd.func29, Tryd.ntmps29
        go_wp2_with fail
        go_ret
        exact ⟨rfl, HB.out _ _⟩
      · have g3 : (e.nm.toList == f.nm.toList) = false := by rw [nm_beq]; simp [h3]
        clear h h1 h2 h3
        go_enter Tryd.func29, Tryd.ntmps29
        go_wp2_with fail
        go_ret
        exact ⟨rfl, HB.out _ _⟩
    · have g2 : (e.num == f.num) = false := by simp [h2]
      have g2' : (e.num != f.num) = true := by simp [h2]
      clear h h1 h2
      go_enter Tryd.func29, Tryd.ntmps29
      go_wp2_with fail
      go_ret
      exact ⟨rfl, HB.out _ _⟩
  · have g1 : (e.kind == f.kind) = false := by simp [h1]
    have g1' : (e.kind != f.kind) = true := by simp [h1]
    clear h h1
    go_enter Tryd.func29, Tryd.ntmps29
    go_wp2_with fail
    go_ret
    exact ⟨rfl, HB.out _ _⟩

set_option maxRecDepth 100000 in
set_option maxHeartbeats 4000000 in
theorem refsame_same (e f : Ex) (h1 : e.kind = f.kind) (h2 : e.num = f.num) (h3 : e.nm = f.nm) (n : Nat) (he : e.len = n) (hf : f.len = n) (w : World) (A B : Option Addr) (c c' : Nat) (hc : n ≤ c ∧ c ≤ 9223372036854775807 ∧ n ≤ c' ∧ c' ≤ 9223372036854775807)
    (hk : n ≠ 0 → ∃ b off b' off', A = some ⟨b, off, none⟩ ∧ B = some ⟨b', off', none⟩ ∧ b < w.heap.size ∧ b' < w.heap.size ∧ KidsAt w e b off ∧ KidsAt w f b' off')
    (IH : ∀ (i : Nat) (a a' : Ex), (kids e)[i]? = some a → (kids f)[i]? = some a' → SameR a a') :
    Calls Tryd.prog 29 #[.agg #[.int .i64 e.kind, .int .i64 e.num, .string e.nm, .slice A n c], .agg #[.int .i64 f.kind, .int .i64 f.num, .string f.nm, .slice B n c']] w fun e' w' => e' = .returned (.bool (decide (kids e = kids f))) ∧ Below w.heap.size w w' := by
  have g1 : (e.kind == f.kind) = true := by simp [h1]
  have g1' : (e.kind != f.kind) = false := by simp [h1]
  have g2 : (e.num == f.num) = true := by simp [h2]
  have g2' : (e.num != f.num) = false := by simp [h2]
  have g3 : (e.nm.toList == f.nm.toList) = true := by rw [nm_beq]; simp [h3]
  have HKD := Lib.hid hk
  have HI := Lib.hid IH
  have HE := Lib.hid (show (kids e).length = n by rw [kids_len, he])
  have HF := Lib.hid (show (kids f).length = n by rw [kids_len, hf])
  obtain ⟨hc1, hc2, hc3, hc4⟩ := hc
  clear h1 h2 h3 hk IH he hf
  go_enter Tryd.func29, Tryd.ntmps29
  go_wp2_with fail
  obtain ⟨V, hV⟩ : ∃ V, V = (w.alloc (.cells #[.int .i64 e.kind, .int .i64 e.num, .string e.nm, .slice A n c] 48)).alloc (.cells #[.int .i64 f.kind, .int .i64 f.num, .string f.nm, .slice B n c'] 48) := ⟨_, rfl⟩
  have hBV : Below w.heap.size w V := by rw [hV]; exact ((Below.refl _ _).alloc (Nat.le_refl _) _).alloc (by simp) _
  have hVs : V.heap.size = w.heap.size + 2 := by rw [hV]; simp
  have v3 : V.cell? ⟨w.heap.size, 3, none⟩ = some (.slice A n c) := by rw [hV]; exact cell_of_row _ _ 3 _ 48 (0, 0) ((heap_alloc_old _ _ (by simp)).trans (heap_alloc_new _ _))
  have v4 : V.cell? ⟨w.heap.size + 1, 3, none⟩ = some (.slice B n c') := by rw [hV]; exact cell_of_row _ _ 3 _ 48 (0, 0) (heap_alloc_newE2 _ _ (by simp))
  rw [← hV]
  have HBV := Lib.hid hBV
  have HVs := Lib.hid hVs
  have HV3 := Lib.hid v3
  have HV4 := Lib.hid v4
  clear hV hBV hVs v3 v4
  go_loopg [5] n (fun g s5 wr => ∃ j : Nat, j + g = n ∧ s5 = .int .i64 j ∧ Below V.heap.size V wr ∧ Aside ((kids e).take j = (kids f).take j))
  case atStart => exact ⟨0, by omega, rfl, Below.refl _ _, rfl⟩
  case round =>
    obtain ⟨j, hj, rfl, hbr, HA⟩ := hrel
    have HBR := Lib.hid hbr
    have v3 : wr.cell? ⟨w.heap.size, 3, none⟩ = some (.slice A n c) := (hbr.cell (p := ⟨w.heap.size, 3, none⟩) (by rw [HVs.out]; simp)).trans HV3.out
    have v4 : wr.cell? ⟨w.heap.size + 1, 3, none⟩ = some (.slice B n c') := (hbr.cell (p := ⟨w.heap.size + 1, 3, none⟩) (by rw [HVs.out]; simp)).trans HV4.out
    have HBW := Lib.hid (HBV.out.trans (hbr.mono HBV.out.size))
    clear hbr
    have hjn : j ≤ n := by omega
    have HJ := Lib.hid hj
    clear hj
    by_cases hlt : j < n
    · obtain ⟨b, off, b', off', rfl, rfl, hb, hb', hk, hk'⟩ := HKD.out (by omega)
      obtain ⟨a, ha⟩ : ∃ a, (kids e)[j]? = some a := ⟨_, List.getElem?_eq_getElem (by rw [HE.out]; exact hlt)⟩
      obtain ⟨a', ha'⟩ : ∃ a, (kids f)[j]? = some a := ⟨_, List.getElem?_eq_getElem (by rw [HF.out]; exact hlt)⟩
      obtain ⟨A1, cc, ok, h1, h2⟩ := hk.below HBW.out hb j a ha
      obtain ⟨A1', cc', ok', h1', h2'⟩ := hk'.below HBW.out hb' j a' ha'
      obtain ⟨a0, a1, a2, a3⟩ := h1
      obtain ⟨d0, d1, d2, d3⟩ := h1'
      have i1 : (0 : Int) ≤ (j : Int) := by omega
      have i2 : (j : Int) < (n : Int) := by omega
      have hwj : IntKind.i64.wrap (j : Int) = (j : Int) := IntWalk.i64_in _ (by omega)
      have hIH := fun dd os => Go.Calls.regrown_of (HI.out j a a' ha ha' ok ok' (Go.Sort.grow (Go.redrawn wr dd) os) A1 A1' cc cc' (h2.below (Go.below_regrown wr dd os) (Nat.le_refl _)) (h2'.below (Go.below_regrown wr dd os) (Nat.le_refl _)))
      have HTk := Lib.hid (show (kids e).take (j + 1) = (kids f).take (j + 1) ↔ a = a' by
        rw [List.take_add_one, List.take_add_one, ha, ha', HA.out]
        simp)
      clear h2 h2' ha ha' hk hk'
      go_wp2_with fail
      have m0 := Go.cell_regrown a0
      have m1 := Go.cell_regrown a1
      have m2 := Go.cell_regrown a2
      have m3 := Go.cell_regrown a3
      have n0 := Go.cell_regrown d0
      have n1 := Go.cell_regrown d1
      have n2 := Go.cell_regrown d2
      have n3 := Go.cell_regrown d3
      have p3 := Go.cell_regrown v3
      have p4 := Go.cell_regrown v4
      obtain ⟨v, hv⟩ : ∃ v, v = decide (a = a') := ⟨_, rfl⟩
      rw [← hv] at hIH
      have HV := Lib.hid hv
      clear hv
      refine Go.wp_region_quiet_below (by kernel_rfl) (by kernel_rfl) ?_
      repeat (quiet_step (with_reducible exact hIH _ _))
      refine wpQuiet_nil ?_
      intro _ hw'
      obtain ⟨⟨dq, osq⟩, hw''⟩ := hw'
      subst hw''
      have hbq := Go.below_regrown wr dq osq
      have HBQ := Lib.hid (HBR.out.trans (hbq.mono HBR.out.size))
      clear hbq hIH m0 m1 m2 m3 n0 n1 n2 n3 p3 p4
      cases v with
      | true =>
        go_wp2_with fail
        go_roundg (n - (j + 1))
        case measure => have := HJ.out; omega
        case rel => exact ⟨j + 1, by omega, by go_num, HBQ.out, HTk.out.mpr (of_decide_eq_true HV.out.symm)⟩
      | false =>
        go_wp2_with fail
        go_ret
        refine ⟨?_, HBV.out.trans (HBQ.out.mono HBV.out.size)⟩
        have hne : ¬ kids e = kids f := fun h => of_decide_eq_false HV.out.symm (HTk.out.mp (by rw [h]))
        simp [hne]
    · go_wp2_with fail
      go_ret
      refine ⟨?_, HBW.out⟩
      have h := HA.out
      rw [List.take_of_length_le (by rw [HE.out]; omega), List.take_of_length_le (by rw [HF.out]; omega)] at h
      simp [h]

theorem refsame_step (e f : Ex) (IH : ∀ (i : Nat) (a a' : Ex), (kids e)[i]? = some a → (kids f)[i]? = some a' → SameR a a') : SameR e f := by
  intro ok ok' w A B c c' h h'
  by_cases hh : e.kind = f.kind ∧ e.num = f.num ∧ e.nm = f.nm ∧ e.len = f.len
  · obtain ⟨h1, h2, h3, h4⟩ := hh
    have hd : decide (e = f) = decide (kids e = kids f) := by
      have := ex_eq e f h4
      by_cases hk : kids e = kids f
      · simp [this, h1, h2, h3, hk]
      · simp [this, hk]
    rw [hd, h4]
    obtain ⟨_, _, q1, q2, q3⟩ := h.slice
    obtain ⟨_, _, r1, r2, r3⟩ := h'.slice
    injection q1 with _ _ q1
    injection r1 with _ _ r1
    subst q1 r1
    refine refsame_same e f h1 h2 h3 f.len h4 rfl w A B c c' ⟨by omega, q3, r2, r3⟩ (fun h0 => ?_) IH
    obtain ⟨b, off, cc, s1, s2, s3, s4, s5⟩ := h.kids (by omega)
    obtain ⟨b', off', cc', t1, t2, t3, t4, t5⟩ := h'.kids h0
    injection s1 with s1
    injection t1 with t1
    exact ⟨b, off, b', off', s1, t1, s4, t4, s5, t5⟩
  · have hne : decide (e = f) = false := by
      simp only [decide_eq_false_iff_not]
      rintro rfl
      exact hh ⟨rfl, rfl, rfl, rfl⟩
    rw [hne]
    exact refsame_other e f hh w A B c c'
theorem refsame_any (e : Ex) : ∀ f, SameR e f := by
  induction e with
  | leaf k n nm => intro f; exact refsame_step _ f (fun i a a' h => by simp [kids] at h)
  | un k a ih =>
    intro f
    refine refsame_step _ f (fun i x x' h _ => ?_)
    cases i with
    | zero => simp [kids] at h; subst h; exact ih x'
    | succ i => simp [kids] at h
  | bin k x y i1 i2 =>
    intro f
    refine refsame_step _ f (fun i z z' h _ => ?_)
    match i with
    | 0 => simp [kids] at h; subst h; exact i1 z'
    | 1 => simp [kids] at h; subst h; exact i2 z'
    | i + 2 => simp [kids] at h
end Go.Proofs.YtgkfmeccipgnjaaDoor
