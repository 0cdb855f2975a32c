/- Contracts of slices.EqualFunc at expressions, tree.SameExpr, the reference's SameExpr. -/
import Derived.Test.YtgkfmeccipgnjaaDoorEe
import Derived.Deep.LoopGhost
import Derived.Lib.QuietBelow
import Derived.Outline
namespace Go.Proofs.YtgkfmeccipgnjaaDoor
open Go.RowKit

def kids : Ex → List Ex
  | .leaf _ _ _ => []
  | .un _ a => [a]
  | .bin _ a b => [a, b]
theorem kids_len (e : Ex) : (kids e).length = e.len := by cases e <;> rfl
theorem ex_eq (e f : Ex) (h : e.len = f.len) : e = f ↔ e.kind = f.kind ∧ e.num = f.num ∧ e.nm = f.nm ∧ kids e = kids f := by
  cases e <;> cases f <;> simp [Ex.len] at h <;> simp [Ex.kind, Ex.num, Ex.nm, kids]

/-- The operands' cells in memory. -/
def KidsAt (w : World) (e : Ex) (b off : Nat) : Prop := ∀ (i : Nat) (a : Ex), (kids e)[i]? = some a → ∃ A c ok, ExCells w b (off + i * 4) a (.slice A a.len c) ∧ OfAt ok w a (.slice A a.len c)
theorem OfAt.kids {ok : Nat → Prop} {w : World} {e : Ex} {sl : Value} (h : OfAt ok w e sl) (hl : e.len ≠ 0) : ∃ b off c, sl = .slice (some ⟨b, off, none⟩) e.len c ∧ e.len ≤ c ∧ c ≤ 9223372036854775807 ∧ b < w.heap.size ∧ KidsAt w e b off := by
  cases e with
  | leaf k n nm => simp [Ex.len] at hl
  | un k a =>
    obtain ⟨b, off, c, sa, h1, h2, h3, h4, h5, h6, h7⟩ := h
    refine ⟨b, off, c, h1, h2, h3, h5, fun i x hx => ?_⟩
    obtain ⟨B, cc, rfl, _, _⟩ := h7.slice
    cases i with
    | zero => simp [YtgkfmeccipgnjaaDoor.kids] at hx; subst hx; exact ⟨B, cc, ok, by simpa using h6, h7⟩
    | succ i => simp [YtgkfmeccipgnjaaDoor.kids] at hx
  | bin k x y =>
    obtain ⟨b, off, c, sx, sy, h1, h2, h3, h4, h5, h6, h7, h8, h9⟩ := h
    refine ⟨b, off, c, h1, h2, h3, h5, fun i a ha => ?_⟩
    obtain ⟨B, cc, rfl, _, _⟩ := h8.slice
    obtain ⟨D, cd, rfl, _, _⟩ := h9.slice
    match i with
    | 0 => simp [YtgkfmeccipgnjaaDoor.kids] at ha; subst ha; exact ⟨B, cc, ok, by simpa using h6, h8⟩
    | 1 => simp [YtgkfmeccipgnjaaDoor.kids] at ha; subst ha; exact ⟨D, cd, ok, by simpa using h7, h9⟩
    | i + 2 => simp [YtgkfmeccipgnjaaDoor.kids] at ha
theorem KidsAt.below {w w' : World} {e : Ex} {b off : Nat} (h : KidsAt w e b off) (hb : Below w.heap.size w w') (hlt : b < w.heap.size) : KidsAt w' e b off := fun i a ha => by
  obtain ⟨A, c, ok, h1, h2⟩ := h i a ha
  exact ⟨A, c, ok, h1.same (hb.block b hlt), h2.below hb (Nat.le_refl _)⟩

/-- What SameExpr answers of two expressions, wherever they stand. -/
def SameC (a a' : Ex) : Prop := ∀ (ok ok' : Nat → Prop) (W : World) (A B : Option Addr) (c c' : Nat), OfAt ok W a (.slice A a.len c) → OfAt ok' W a' (.slice B a'.len c') →
  Calls Tryd.prog 52 #[.agg #[.int .i64 a.kind, .int .i64 a.num, .string a.nm, .slice A a.len c], .agg #[.int .i64 a'.kind, .int .i64 a'.num, .string a'.nm, .slice B a'.len c']] W fun e w' => e = .returned (.bool (decide (a = a'))) ∧ Below W.heap.size W w'

set_option maxRecDepth 100000 in
set_option maxHeartbeats 2000000 in
theorem eqf_ne (n m : Nat) (A B : Option Addr) (c c' : Nat) (h : n ≠ m) (w : World) :
    Calls Tryd.prog 70 #[.slice A n c, .slice B m c', .func (.func 52) #[] #[]] w fun e w' => e = .returned (.bool false) ∧ Below w.heap.size w w' := by
  have hn : ((n : Int) == (m : Int)) = false := by simp only [beq_eq_false_iff_ne]; omega
  have hn2 : ((n : Int) != (m : Int)) = true := by simp; omega
  clear h
  go_enter Tryd.func70, Tryd.ntmps70
  go_wp2_with fail
  go_ret
  exact ⟨rfl, Below.refl _ _⟩
set_option maxRecDepth 100000 in
set_option maxHeartbeats 2000000 in
theorem eqf_nil (A B : Option Addr) (c c' : Nat) (w : World) :
    Calls Tryd.prog 70 #[.slice A 0 c, .slice B 0 c', .func (.func 52) #[] #[]] w fun e w' => e = .returned (.bool true) ∧ Below w.heap.size w w' := by
  go_enter Tryd.func70, Tryd.ntmps70
  go_wp2_with fail
  go_loopg [17] 1 (fun g s17 wr => s17 = .int .i64 0 ∧ w = wr)
  case atStart => exact ⟨rfl, rfl⟩
  case round =>
    obtain ⟨rfl, rfl⟩ := hrel
    go_wp2_with fail
    go_ret
    exact ⟨rfl, Below.refl _ _⟩

set_option maxRecDepth 100000 in
set_option maxHeartbeats 2000000 in
theorem eqf_any (e f : Ex) (n : Nat) (he : (kids e).length = n) (hf : (kids f).length = n) (b off c b' off' c' : Nat) (hnc : n ≤ c) (hc : c ≤ 9223372036854775807) (w : World) (hb : b < w.heap.size) (hb' : b' < w.heap.size) (hk : KidsAt w e b off) (hk' : KidsAt w f b' off')
    (IH : ∀ (i : Nat) (a a' : Ex), (kids e)[i]? = some a → (kids f)[i]? = some a' → SameC a a') :
    Calls Tryd.prog 70 #[.slice (some ⟨b, off, none⟩) n c, .slice (some ⟨b', off', none⟩) n c', .func (.func 52) #[] #[]] w fun e' w' => e' = .returned (.bool (decide (kids e = kids f))) ∧ Below w.heap.size w w' := by
  have HK := Lib.hid hk
  have HK' := Lib.hid hk'
  have HI := Lib.hid IH
  have HE := Lib.hid he
  have HF := Lib.hid hf
  clear hk hk' IH he hf
  go_enter Tryd.func70, Tryd.ntmps70
  go_wp2_with fail
  go_loopg [17] n (fun g s17 wr => ∃ j : Nat, j + g = n ∧ s17 = .int .i64 j ∧ Below w.heap.size w wr ∧ Aside ((kids e).take j = (kids f).take j))
  case atStart => exact ⟨0, by omega, rfl, Below.refl _ _, rfl⟩
  case round =>
    obtain ⟨j, hj, rfl, hbr, HA⟩ := hrel
    have HBR := Lib.hid hbr
    clear hbr
    have hjn : j ≤ n := by omega
    have HJ := Lib.hid hj
    clear hj
    by_cases hlt : j < n
    · obtain ⟨a, ha⟩ : ∃ a, (kids e)[j]? = some a := ⟨_, List.getElem?_eq_getElem (by rw [HE.out]; exact hlt)⟩
      obtain ⟨a', ha'⟩ : ∃ a, (kids f)[j]? = some a := ⟨_, List.getElem?_eq_getElem (by rw [HF.out]; exact hlt)⟩
      obtain ⟨A, cc, ok, h1, h2⟩ := HK.out.below HBR.out hb j a ha
      obtain ⟨A', cc', ok', h1', h2'⟩ := HK'.out.below HBR.out hb' j a' ha'
      obtain ⟨a0, a1, a2, a3⟩ := h1
      obtain ⟨d0, d1, d2, d3⟩ := h1'
      have hsz := HBR.out.size
      have l1 : b < wr.heap.size := by omega
      have l2 : b' < wr.heap.size := by omega
      have l3 : b' < wr.heap.size + 1 := by omega
      have i1 : (0 : Int) ≤ (j : Int) := by omega
      have i2 : (j : Int) < (n : Int) := by omega
      have HC := Lib.hid (fun (W : World) (hW : Below wr.heap.size wr W) => HI.out j a a' ha ha' ok ok' W A A' cc cc' (h2.below hW (Nat.le_refl _)) (h2'.below hW (Nat.le_refl _)))
      have HTk := Lib.hid (show (kids e).take (j + 1) = (kids f).take (j + 1) ↔ a = a' by
        rw [List.take_add_one, List.take_add_one, ha, ha', HA.out]
        simp)
      clear h2 h2' ha ha'
      by_cases hab : a = a'
      · have hd : decide (a = a') = true := by simp [hab]
        rw [hd] at HC
        have HAB := Lib.hid hab
        clear hab hd
        go_wp2_with fail
        refine (HC.out _ (by exact ((Below.refl _ _).alloc (Nat.le_refl _) _).alloc (by simp) _)).mono ?_
        rintro e2 w2 ⟨rfl, hb2⟩
        have HB2 := Lib.hid ((HBR.out.alloc hsz _).alloc (by simp; omega) _ |>.trans (hb2.mono (by simp; omega)))
        clear hb2
        go_wp2_with fail
        go_roundg (n - (j + 1))
        case measure => have := HJ.out; omega
        case rel => exact ⟨j + 1, by omega, by go_num, HB2.out, HTk.out.mpr HAB.out⟩
      · have hd : decide (a = a') = false := by simp [hab]
        rw [hd] at HC
        have HAB := Lib.hid hab
        clear hab hd
        go_wp2_with fail
        refine (HC.out _ (by exact ((Below.refl _ _).alloc (Nat.le_refl _) _).alloc (by simp) _)).mono ?_
        rintro e2 w2 ⟨rfl, hb2⟩
        have HB2 := Lib.hid ((HBR.out.alloc hsz _).alloc (by simp; omega) _ |>.trans (hb2.mono (by simp; omega)))
        clear hb2
        go_wp2_with fail
        go_ret
        refine ⟨?_, HB2.out⟩
        have hne : ¬ kids e = kids f := fun h => HAB.out (HTk.out.mp (by rw [h]))
        simp [hne]
    · go_wp2_with fail
      go_ret
      refine ⟨?_, HBR.out⟩
      have h := HA.out
      rw [List.take_of_length_le (by rw [HE.out]; omega), List.take_of_length_le (by rw [HF.out]; omega)] at h
      simp [h]

/-- EqualFunc of what two expressions are of. -/
theorem eqf_all (e f : Ex) (IH : ∀ (i : Nat) (a a' : Ex), (kids e)[i]? = some a → (kids f)[i]? = some a' → SameC a a') (ok ok' : Nat → Prop) (w : World) (A B : Option Addr) (c c' : Nat) (h : OfAt ok w e (.slice A e.len c)) (h' : OfAt ok' w f (.slice B f.len c')) :
    Calls Tryd.prog 70 #[.slice A e.len c, .slice B f.len c', .func (.func 52) #[] #[]] w fun e' w' => e' = .returned (.bool (decide (kids e = kids f))) ∧ Below w.heap.size w w' := by
  by_cases hl : e.len = f.len
  · by_cases h0 : e.len = 0
    · have h0' : f.len = 0 := by omega
      have e1 : kids e = [] := List.eq_nil_of_length_eq_zero (by rw [kids_len, h0])
      have e2 : kids f = [] := List.eq_nil_of_length_eq_zero (by rw [kids_len, h0'])
      rw [h0, h0', e1, e2]
      exact eqf_nil A B c c' w
    · obtain ⟨b, off, cc, q1, q2, q3, q4, q5⟩ := h.kids h0
      obtain ⟨b', off', cc', r1, r2, r3, r4, r5⟩ := h'.kids (by omega)
      injection q1 with q1 _ q1c
      injection r1 with r1 _ r1c
      subst q1 q1c r1 r1c
      rw [← hl]
      exact eqf_any e f e.len (kids_len e) (by rw [kids_len, hl]) b off c b' off' c' q2 q3 w q4 r4 q5 r5 IH
  · have : decide (kids e = kids f) = false := by
      simp only [decide_eq_false_iff_not]
      intro hk
      exact hl (by rw [← kids_len, ← kids_len, hk])
    rw [this]
    exact eqf_ne _ _ A B c c' hl w

set_option maxRecDepth 100000 in
set_option maxHeartbeats 2000000 in
theorem same_step (e f : Ex) (IH : ∀ (i : Nat) (a a' : Ex), (kids e)[i]? = some a → (kids f)[i]? = some a' → SameC a a') : SameC e f := by
  intro ok ok' w A B c c' h h'
  have hEQ := fun (W : World) (hW : Below w.heap.size w W) => eqf_all e f IH ok ok' W A B c c' (h.below hW (Nat.le_refl _)) (h'.below hW (Nat.le_refl _))
  obtain ⟨v, hv⟩ : ∃ v, v = decide (kids e = kids f) := ⟨_, rfl⟩
  rw [← hv] at hEQ
  have HEQ := Lib.hid hEQ
  have hval : ∀ (p q r : Prop) [Decidable p] [Decidable q] [Decidable r], True := fun _ _ _ _ _ _ => trivial
  have hdec : decide (e = f) = (decide (e.kind = f.kind) && decide (e.num = f.num) && decide (e.nm = f.nm) && v) := by
    rw [hv]
    by_cases hl : e.len = f.len
    · have := ex_eq e f hl
      by_cases h1 : e.kind = f.kind <;> by_cases h2 : e.num = f.num <;> by_cases h3 : e.nm = f.nm <;> by_cases h4 : kids e = kids f <;> simp [h1, h2, h3, h4] at this <;> simp [h1, h2, h3, h4, this]
    · have hne : ¬ e = f := fun h => hl (by rw [h])
      have hnk : ¬ kids e = kids f := fun h => hl (by rw [← kids_len, ← kids_len, h])
      simp [hne, hnk]
  rw [hdec]
  clear hEQ hdec hval hv h h' IH
  by_cases h1 : e.kind = f.kind
  · have g1 : (e.kind == f.kind) = true := by simp [h1]
    have H1 := Lib.hid h1
    clear h1
    by_cases h2 : e.num = f.num
    · have g2 : (e.num == f.num) = true := by simp [h2]
      have H2 := Lib.hid h2
      clear h2
      by_cases h3 : e.nm = f.nm
      · have g3 : (e.nm.toList == f.nm.toList) = true := by simp [h3]
        have H3 := Lib.hid h3
        clear h3
        go_enter Tryd.func52, Tryd.ntmps52
        go_wp2_with fail
        refine (HEQ.out _ (by exact ((Below.refl _ _).alloc (Nat.le_refl _) _).alloc (by simp) _)).mono ?_
        rintro e2 w2 ⟨rfl, hb2⟩
        have HB2 := Lib.hid (((Below.refl w.heap.size w).alloc (Nat.le_refl _) _).alloc (by simp) _ |>.trans (hb2.mono (by simp; omega)))
        clear hb2
        go_wp2_with fail
        go_ret
        exact ⟨ret_bool (by rw [decide_eq_true H1.out, decide_eq_true H2.out, decide_eq_true H3.out]; simp), HB2.out⟩
      · have g3 : (e.nm.toList == f.nm.toList) = false := by
          simp only [beq_eq_false_iff_ne, ne_eq]
          intro hh
          apply h3
          rw [toList_data, toList_data] at hh
          exact (bytes_of_list hh).trans rfl
        have H3 := Lib.hid h3
        clear h3
        go_enter Tryd.func52, Tryd.ntmps52
        go_wp2_with fail
        go_ret
        exact ⟨ret_bool (by rw [decide_eq_false H3.out]; simp), ((Below.refl _ _).alloc (Nat.le_refl _) _).alloc (by simp) _⟩
    · have g2 : (e.num == f.num) = false := by simp [h2]
      have H2 := Lib.hid h2
      clear h2
      go_enter Tryd.func52, Tryd.ntmps52
      go_wp2_with fail
      go_ret
      exact ⟨ret_bool (by rw [decide_eq_false H2.out]; simp), ((Below.refl _ _).alloc (Nat.le_refl _) _).alloc (by simp) _⟩
  · have g1 : (e.kind == f.kind) = false := by simp [h1]
    have H1 := Lib.hid h1
    clear h1
    go_enter Tryd.func52, Tryd.ntmps52
    go_wp2_with fail
    go_ret
    exact ⟨ret_bool (by rw [decide_eq_false H1.out]; simp), ((Below.refl _ _).alloc (Nat.le_refl _) _).alloc (by simp) _⟩

theorem same_any (e : Ex) : ∀ f, SameC e f := by
  induction e with
  | leaf k n nm => intro f; exact same_step _ f (fun i a a' h => by simp [kids] at h)
  | un k a ih =>
    intro f
    refine same_step _ f (fun i x x' h _ => ?_)
    cases i with
    | zero => simp [kids] at h; subst h; exact ih x'
    | succ i => simp [kids] at h
  | bin k x y i1 i2 =>
    intro f
    refine same_step _ f (fun i z z' h _ => ?_)
    match i with
    | 0 => simp [kids] at h; subst h; exact i1 z'
    | 1 => simp [kids] at h; subst h; exact i2 z'
    | i + 2 => simp [kids] at h
end Go.Proofs.YtgkfmeccipgnjaaDoor
