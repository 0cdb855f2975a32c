/- A region in any order, by an invariant that every operation keeps. -/
import Derived.Still
namespace Go.Proofs.YtgkfmeccipgnjaaDoor
open Go

def openL : List Bool → Nat
  | [] => 0
  | b :: l => (if b then 0 else 1) + openL l
theorem openL_set : ∀ (l : List Bool) (i : Nat), l[i]? = some false → openL (l.set i true) + 1 = openL l := by
  intro l
  induction l with
  | nil => intro i h; simp at h
  | cons b l ih =>
    intro i h
    cases i with
    | zero => simp at h; subst h; simp [openL]; omega
    | succ i => simp at h; have := ih i h; simp only [List.set_cons_succ, openL]; omega
theorem openL_zero : ∀ (l : List Bool) (i : Nat), openL l = 0 → l[i]? ≠ some false := by
  intro l
  induction l with
  | nil => intro i _ h; simp at h
  | cons b l ih =>
    intro i h
    cases i with
    | zero => cases b <;> simp [openL] at h ⊢
    | succ i => simp only [openL] at h; simpa using ih i (by omega)

theorem wpAny_inv {P : Program} {md : Region.Mode} {ops : Array Oper} {Q : Exit → Act → World → Prop} (Inv : Array Bool → Act → World → Prop)
    (hstep : ∀ listed a w i, Inv listed a w → i ∈ Region.ready md ops listed → wpOp P ops Q i (Inv (listed.setIfInBounds i true)) a w)
    (hend : ∀ listed a w, Inv listed a w → Region.ready md ops listed = [] → Q .normal a w) :
    ∀ (fuel : Nat) (listed : Array Bool) (a : Act) (w : World), Inv listed a w → openL listed.toList ≤ fuel → wpAny P md ops Q fuel listed a w := by
  have hget : ∀ (listed : Array Bool) (i : Nat), i ∈ Region.ready md ops listed → listed.toList[i]? = some false := by
    intro listed i hi
    obtain ⟨h, _⟩ := mem_ready.1 hi
    rcases Nat.lt_or_ge i listed.size with hlt | hge
    · simp only [Array.getD_eq_getD_getElem?, Array.getElem?_eq_getElem hlt, Option.getD_some] at h
      rw [Array.getElem?_toList, Array.getElem?_eq_getElem hlt, h]
    · simp [Array.getElem?_eq_none hge] at h
  intro fuel
  induction fuel with
  | zero =>
    intro listed a w hI hf
    have : Region.ready md ops listed = [] := by
      cases hr : Region.ready md ops listed with
      | nil => rfl
      | cons x xs => exact absurd (hget listed x (by rw [hr]; simp)) (openL_zero _ x (by omega))
    exact ⟨this, hend _ _ _ hI this⟩
  | succ fuel ih =>
    intro listed a w hI hf
    refine ⟨fun h => hend _ _ _ hI h, fun i hi => ?_⟩
    refine wpOp_mono (fun a' w' h => ih _ a' w' h ?_) (hstep _ _ _ i hI hi)
    have := openL_set _ i (hget listed i hi)
    rw [Array.toList_setIfInBounds]; omega

end Go.Proofs.YtgkfmeccipgnjaaDoor
