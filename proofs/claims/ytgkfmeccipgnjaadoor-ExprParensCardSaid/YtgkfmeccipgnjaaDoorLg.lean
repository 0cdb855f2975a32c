/- A scope with seven labels: what holds at every jump, and a number that every pass lowers. Frames of 116 slots. -/
import Derived.Test.YtgkfmeccipgnjaaDoorLe
import Derived.ScopeJumps
namespace Go.Proofs.YtgkfmeccipgnjaaDoor
open Go.RowKit

/-- As Q; by a goto to a label: J of that label. -/
def jumpsTo (J : Nat → Act → World → Prop) (Q : Exit → Act → World → Prop) : Exit → Act → World → Prop
  | .goto l, a, w => J l a w
  | e, a, w => Q e a w

/-- What the passes may lean on: from each label, at a lower number, the run goes on to an end that meets Q, or to a jump. -/
theorem wp_scope_labels {P : Program} {Q : Exit → Act → World → Prop} {a : Act} {w : World} {c : Code} (rest : Nat → Code) (k : Nat) (J : Nat → Nat → Act → World → Prop)
    (hf : ∀ l, l < k → findLabel c l = some (.seq .skip (rest l)))
    (pass : ∀ n l a w, l < k → J l n a w → (rest l).wp P (jumpsTo (fun l' a' w' => l' < k ∧ ∃ n', n' < n ∧ J l' n' a' w') Q) a w)
    (first : c.wp P (jumpsTo (fun l' a' w' => l' < k ∧ ∃ n', J l' n' a' w') Q) a w) : (Code.scope c).wp P Q a w := by
  intro b kk cs
  have hg : ∀ l, l < k → gotoIn l (.inScope c :: kk) = some (.code (.seq .skip (rest l)) :: .inScope c :: kk) := fun l hl => by simp [gotoIn, hf l hl]
  have key : ∀ n l a w, l < k → J l n a w → ∃ e a' w', Q e a' w' ∧ Arrives P (lone (b.at a (.code (.seq .skip (rest l)) :: .inScope c :: kk)) cs w) b kk cs e a' w' := by
    intro n
    induction n using Nat.strongRecOn with
    | _ n ih =>
      intro l a w hl hJ
      have hp : (Code.seq .skip (rest l)).wp P (jumpsTo (fun l' a' w' => l' < k ∧ ∃ n', n' < n ∧ J l' n' a' w') Q) a w := wp_seq (wp_skip (pass n l a w hl hJ))
      obtain ⟨e, a₁, w₁, hq, harr⟩ := hp b (.inScope c :: kk) cs
      cases e with
      | normal => exact ⟨.normal, a₁, w₁, hq, Steps.trans harr (.one step_inScope)⟩
      | exit id => exact ⟨.exit id, a₁, w₁, hq, fun k' hk => harr k' (by simp [exitTo, hk])⟩
      | goto l' =>
        obtain ⟨hl', n', hlt, hJ'⟩ := hq
        obtain ⟨e₂, a₂, w₂, hq₂, harr₂⟩ := ih n' hlt l' a₁ w₁ hl' hJ'
        exact ⟨e₂, a₂, w₂, hq₂, .of_steps (harr _ (hg l' hl')) harr₂⟩
      | ret => exact ⟨_, a₁, w₁, hq, harr⟩
      | panic ch => exact ⟨_, a₁, w₁, hq, harr⟩
      | outgrown => exact ⟨_, a₁, w₁, hq, harr⟩
  obtain ⟨e, a₁, w₁, hq, harr⟩ := first b (.inScope c :: kk) cs
  cases e with
  | normal => exact ⟨.normal, a₁, w₁, hq, .head step_scope (Steps.trans harr (.one step_inScope))⟩
  | exit id => exact ⟨.exit id, a₁, w₁, hq, fun k' hk => .head step_scope (harr k' (by simp [exitTo, hk]))⟩
  | goto l' =>
    obtain ⟨hl', n', hJ'⟩ := hq
    obtain ⟨e₂, a₂, w₂, hq₂, harr₂⟩ := key n' l' a₁ w₁ hl' hJ'
    exact ⟨e₂, a₂, w₂, hq₂, .of_steps (.head step_scope (harr _ (hg l' hl'))) harr₂⟩
  | ret => exact ⟨_, a₁, w₁, hq, .of_steps (.one step_scope) harr⟩
  | panic ch => exact ⟨_, a₁, w₁, hq, .of_steps (.one step_scope) harr⟩
  | outgrown => exact ⟨_, a₁, w₁, hq, .of_steps (.one step_scope) harr⟩

/-- What a pass from label l, numbered n, is. -/
def Pass (P : Program) (J : Nat → Nat → Act → World → Prop) (Q : Exit → Act → World → Prop) (l : Nat) (r : Code) : Prop :=
  ∀ n a w, J l n a w → r.wp P (jumpsTo (fun l' a' w' => l' < 7 ∧ ∃ n', n' < n ∧ J l' n' a' w') Q) a w

/-- The same for seven labels, each with its own code; label 4's pass may lean on label 6's, the first pass on label 0's. -/
theorem wp_scope_seven {P : Program} {Q : Exit → Act → World → Prop} {a : Act} {w : World} {c r0 r1 r2 r3 r4 r5 r6 : Code} (J : Nat → Nat → Act → World → Prop)
    (h0 : findLabel c 0 = some (.seq .skip r0)) (h1 : findLabel c 1 = some (.seq .skip r1)) (h2 : findLabel c 2 = some (.seq .skip r2)) (h3 : findLabel c 3 = some (.seq .skip r3))
    (h4 : findLabel c 4 = some (.seq .skip r4)) (h5 : findLabel c 5 = some (.seq .skip r5)) (h6 : findLabel c 6 = some (.seq .skip r6))
    (p0 : Pass P J Q 0 r0) (p1 : Pass P J Q 1 r1) (p2 : Pass P J Q 2 r2) (p3 : Pass P J Q 3 r3) (p4 : Pass P J Q 6 r6 → Pass P J Q 4 r4) (p5 : Pass P J Q 5 r5) (p6 : Pass P J Q 6 r6)
    (first : Pass P J Q 0 r0 → c.wp P (jumpsTo (fun l' a' w' => l' < 7 ∧ ∃ n', J l' n' a' w') Q) a w) : (Code.scope c).wp P Q a w := by
  refine wp_scope_labels (fun l => match l with | 0 => r0 | 1 => r1 | 2 => r2 | 3 => r3 | 4 => r4 | 5 => r5 | _ => r6) 7 J ?_ ?_ (first p0)
  · intro l hl
    match l, hl with
    | 0, _ => exact h0
    | 1, _ => exact h1
    | 2, _ => exact h2
    | 3, _ => exact h3
    | 4, _ => exact h4
    | 5, _ => exact h5
    | 6, _ => exact h6
  · intro n l a w hl hJ
    match l, hl with
    | 0, _ => exact p0 n a w hJ
    | 1, _ => exact p1 n a w hJ
    | 2, _ => exact p2 n a w hJ
    | 3, _ => exact p3 n a w hJ
    | 4, _ => exact p4 p6 n a w hJ
    | 5, _ => exact p5 n a w hJ
    | 6, _ => exact p6 n a w hJ

theorem jumps_mono {J J' : Nat → Act → World → Prop} {Q : Exit → Act → World → Prop} (h : ∀ l a w, J l a w → J' l a w) : ∀ e a w, jumpsTo J Q e a w → jumpsTo J' Q e a w := by
  intro e a w hq
  cases e <;> first | exact hq | exact h _ _ _ hq

/-- A frame of 116 slots, five of which are known. -/
def frT (v0 v5 v6 v7 v8 : Value) (u : Nat → Value) : Act := { tmps := (v0 :: u 1 :: u 2 :: u 3 :: u 4 :: v5 :: v6 :: v7 :: v8 :: u 9 :: u 10 :: u 11 :: u 12 :: u 13 :: u 14 :: u 15 :: u 16 :: u 17 :: u 18 :: u 19 :: u 20 :: u 21 :: u 22 :: u 23 :: u 24 :: u 25 :: u 26 :: u 27 :: u 28 :: u 29 :: u 30 :: u 31 :: u 32 :: u 33 :: u 34 :: u 35 :: u 36 :: u 37 :: u 38 :: u 39 :: u 40 :: u 41 :: u 42 :: u 43 :: u 44 :: u 45 :: u 46 :: u 47 :: u 48 :: u 49 :: u 50 :: u 51 :: u 52 :: u 53 :: u 54 :: u 55 :: u 56 :: u 57 :: u 58 :: u 59 :: u 60 :: u 61 :: u 62 :: u 63 :: u 64 :: u 65 :: u 66 :: u 67 :: u 68 :: u 69 :: u 70 :: u 71 :: u 72 :: u 73 :: u 74 :: u 75 :: u 76 :: u 77 :: u 78 :: u 79 :: u 80 :: u 81 :: u 82 :: u 83 :: u 84 :: u 85 :: u 86 :: u 87 :: u 88 :: u 89 :: u 90 :: u 91 :: u 92 :: u 93 :: u 94 :: u 95 :: u 96 :: u 97 :: u 98 :: u 99 :: u 100 :: u 101 :: u 102 :: u 103 :: u 104 :: u 105 :: u 106 :: u 107 :: u 108 :: u 109 :: u 110 :: u 111 :: u 112 :: u 113 :: u 114 :: u 115 :: []).toArray, defers := [] }

def IsFr (a : Act) (v0 v5 v6 v7 v8 : Value) : Prop :=
  a.tmps.size = 116 ∧ a.defers = [] ∧ a.tmps.getD 0 undef = v0 ∧ a.tmps.getD 5 undef = v5 ∧ a.tmps.getD 6 undef = v6 ∧ a.tmps.getD 7 undef = v7 ∧ a.tmps.getD 8 undef = v8

theorem arr_range (t : Array Value) : t = ((List.range t.size).map fun k => t.getD k undef).toArray := by
  apply Array.ext
  · simp
  · intro i h1 h2
    simp [h1]

set_option maxRecDepth 10000 in
theorem range116 (f : Nat → Value) : (List.range 116).map f = f 0 :: f 1 :: f 2 :: f 3 :: f 4 :: f 5 :: f 6 :: f 7 :: f 8 :: f 9 :: f 10 :: f 11 :: f 12 :: f 13 :: f 14 :: f 15 :: f 16 :: f 17 :: f 18 :: f 19 :: f 20 :: f 21 :: f 22 :: f 23 :: f 24 :: f 25 :: f 26 :: f 27 :: f 28 :: f 29 :: f 30 :: f 31 :: f 32 :: f 33 :: f 34 :: f 35 :: f 36 :: f 37 :: f 38 :: f 39 :: f 40 :: f 41 :: f 42 :: f 43 :: f 44 :: f 45 :: f 46 :: f 47 :: f 48 :: f 49 :: f 50 :: f 51 :: f 52 :: f 53 :: f 54 :: f 55 :: f 56 :: f 57 :: f 58 :: f 59 :: f 60 :: f 61 :: f 62 :: f 63 :: f 64 :: f 65 :: f 66 :: f 67 :: f 68 :: f 69 :: f 70 :: f 71 :: f 72 :: f 73 :: f 74 :: f 75 :: f 76 :: f 77 :: f 78 :: f 79 :: f 80 :: f 81 :: f 82 :: f 83 :: f 84 :: f 85 :: f 86 :: f 87 :: f 88 :: f 89 :: f 90 :: f 91 :: f 92 :: f 93 :: f 94 :: f 95 :: f 96 :: f 97 :: f 98 :: f 99 :: f 100 :: f 101 :: f 102 :: f 103 :: f 104 :: f 105 :: f 106 :: f 107 :: f 108 :: f 109 :: f 110 :: f 111 :: f 112 :: f 113 :: f 114 :: f 115 :: [] := rfl

theorem IsFr.frame {a : Act} {v0 v5 v6 v7 v8 : Value} (h : IsFr a v0 v5 v6 v7 v8) : ∃ u, a = frT v0 v5 v6 v7 v8 u := by
  obtain ⟨hs, hd, h0, h5, h6, h7, h8⟩ := h
  obtain ⟨t, d⟩ := a
  simp only at hs hd h0 h5 h6 h7 h8
  have e := arr_range t
  rw [hs, range116, h0, h5, h6, h7, h8] at e
  subst hd
  exact ⟨fun k => t.getD k undef, congrArg (fun x => ({ tmps := x, defers := [] } : Act)) e⟩

end Go.Proofs.YtgkfmeccipgnjaaDoor
