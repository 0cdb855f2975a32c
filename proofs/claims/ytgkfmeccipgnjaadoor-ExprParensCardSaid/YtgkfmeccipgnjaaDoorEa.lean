/- Plain: expressions as trees; reading and printing them as functions on tokens. No program in sight. -/
import Derived.Test.YtgkfmeccipgnjaaDoorLc
import Derived.Test.YtgkfmeccipgnjaaDoorLr
namespace Go.Proofs.YtgkfmeccipgnjaaDoor

inductive Ex where
  | leaf (kind n : Int) (name : List UInt8)
  | un (kind : Int) (a : Ex)
  | bin (kind : Int) (a b : Ex)
  deriving DecidableEq

def Ex.zero : Ex := .leaf 0 0 []

/-- What a reading comes to: a tree and what is left; or where something did not fit. -/
inductive ERes where
  | ok (e : Ex) (rest : List Tok)
  | bad (rest : List Tok)
  deriving DecidableEq

def nameL (l : List UInt8) : Bool := isNameB ⟨l.toArray⟩

/-- The operator of a sign at a level; 0: none. -/
def opP (level : Nat) (t : Tok) : Nat :=
  if t.kind ≠ 3 then 0 else match level with
  | 0 => if t.text = [60] then 9 else if t.text = [61, 61] then 10 else 0
  | 1 => if t.text = [43] then 4 else if t.text = [45] then 5 else 0
  | 2 => if t.text = [42] then 6 else if t.text = [47] then 7 else if t.text = [37] then 8 else 0
  | _ => 0

def loopF (level : Nat) (next : List Tok → ERes) : Nat → Ex → List Tok → ERes
  | 0, e, l => .ok e l
  | f + 1, e, l => match l with
    | [] => .ok e []
    | t :: more =>
      if opP level t = 0 then .ok e (t :: more)
      else match next more with
        | .bad r => .bad r
        | .ok e2 r => if level = 0 then .ok (.bin (opP level t) e e2) r else loopF level next f (.bin (opP level t) e e2) r

/-- So many levels above the factors. -/
def levF (F : List Tok → ERes) : Nat → List Tok → ERes
  | 0, l => F l
  | up + 1, l => match levF F up l with
    | .bad r => .bad r
    | .ok e r => loopF (2 - up) (levF F up) r.length e r

/-- A factor; 'sub' reads what is one deeper, where one may be. -/
def facStep (sub : Option (List Tok → ERes)) (l : List Tok) : ERes := match l with
  | [] => .bad []
  | t :: more =>
    if t.kind = 2 then .ok (.leaf 1 t.n []) more
    else if t.kind = 1 ∧ nameL t.text = true then .ok (.leaf 2 0 t.text) more
    else match sub with
    | none => .bad (t :: more)
    | some F =>
      if t.kind = 3 ∧ t.text = [45] then (match F more with
        | .bad r => .bad r
        | .ok e r => .ok (.un 3 e) r)
      else if t.kind = 3 ∧ t.text = [40] then (match levF F 3 more with
        | .bad r => .bad r
        | .ok _ [] => .bad []
        | .ok e (u :: r) => if u.kind = 3 ∧ u.text = [41] then .ok e r else .bad (u :: r))
      else .bad (t :: more)

/-- A factor, where so many parentheses and minuses may still stand. -/
def facF : Nat → List Tok → ERes
  | 0 => facStep none
  | d + 1 => facStep (some (facF d))

/-- expr.Read. -/
def readF (l : List Tok) : ERes := levF (facF 8) 3 l

/-- The sign of an operator and its level. -/
def signP (kind : Int) : List UInt8 × Nat :=
  if kind = 9 then ([60], 0) else if kind = 10 then ([61, 61], 0) else if kind = 4 then ([43], 1) else if kind = 5 then ([45], 1)
  else if kind = 6 then ([42], 2) else if kind = 7 then ([47], 2) else if kind = 8 then ([37], 2) else ([], 3)
def ownL (k : Int) : Nat := (signP k).2
def leftL (k : Int) : Nat := if ownL k = 0 then 1 else ownL k

/-- An expression as text, where one of a level is asked for. -/
def printF : Ex → Nat → List UInt8
  | .leaf k n nm, _ => if k = 1 then Lib.itoa n else if k = 2 then nm else [63]
  | .un _ a, _ => 45 :: printF a 3
  | .bin k a b, lv =>
    if ownL k < lv then [40] ++ (printF a (leftL k) ++ [32] ++ (signP k).1 ++ [32] ++ printF b (ownL k + 1)) ++ [41]
    else printF a (leftL k) ++ [32] ++ (signP k).1 ++ [32] ++ printF b (ownL k + 1)

def bare (t : Tok) : Nat × List UInt8 × Int := (t.kind, t.text, t.n)

/-- The tokens of an expression's text. -/
def ptoks : Ex → Nat → List (Nat × List UInt8 × Int)
  | .leaf k n nm, _ => if k = 1 then [(2, Lib.itoa n, n)] else if k = 2 then [(1, nm, 0)] else [(3, [63], 0)]
  | .un _ a, _ => (3, [45], 0) :: ptoks a 3
  | .bin k a b, lv =>
    if ownL k < lv then (3, [40], 0) :: ((ptoks a (leftL k) ++ (3, (signP k).1, 0) :: ptoks b (ownL k + 1)) ++ [(3, [41], 0)])
    else ptoks a (leftL k) ++ (3, (signP k).1, 0) :: ptoks b (ownL k + 1)

/-- How many parentheses and minuses are around of each other. -/
def need : Ex → Nat → Nat
  | .leaf _ _ _, _ => 0
  | .un _ a, _ => need a 3 + 1
  | .bin k a b, lv => max (need a (leftL k)) (need b (ownL k + 1)) + (if ownL k < lv then 1 else 0)

def wfE : Ex → Prop
  | .leaf _ n _ => -9223372036854775808 ≤ n ∧ n ≤ 9223372036854775807
  | .un k a => k = 3 ∧ wfE a
  | .bin k a b => 4 ≤ k ∧ k ≤ 10 ∧ wfE a ∧ wfE b
/-- What a reading may come to. -/
def Good : Ex → Prop
  | .leaf k n nm => (k = 1 ∧ 0 ≤ n ∧ n ≤ 9223372036854775807 ∧ nm = []) ∨ (k = 2 ∧ n = 0 ∧ nameL nm = true)
  | .un k a => k = 3 ∧ Good a
  | .bin k a b => 4 ≤ k ∧ k ≤ 10 ∧ Good a ∧ Good b
theorem Good.wf : ∀ {e : Ex}, Good e → wfE e := by
  intro e
  induction e with
  | leaf k n nm => intro h; rcases h with ⟨_, h1, h2, _⟩ | ⟨_, h1, _⟩ <;> simp only [wfE] <;> omega
  | un k a ih => intro h; exact ⟨h.1, ih h.2⟩
  | bin k a b i1 i2 => intro h; exact ⟨h.1, h.2.1, i1 h.2.2.1, i2 h.2.2.2⟩

theorem opP_high {j : Nat} (t : Tok) (h : 3 ≤ j) : opP j t = 0 := by
  unfold opP
  split
  · rfl
  · match j, h with
    | j + 3, _ => rfl

theorem sign_cases {k : Int} (h1 : 4 ≤ k) (h2 : k ≤ 10) : k = 4 ∨ k = 5 ∨ k = 6 ∨ k = 7 ∨ k = 8 ∨ k = 9 ∨ k = 10 := by omega
theorem own_le {k : Int} (h1 : 4 ≤ k) (h2 : k ≤ 10) : ownL k ≤ 2 := by
  rcases sign_cases h1 h2 with rfl | rfl | rfl | rfl | rfl | rfl | rfl <;> decide
theorem op_of_sign {k : Int} (h1 : 4 ≤ k) (h2 : k ≤ 10) {t : Tok} (h : bare t = (3, (signP k).1, 0)) : (opP (ownL k) t : Int) = k ∧ ∀ j, ownL k < j → opP j t = 0 := by
  obtain ⟨kd, tx, n, pos⟩ := t
  simp only [bare, Prod.mk.injEq] at h
  obtain ⟨rfl, rfl, rfl⟩ := h
  refine ⟨?_, fun j hj => ?_⟩
  · rcases sign_cases h1 h2 with rfl | rfl | rfl | rfl | rfl | rfl | rfl <;> simp [opP, ownL, signP]
  · rcases Nat.lt_or_ge 2 j with hh | hh
    · exact opP_high _ hh
    · obtain rfl | rfl | rfl : j = 0 ∨ j = 1 ∨ j = 2 := by omega
      all_goals
        rcases sign_cases h1 h2 with rfl | rfl | rfl | rfl | rfl | rfl | rfl <;> first | (exfalso; exact absurd hj (by decide)) | simp [opP, signP]
theorem sign_of_op {j : Nat} {t : Tok} (h : opP j t ≠ 0) : 4 ≤ (opP j t : Int) ∧ (opP j t : Int) ≤ 10 ∧ t.kind = 3 ∧ t.text = (signP (opP j t)).1 ∧ ownL (opP j t) = j := by
  unfold opP at *
  split at h
  · exact absurd rfl h
  · rename_i hk
    have hk : t.kind = 3 := by omega
    match j with
    | 0 =>
      simp only at h ⊢
      by_cases a : t.text = [60]
      · simp [a, hk]; decide
      · by_cases b : t.text = [61, 61]
        · simp [b, hk]; decide
        · simp [a, b] at h
    | 1 =>
      simp only at h ⊢
      by_cases a : t.text = [43]
      · simp [a, hk]; decide
      · by_cases b : t.text = [45]
        · simp [b, hk]; decide
        · simp [a, b] at h
    | 2 =>
      simp only at h ⊢
      by_cases a : t.text = [42]
      · simp [a, hk]; decide
      · by_cases b : t.text = [47]
        · simp [b, hk]; decide
        · by_cases c : t.text = [37]
          · simp [c, hk]; decide
          · simp [a, b, c] at h
    | j + 3 => simp at h

theorem loopF_stop {level : Nat} {next : List Tok → ERes} {f : Nat} {e : Ex} {t : Tok} {more : List Tok} (h : opP level t = 0) : loopF level next f e (t :: more) = .ok e (t :: more) := by
  cases f with
  | zero => rfl
  | succ f => simp [loopF, h]

/-- What is left is less. -/
def Shr (F : List Tok → ERes) : Prop := ∀ l e r, F l = .ok e r → r.length < l.length
theorem loopF_le {level : Nat} {next : List Tok → ERes} (hS : Shr next) : ∀ (f : Nat) (e : Ex) (l : List Tok) (e' : Ex) (r : List Tok), loopF level next f e l = .ok e' r → r.length ≤ l.length := by
  intro f
  induction f with
  | zero => intro e l e' r h; simp only [loopF, ERes.ok.injEq] at h; rw [h.2]; exact Nat.le_refl _
  | succ f ih =>
    intro e l e' r h
    cases l with
    | nil => simp only [loopF, ERes.ok.injEq] at h; rw [← h.2]; exact Nat.le_refl _
    | cons t more =>
      simp only [loopF] at h
      split at h
      · simp only [ERes.ok.injEq] at h; rw [← h.2]; exact Nat.le_refl _
      · cases hn : next more with
        | bad q => rw [hn] at h; cases h
        | ok e2 q =>
          rw [hn] at h
          have := hS _ _ _ hn
          simp only at h
          split at h
          · simp only [ERes.ok.injEq] at h; rw [← h.2, List.length_cons]; omega
          · have := ih _ _ _ _ h
            rw [List.length_cons]; omega
theorem levF_shr {F : List Tok → ERes} (hF : Shr F) : ∀ up, Shr (levF F up) := by
  intro up
  induction up with
  | zero => exact hF
  | succ up ih =>
    intro l e r h
    rw [levF] at h
    cases hn : levF F up l with
    | bad q => rw [hn] at h; cases h
    | ok e2 q =>
      rw [hn] at h
      have := ih _ _ _ hn
      have := loopF_le ih _ _ _ _ _ h
      omega
theorem facStep_shr {sub : Option (List Tok → ERes)} (hs : ∀ F, sub = some F → Shr F) : Shr (facStep sub) := by
  intro l e r h
  cases l with
  | nil => cases h
  | cons t more =>
    simp only [facStep] at h
    split at h
    · simp only [ERes.ok.injEq] at h; rw [← h.2]; simp
    · split at h
      · simp only [ERes.ok.injEq] at h; rw [← h.2]; simp
      · cases sub with
        | none => cases h
        | some F =>
          have hF := hs F rfl
          simp only at h
          split at h
          · cases hn : F more with
            | bad q => rw [hn] at h; cases h
            | ok e2 q =>
              rw [hn] at h
              have := hF _ _ _ hn
              simp only [ERes.ok.injEq] at h; rw [← h.2, List.length_cons]; omega
          · split at h
            · cases hn : levF F 3 more with
              | bad q => rw [hn] at h; cases h
              | ok e2 q =>
                rw [hn] at h
                have := levF_shr hF 3 _ _ _ hn
                cases q with
                | nil => cases h
                | cons u q =>
                  simp only at h
                  split at h
                  · simp only [ERes.ok.injEq] at h; rw [← h.2]; simp at this ⊢; omega
                  · cases h
            · cases h
theorem facF_shr : ∀ d, Shr (facF d) := by
  intro d
  induction d with
  | zero => exact facStep_shr (fun F h => by cases h)
  | succ d ih => exact facStep_shr (fun F h => by injection h with h; rw [← h]; exact ih)

theorem loopF_fuel {level : Nat} {next : List Tok → ERes} (hS : Shr next) : ∀ (f g : Nat) (e : Ex) (l : List Tok), l.length ≤ f → l.length ≤ g → loopF level next f e l = loopF level next g e l := by
  intro f
  induction f with
  | zero =>
    intro g e l h1 _
    cases l with
    | nil => cases g <;> rfl
    | cons t more => simp at h1
  | succ f ih =>
    intro g e l h1 h2
    cases l with
    | nil => cases g <;> rfl
    | cons t more =>
      obtain ⟨g, rfl⟩ : ∃ g', g = g' + 1 := ⟨g - 1, by simp at h2; omega⟩
      simp only [List.length_cons] at h1 h2
      simp only [loopF]
      split
      · rfl
      · cases hn : next more with
        | bad q => rfl
        | ok e2 q =>
          have := hS _ _ _ hn
          simp only
          split
          · rfl
          · exact ih _ _ _ (by omega) (by omega)
theorem loopF_step {level : Nat} {next : List Tok → ERes} (hS : Shr next) {e e2 : Ex} {t : Tok} {more r : List Tok} (h : opP level t ≠ 0) (hl : level ≠ 0) (hn : next more = .ok e2 r) :
    loopF level next (t :: more).length e (t :: more) = loopF level next r.length (.bin (opP level t) e e2) r := by
  have := hS _ _ _ hn
  rw [List.length_cons, loopF, if_neg h, hn]
  simp only
  rw [if_neg hl]
  exact loopF_fuel hS _ _ _ _ (by omega) (Nat.le_refl _)

/-- What comes next is no operator from this level on. -/
def Stops (lv : Nat) (l : List Tok) : Prop := ∃ t more, l = t :: more ∧ ∀ j, lv ≤ j → opP j t = 0
theorem Stops.mono {a b : Nat} {l : List Tok} (h : Stops a l) (hab : a ≤ b) : Stops b l := by
  obtain ⟨t, more, rfl, hz⟩ := h
  exact ⟨t, more, rfl, fun j hj => hz j (by omega)⟩
theorem loop_stops {level : Nat} {next : List Tok → ERes} {f : Nat} {e : Ex} {l : List Tok} (h : Stops level l) : loopF level next f e l = .ok e l := by
  obtain ⟨t, more, rfl, hz⟩ := h
  exact loopF_stop (hz _ (Nat.le_refl _))

theorem lift_one {F : List Tok → ERes} {up : Nat} {l r : List Tok} {e : Ex} (h : levF F up l = .ok e r) (hs : Stops (2 - up) r) : levF F (up + 1) l = .ok e r := by
  rw [levF, h]; exact loop_stops hs
theorem lift_to {F : List Tok → ERes} {up : Nat} {l r : List Tok} {e : Ex} (h : levF F up l = .ok e r) (n : Nat) (hn : up + n ≤ 3) (hs : Stops (3 - (up + n)) r) : levF F (up + n) l = .ok e r := by
  induction n with
  | zero => exact h
  | succ n ih =>
    have h1 := ih (by omega) (hs.mono (by omega))
    rw [← Nat.add_assoc]
    exact lift_one h1 (hs.mono (by omega))

/-- A tree's tokens are read as it is, wherever they stand, if so many may still be around. -/
structure Reads (d : Nat) (e : Ex) : Prop where
  fac : need e 3 ≤ d → ∀ a rest, a.map bare = ptoks e 3 → facF d (a ++ rest) = .ok e rest
  mid2 : need e 2 ≤ d → ∀ a rest, a.map bare = ptoks e 2 → Stops 3 rest → levF (facF d) 1 (a ++ rest) = loopF 2 (levF (facF d) 0) rest.length e rest
  mid1 : need e 1 ≤ d → ∀ a rest, a.map bare = ptoks e 1 → Stops 2 rest → levF (facF d) 2 (a ++ rest) = loopF 1 (levF (facF d) 1) rest.length e rest
  low : need e 0 ≤ d → ∀ a rest, a.map bare = ptoks e 0 → Stops 0 rest → levF (facF d) 3 (a ++ rest) = .ok e rest

theorem reads_of_fac {d : Nat} {e : Ex} (hn : ∀ lv, need e lv = need e 3) (hp : ∀ lv, ptoks e lv = ptoks e 3) (h : need e 3 ≤ d → ∀ a rest, a.map bare = ptoks e 3 → facF d (a ++ rest) = .ok e rest) : Reads d e := by
  refine ⟨h, fun h1 a rest h2 hs => ?_, fun h1 a rest h2 hs => ?_, fun h1 a rest h2 hs => ?_⟩
  · have := h (by rw [← hn 2]; exact h1) a rest (by rw [← hp 2]; exact h2)
    rw [levF, levF, this]
  · have := h (by rw [← hn 1]; exact h1) a rest (by rw [← hp 1]; exact h2)
    have h3 : levF (facF d) 1 (a ++ rest) = .ok e rest := lift_to (up := 0) this 1 (by omega) (hs.mono (by omega))
    rw [levF, h3]
  · have := h (by rw [← hn 0]; exact h1) a rest (by rw [← hp 0]; exact h2)
    exact lift_to (up := 0) this 3 (by omega) hs

theorem facF_minus {d : Nat} {t : Tok} {more r : List Tok} {e : Ex} (ht : bare t = (3, [45], 0)) (h : facF d more = .ok e r) : facF (d + 1) (t :: more) = .ok (.un 3 e) r := by
  obtain ⟨kd, tx, n, pos⟩ := t
  simp only [bare, Prod.mk.injEq] at ht
  obtain ⟨rfl, rfl, rfl⟩ := ht
  simp [facF, facStep, h]
theorem facF_paren {d : Nat} {t u : Tok} {more r : List Tok} {e : Ex} (ht : bare t = (3, [40], 0)) (hu : bare u = (3, [41], 0)) (h : levF (facF d) 3 more = .ok e (u :: r)) : facF (d + 1) (t :: more) = .ok e r := by
  obtain ⟨kd, tx, n, pos⟩ := t
  simp only [bare, Prod.mk.injEq] at ht
  obtain ⟨rfl, rfl, rfl⟩ := ht
  obtain ⟨kd, tx, n, pos⟩ := u
  simp only [bare, Prod.mk.injEq] at hu
  obtain ⟨rfl, rfl, rfl⟩ := hu
  simp [facF, facStep, h]
theorem stops_close {u : Tok} {r : List Tok} (hu : bare u = (3, [41], 0)) : Stops 0 (u :: r) := by
  obtain ⟨kd, tx, n, pos⟩ := u
  simp only [bare, Prod.mk.injEq] at hu
  obtain ⟨rfl, rfl, rfl⟩ := hu
  refine ⟨_, _, rfl, fun j _ => ?_⟩
  match j with
  | 0 => simp [opP]
  | 1 => simp [opP]
  | 2 => simp [opP]
  | j + 3 => exact opP_high _ (by omega)
theorem stops_end {u : Tok} {r : List Tok} (hu : u.kind = 4) : Stops 0 (u :: r) := ⟨_, _, rfl, fun j _ => by simp [opP, hu]⟩

theorem split_bin {x : List Tok} {A B : List (Nat × List UInt8 × Int)} {c : Nat × List UInt8 × Int} (h : x.map bare = A ++ c :: B) : ∃ a t b, x = a ++ t :: b ∧ a.map bare = A ∧ bare t = c ∧ b.map bare = B := by
  obtain ⟨a, y, rfl, h1, h2⟩ := List.map_eq_append_iff.mp h
  obtain ⟨t, b, rfl, h3, h4⟩ := List.map_eq_cons_iff.mp h2
  exact ⟨a, t, b, rfl, h1, h3, h4⟩

/-- Two operands and an operator, without parentheses around. -/
theorem reads_body {d : Nat} {k : Int} {a b : Ex} (h1 : 4 ≤ k) (h2 : k ≤ 10) (Ia : Reads d a) (Ib : Reads d b) (hn : max (need a (leftL k)) (need b (ownL k + 1)) ≤ d) {x rest : List Tok}
    (hx : x.map bare = ptoks a (leftL k) ++ (3, (signP k).1, 0) :: ptoks b (ownL k + 1)) :
    (ownL k = 2 → Stops 3 rest → levF (facF d) 1 (x ++ rest) = loopF 2 (levF (facF d) 0) rest.length (.bin k a b) rest) ∧
    (ownL k = 1 → Stops 2 rest → levF (facF d) 2 (x ++ rest) = loopF 1 (levF (facF d) 1) rest.length (.bin k a b) rest) ∧
    (ownL k = 0 → Stops 1 rest → levF (facF d) 3 (x ++ rest) = .ok (.bin k a b) rest) := by
  obtain ⟨p, t, q, rfl, hp, ht, hq⟩ := split_bin hx
  obtain ⟨ho, hhi⟩ := op_of_sign h1 h2 ht
  have hne : opP (ownL k) t ≠ 0 := by omega
  have e1 : (p ++ t :: q) ++ rest = p ++ (t :: (q ++ rest)) := by simp
  rw [e1]
  have hna : need a (leftL k) ≤ d := by omega
  have hnb : need b (ownL k + 1) ≤ d := by omega
  refine ⟨fun hw hs => ?_, fun hw hs => ?_, fun hw hs => ?_⟩
  · have hl : leftL k = 2 := by simp [leftL, hw]
    rw [hl] at hna hp
    rw [hw] at hnb hq hne ho hhi
    rw [Ia.mid2 hna p _ hp ⟨t, _, rfl, fun j hj => hhi j (by omega)⟩]
    rw [loopF_step (levF_shr (facF_shr d) 0) hne (by omega) (Ib.fac hnb q rest hq), ho]
  · have hl : leftL k = 1 := by simp [leftL, hw]
    rw [hl] at hna hp
    rw [hw] at hnb hq hne ho hhi
    rw [Ia.mid1 hna p _ hp ⟨t, _, rfl, fun j hj => hhi j (by omega)⟩]
    have hb := Ib.mid2 hnb q rest hq (hs.mono (by omega))
    rw [loop_stops hs] at hb
    rw [loopF_step (levF_shr (facF_shr d) 1) hne (by omega) hb, ho]
  · have hl : leftL k = 1 := by simp [leftL, hw]
    rw [hl] at hna hp
    rw [hw] at hnb hq hne ho hhi
    have ha := Ia.mid1 hna p (t :: (q ++ rest)) hp ⟨t, _, rfl, fun j hj => hhi j (by omega)⟩
    rw [loopF_stop (hhi 1 (by omega))] at ha
    have hb := Ib.mid1 hnb q rest hq (hs.mono (by omega))
    rw [loop_stops hs] at hb
    rw [levF, ha]
    simp only [List.length_cons, Nat.sub_self, loopF]
    rw [if_neg hne, hb]
    simp [ho]

theorem reads_good : ∀ (e : Ex), Good e → ∀ d, Reads d e := by
  intro e
  induction e with
  | leaf k n nm =>
    intro hg d
    refine reads_of_fac (fun _ => rfl) (fun _ => rfl) (fun _ a rest ha => ?_)
    rcases hg with ⟨rfl, _, _, rfl⟩ | ⟨rfl, rfl, hn⟩
    · simp only [ptoks, if_true] at ha
      obtain ⟨t, b, rfl, ht, hb⟩ := List.map_eq_cons_iff.mp ha
      obtain rfl := List.map_eq_nil_iff.mp hb
      obtain ⟨kd, tx, n', pos⟩ := t
      simp only [bare, Prod.mk.injEq] at ht
      obtain ⟨rfl, rfl, rfl⟩ := ht
      cases d <;> simp [facF, facStep]
    · have e2 : ptoks (.leaf 2 0 nm) 3 = [(1, nm, 0)] := by simp [ptoks]
      rw [e2] at ha
      obtain ⟨t, b, rfl, ht, hb⟩ := List.map_eq_cons_iff.mp ha
      obtain rfl := List.map_eq_nil_iff.mp hb
      obtain ⟨kd, tx, n', pos⟩ := t
      simp only [bare, Prod.mk.injEq] at ht
      obtain ⟨rfl, rfl, rfl⟩ := ht
      cases d <;> simp [facF, facStep, hn]
  | un k a ih =>
    intro hg d
    obtain ⟨rfl, hg⟩ := hg
    refine reads_of_fac (fun _ => rfl) (fun _ => rfl) (fun hn a' rest ha => ?_)
    simp only [need] at hn
    obtain ⟨d, rfl⟩ : ∃ d', d = d' + 1 := ⟨d - 1, by omega⟩
    simp only [ptoks] at ha
    obtain ⟨t, b, rfl, ht, hb⟩ := List.map_eq_cons_iff.mp ha
    exact facF_minus ht ((ih hg d).fac (by omega) b rest hb)
  | bin k a b i1 i2 =>
    intro hg d
    obtain ⟨h1, h2, ga, gb⟩ := hg
    have how := own_le h1 h2
    -- without parentheses
    have body : ∀ (d : Nat) (x rest : List Tok), max (need a (leftL k)) (need b (ownL k + 1)) ≤ d → x.map bare = ptoks a (leftL k) ++ (3, (signP k).1, 0) :: ptoks b (ownL k + 1) → _ := fun d x rest hn hx => reads_body (rest := rest) h1 h2 (i1 ga d) (i2 gb d) hn hx
    -- at the loosest level
    have low : ∀ (d : Nat) (x rest : List Tok), max (need a (leftL k)) (need b (ownL k + 1)) ≤ d → x.map bare = ptoks a (leftL k) ++ (3, (signP k).1, 0) :: ptoks b (ownL k + 1) → Stops 0 rest → levF (facF d) 3 (x ++ rest) = .ok (.bin k a b) rest := by
      intro d x rest hn hx hs
      obtain ⟨b2, b1, b0⟩ := body d x rest hn hx
      rcases (by omega : ownL k = 0 ∨ ownL k = 1 ∨ ownL k = 2) with hw | hw | hw
      · exact b0 hw (hs.mono (by omega))
      · have := b1 hw (hs.mono (by omega))
        rw [loop_stops (hs.mono (by omega))] at this
        exact lift_to this 1 (by omega) (hs.mono (by omega))
      · have := b2 hw (hs.mono (by omega))
        rw [loop_stops (hs.mono (by omega))] at this
        exact lift_to this 2 (by omega) (hs.mono (by omega))
    -- in parentheses
    have par : ∀ lv, ownL k < lv → need (.bin k a b) lv ≤ d → ∀ (x rest : List Tok), x.map bare = ptoks (.bin k a b) lv → facF d (x ++ rest) = .ok (.bin k a b) rest := by
      intro lv hlv hn x rest hx
      simp only [need, if_pos hlv] at hn
      simp only [ptoks, if_pos hlv] at hx
      obtain ⟨d, rfl⟩ : ∃ d', d = d' + 1 := ⟨d - 1, by omega⟩
      obtain ⟨t, y0, rfl, ht, hy0⟩ := List.map_eq_cons_iff.mp hx
      obtain ⟨y, z, rfl, hy, hz⟩ := List.map_eq_append_iff.mp hy0
      obtain ⟨u, v, rfl, hu, hv⟩ := List.map_eq_cons_iff.mp hz
      obtain rfl := List.map_eq_nil_iff.mp hv
      have := low d y (u :: rest) (by omega) hy (stops_close hu)
      have e1 : t :: (y ++ [u]) ++ rest = t :: (y ++ u :: rest) := by simp
      rw [e1]
      exact facF_paren ht hu this
    refine ⟨fun hn x rest hx => par 3 (by omega) hn x rest hx, fun hn x rest hx hs => ?_, fun hn x rest hx hs => ?_, fun hn x rest hx hs => ?_⟩
    · by_cases hlv : ownL k < 2
      · have := par 2 hlv hn x rest hx
        rw [levF, levF, this]
      · simp only [need, if_neg hlv] at hn
        simp only [ptoks, if_neg hlv] at hx
        exact (body d x rest (by omega) hx).1 (by omega) hs
    · by_cases hlv : ownL k < 1
      · have := par 1 hlv hn x rest hx
        have h3 : levF (facF d) 1 (x ++ rest) = .ok (.bin k a b) rest := lift_to (up := 0) this 1 (by omega) (hs.mono (by omega))
        rw [levF, h3]
      · simp only [need, if_neg hlv] at hn
        simp only [ptoks, if_neg hlv] at hx
        rcases (by omega : ownL k = 1 ∨ ownL k = 2) with hw | hw
        · exact (body d x rest (by omega) hx).2.1 hw hs
        · have := (body d x rest (by omega) hx).1 hw (hs.mono (by omega))
          rw [loop_stops hs] at this
          rw [levF, this]
    · simp only [need, if_neg (Nat.not_lt_zero _)] at hn
      simp only [ptoks, if_neg (Nat.not_lt_zero _)] at hx
      exact low d x rest (by omega) hx hs

end Go.Proofs.YtgkfmeccipgnjaaDoor
