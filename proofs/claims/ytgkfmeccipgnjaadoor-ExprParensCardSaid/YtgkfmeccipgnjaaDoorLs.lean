/- Plain: the lexer on what is left of a text; words behind one another. No program in sight. -/
import Derived.Test.YtgkfmeccipgnjaaDoorLq
namespace Go.Proofs.YtgkfmeccipgnjaaDoor

def LexR.pre (acc : List Tok) : LexR → LexR
  | .bad p => .bad p
  | .good ts => .good (acc ++ ts)

@[simp] theorem LexR.pre_nil (r : LexR) : r.pre [] = r := by cases r <;> rfl
theorem LexR.pre_pre (a b : List Tok) (r : LexR) : (r.pre b).pre a = r.pre (a ++ b) := by cases r <;> simp [LexR.pre]

/-- The token that stands first: kind, size, number. -/
def tokAt : List UInt8 → Option (Nat × Nat × Int)
  | [] => none
  | c :: r =>
    if letterB c then (if wordL (c :: r) = 0 then none else some (1, wordL (c :: r), 0))
    else if digitB c then
      (if Lib.itoa (atoiV ((c :: r).take (runL digitB (c :: r)))) = (c :: r).take (runL digitB (c :: r)) then
        some (2, runL digitB (c :: r), atoiV ((c :: r).take (runL digitB (c :: r)))) else none)
    else if c ∈ signsL then some (3, signSize (c :: r), 0)
    else none

/-- The tokens of what is left, which stands at byte off. -/
def lexF : Nat → List UInt8 → Nat → LexR
  | 0, _, off => .bad off
  | f + 1, l, off =>
    match l.drop (runL blankB l) with
    | [] => .good [⟨4, [], 0, off + runL blankB l⟩]
    | c :: r =>
      if c.toNat = 35 then lexF f ((c :: r).drop (runL noteB (c :: r))) (off + runL blankB l + runL noteB (c :: r))
      else match tokAt (c :: r) with
        | none => .bad (off + runL blankB l)
        | some (k, size, n) => (lexF f ((c :: r).drop size) (off + runL blankB l + size)).pre [⟨k, (c :: r).take size, n, off + runL blankB l⟩]

theorem runL_pos {p : UInt8 → Bool} {c : UInt8} {r : List UInt8} (h : p c = true) : 0 < runL p (c :: r) := by simp [runL, h]

theorem oneTok_eq (L : List UInt8) (go : Nat → List Tok → LexR) (p : Nat) (acc : List Tok) (c : UInt8) (r : List UInt8) (h : L.drop p = c :: r) :
    oneTok L go p acc c = if c.toNat = 35 then go (p + runL noteB (c :: r)) acc else match tokAt (c :: r) with
      | none => .bad p
      | some (k, size, n) => go (p + size) (acc ++ [⟨k, (c :: r).take size, n, p⟩]) := by
  unfold oneTok
  rw [h]
  by_cases h35 : c.toNat = 35
  · simp [h35]
  · simp only [h35, if_false]
    unfold tokAt
    by_cases hl : letterB c = true
    · simp only [hl, if_true, closeTok, h]
      by_cases hw : wordL (c :: r) = 0
      · simp [hw]
      · simp [hw]
    · simp only [hl, Bool.false_eq_true, if_false]
      by_cases hd : digitB c = true
      · simp only [hd, if_true, numTok, closeTok, h]
        have hp := runL_pos (r := r) hd
        by_cases hi : Lib.itoa (atoiV ((c :: r).take (runL digitB (c :: r)))) = (c :: r).take (runL digitB (c :: r))
        · simp only [hi, if_true]
          rw [if_neg (by omega)]
        · simp [hi]
      · simp only [hd, Bool.false_eq_true, if_false]
        by_cases hs : c ∈ signsL
        · simp only [hs, if_true, closeTok, h]
          have : signSize (c :: r) ≠ 0 := by unfold signSize; split <;> simp
          simp [this]
        · simp [hs]

theorem lexN_eq (L : List UInt8) : ∀ (f p : Nat) (acc : List Tok), lexN L f p acc = (lexF f (L.drop p) p).pre acc := by
  intro f
  induction f with
  | zero => intro p acc; rfl
  | succ f ih =>
    intro p acc
    rw [lexN, lexF]
    rw [List.drop_drop]
    cases hd : L.drop (p + runL blankB (L.drop p)) with
    | nil =>
      have hn : L[p + runL blankB (L.drop p)]? = none := by
        rw [List.getElem?_eq_none_iff]; exact List.drop_eq_nil_iff.mp hd
      rw [hn]; rfl
    | cons c r =>
      have hc : L[p + runL blankB (L.drop p)]? = some c := by
        have := List.getElem?_drop (xs := L) (i := p + runL blankB (L.drop p)) (j := 0)
        rw [hd] at this; simpa using this.symm
      rw [hc]
      simp only
      rw [oneTok_eq L _ _ _ c r hd]
      by_cases h35 : c.toNat = 35
      · rw [if_pos h35, if_pos h35, ih, ← hd, List.drop_drop]
      · rw [if_neg h35, if_neg h35]
        cases ht : tokAt (c :: r) with
        | none => rfl
        | some q =>
          obtain ⟨k, size, n⟩ := q
          simp only
          rw [ih, LexR.pre_pre, ← List.drop_drop, hd]

/-- The tokens of a text that is short enough. -/
theorem lexAll_eq {L : List UInt8} (h : L.length ≤ 6000) : lexAll L = lexF (L.length + 1) L 0 := by
  rw [lexAll, if_neg (by omega), lexN_eq]; simp

theorem tokAt_size {l : List UInt8} {k size : Nat} {n : Int} (h : tokAt l = some (k, size, n)) : 1 ≤ size ∧ size ≤ l.length := by
  cases l with
  | nil => simp [tokAt] at h
  | cons c r =>
    rw [tokAt] at h
    have h1 := wordL_le (c :: r)
    have h2 := runL_le digitB (c :: r)
    split at h
    · split at h
      · cases h
      · rename_i hw
        simp only [Option.some.injEq, Prod.mk.injEq] at h
        omega
    · split at h
      · rename_i hd
        have := runL_pos (r := r) hd
        split at h
        · simp only [Option.some.injEq, Prod.mk.injEq] at h
          omega
        · cases h
      · split at h
        · simp only [Option.some.injEq, Prod.mk.injEq] at h
          obtain ⟨_, rfl, _⟩ := h
          unfold signSize
          split
          · rename_i hp
            have := (List.isPrefixOf_iff_prefix.mp hp).length_le
            simp only [List.length_cons, List.length_nil] at this ⊢
            omega
          · simp
        · cases h

theorem note_run {c : UInt8} {r : List UInt8} (h : c.toNat = 35) : 1 ≤ runL noteB (c :: r) := runL_pos (by simp [noteB, h])

/-- With fuel enough, how much does not matter. -/
theorem lexF_fuel : ∀ (f : Nat) (l : List UInt8) (off g : Nat), l.length < f → l.length < g → lexF f l off = lexF g l off := by
  intro f
  induction f with
  | zero => intro l off g h; omega
  | succ f ih =>
    intro l off g hf hg
    obtain ⟨g, rfl⟩ : ∃ g', g = g' + 1 := ⟨g - 1, by omega⟩
    rw [lexF, lexF]
    have hb := runL_le blankB l
    cases hd : l.drop (runL blankB l) with
    | nil => rfl
    | cons c r =>
      have hlen : (c :: r).length ≤ l.length := by rw [← hd]; simp
      simp only
      by_cases h35 : c.toNat = 35
      · rw [if_pos h35, if_pos h35]
        have h1 := note_run (r := r) h35
        have h2 := runL_le noteB (c :: r)
        apply ih <;> (simp only [List.length_drop]; omega)
      · rw [if_neg h35, if_neg h35]
        cases ht : tokAt (c :: r) with
        | none => rfl
        | some q =>
          obtain ⟨k, size, n⟩ := q
          have := tokAt_size ht
          simp only
          rw [ih ((c :: r).drop size) _ g (by simp only [List.length_drop]; omega) (by simp only [List.length_drop]; omega)]

def Tok.up (d : Nat) (t : Tok) : Tok := { t with pos := t.pos + d }
def LexR.up (d : Nat) : LexR → LexR
  | .bad p => .bad (p + d)
  | .good ts => .good (ts.map (Tok.up d))

theorem up_pre (d : Nat) (r : LexR) (t : Tok) : (r.pre [t]).up d = (r.up d).pre [t.up d] := by cases r <;> simp [LexR.pre, LexR.up]

theorem lexF_up (d : Nat) : ∀ (f : Nat) (l : List UInt8) (off : Nat), lexF f l (off + d) = (lexF f l off).up d := by
  intro f
  induction f with
  | zero => intro l off; rfl
  | succ f ih =>
    intro l off
    rw [lexF, lexF]
    have e0 : off + d + runL blankB l = off + runL blankB l + d := by omega
    rw [e0]
    cases hd : l.drop (runL blankB l) with
    | nil => simp [LexR.up, Tok.up]
    | cons c r =>
      simp only
      by_cases h35 : c.toNat = 35
      · have e1 : off + runL blankB l + d + runL noteB (c :: r) = off + runL blankB l + runL noteB (c :: r) + d := by omega
        rw [if_pos h35, if_pos h35, e1, ih]
      · rw [if_neg h35, if_neg h35]
        cases ht : tokAt (c :: r) with
        | none => simp [LexR.up]
        | some q =>
          obtain ⟨k, size, n⟩ := q
          have e1 : off + runL blankB l + d + size = off + runL blankB l + size + d := by omega
          simp only
          rw [e1, up_pre, ih]
          simp only [Tok.up]

theorem lexF_ne : ∀ (f : Nat) (l : List UInt8) (off : Nat) (ts : List Tok), lexF f l off = .good ts → ts ≠ [] := by
  intro f
  induction f with
  | zero => intro l off ts h; cases h
  | succ f ih =>
    intro l off ts h
    rw [lexF] at h
    cases hd : l.drop (runL blankB l) with
    | nil => rw [hd] at h; simp at h; rw [← h]; simp
    | cons c r =>
      rw [hd] at h
      simp only at h
      by_cases h35 : c.toNat = 35
      · rw [if_pos h35] at h; exact ih _ _ _ h
      · rw [if_neg h35] at h
        cases ht : tokAt (c :: r) with
        | none => rw [ht] at h; cases h
        | some q =>
          rw [ht] at h
          obtain ⟨k, size, n⟩ := q
          simp only at h
          cases hr : lexF f ((c :: r).drop size) (off + runL blankB l + size) with
          | bad p => rw [hr] at h; cases h
          | good us => rw [hr] at h; simp [LexR.pre] at h; rw [← h]; simp

theorem runL_yes {p : UInt8 → Bool} {c : UInt8} {r : List UInt8} (h : p c = true) : runL p (c :: r) = runL p r + 1 := by rw [runL, if_pos h]
theorem runL_no {p : UInt8 → Bool} {c : UInt8} {r : List UInt8} (h : ¬ p c = true) : runL p (c :: r) = 0 := by rw [runL, if_neg h]
theorem runL_app {p : UInt8 → Bool} (h10 : p 10 = false) (l t : List UInt8) : runL p (l ++ 10 :: t) = runL p l := by
  induction l with
  | nil => simp [runL, h10]
  | cons c l ih => simp [runL, ih]
theorem runL_blank_app (l t : List UInt8) : runL blankB (l ++ 10 :: t) = if runL blankB l = l.length then l.length + 1 + runL blankB t else runL blankB l := by
  induction l with
  | nil => simp [runL, blankB]; omega
  | cons c l ih =>
    rw [List.cons_append]
    by_cases h : blankB c = true
    · rw [runL_yes h, runL_yes h, ih, List.length_cons]
      by_cases h2 : runL blankB l = l.length
      · rw [if_pos h2, if_pos (by omega)]; omega
      · rw [if_neg h2, if_neg (by omega)]
    · rw [runL_no h, runL_no h, List.length_cons, if_neg (by omega)]

theorem wordL_app (c : UInt8) (r t : List UInt8) : wordL (c :: r ++ 10 :: t) = wordL (c :: r) := by
  have := runL_app (p := wordB) (by decide) (c :: r) t
  simp only [List.cons_append] at this
  simp only [wordL, List.cons_append, this]
theorem signSize_app (c : UInt8) (r t : List UInt8) : signSize (c :: r ++ 10 :: t) = signSize (c :: r) := by
  cases r with
  | nil => simp [signSize, List.isPrefixOf]
  | cons d r => simp [signSize, List.isPrefixOf]
theorem tokAt_app (c : UInt8) (r t : List UInt8) : tokAt (c :: r ++ 10 :: t) = tokAt (c :: r) := by
  have hd := runL_app (p := digitB) (by decide) (c :: r) t
  have hle := runL_le digitB (c :: r)
  have htk : (c :: r ++ 10 :: t).take (runL digitB (c :: r)) = (c :: r).take (runL digitB (c :: r)) := List.take_append_of_le_length hle
  have hw := wordL_app c r t
  have hs := signSize_app c r t
  simp only [List.cons_append] at hd htk hw hs
  simp only [List.cons_append, tokAt, hd, htk, hw, hs]

/-- A text, and another behind a line feed. -/
def LexR.join (r s : LexR) : LexR := match r with
  | .bad p => .bad p
  | .good ts => s.pre ts.dropLast
theorem join_pre (r s : LexR) (t : Tok) (h : ∀ ts, r = .good ts → ts ≠ []) : (r.pre [t]).join s = (r.join s).pre [t] := by
  cases r with
  | bad p => rfl
  | good ts =>
    have := h ts rfl
    cases ts with
    | nil => simp at this
    | cons u us =>
      simp only [LexR.pre, LexR.join, List.singleton_append]
      rw [List.dropLast_cons_of_ne_nil (by simp)]
      cases s <;> simp

theorem lexF_app (t : List UInt8) : ∀ (f : Nat) (l : List UInt8) (off : Nat), (l ++ 10 :: t).length < f → lexF f (l ++ 10 :: t) off = (lexF f l off).join (lexF f t (off + l.length + 1)) := by
  intro f
  induction f with
  | zero => intro l off h; omega
  | succ f ih =>
    intro l off hf
    have hlen : (l ++ 10 :: t).length = l.length + 1 + t.length := by simp; omega
    rw [hlen] at hf
    have hb := runL_le blankB l
    by_cases hall : runL blankB l = l.length
    · have e1 : l.drop (runL blankB l) = [] := by rw [hall]; simp
      have e2 : runL blankB (l ++ 10 :: t) = l.length + 1 + runL blankB t := by rw [runL_blank_app, if_pos hall]
      have e3 : (l ++ 10 :: t).drop (l.length + 1 + runL blankB t) = t.drop (runL blankB t) := by
        rw [Nat.add_assoc, ← List.drop_drop, List.drop_left, Nat.add_comm 1, List.drop_succ_cons]
      have e4 : lexF (f + 1) l off = .good [⟨4, [], 0, off + runL blankB l⟩] := by rw [lexF, e1]
      rw [e4]
      simp only [LexR.join, List.dropLast_singleton, LexR.pre_nil]
      rw [lexF, e2, e3, lexF]
      have e5 : off + (l.length + 1 + runL blankB t) = off + l.length + 1 + runL blankB t := by omega
      rw [e5]
    · have e2 : runL blankB (l ++ 10 :: t) = runL blankB l := by rw [runL_blank_app, if_neg hall]
      cases hd : l.drop (runL blankB l) with
      | nil =>
        have := List.drop_eq_nil_iff.mp hd
        omega
      | cons c r =>
        have hcl : (c :: r).length + runL blankB l = l.length := by rw [← hd, List.length_drop]; omega
        have e3 : (l ++ 10 :: t).drop (runL blankB l) = c :: r ++ 10 :: t := by rw [List.drop_append_of_le_length hb, hd]
        rw [lexF, e2, e3]
        simp only [List.cons_append]
        rw [show lexF (f + 1) l off = if c.toNat = 35 then lexF f ((c :: r).drop (runL noteB (c :: r))) (off + runL blankB l + runL noteB (c :: r))
          else match tokAt (c :: r) with
            | none => .bad (off + runL blankB l)
            | some (k, size, n) => (lexF f ((c :: r).drop size) (off + runL blankB l + size)).pre [⟨k, (c :: r).take size, n, off + runL blankB l⟩] by rw [lexF, hd]]
        by_cases h35 : c.toNat = 35
        · rw [if_pos h35, if_pos h35]
          have en : runL noteB (c :: (r ++ 10 :: t)) = runL noteB (c :: r) := runL_app (p := noteB) (by decide) (c :: r) t
          have h1 := note_run (r := r) h35
          have h2 := runL_le noteB (c :: r)
          rw [en]
          have ed : (c :: (r ++ 10 :: t)).drop (runL noteB (c :: r)) = (c :: r).drop (runL noteB (c :: r)) ++ 10 :: t := by
            rw [show c :: (r ++ 10 :: t) = (c :: r) ++ 10 :: t from rfl, List.drop_append_of_le_length h2]
          rw [ed, ih _ _ (by simp only [List.length_append, List.length_drop, List.length_cons] at hcl hf h1 h2 ⊢; omega)]
          have ef : off + runL blankB l + runL noteB (c :: r) + ((c :: r).drop (runL noteB (c :: r))).length + 1 = off + l.length + 1 := by
            simp only [List.length_drop]; omega
          rw [ef, lexF_fuel f t _ (f + 1) (by omega) (by omega)]
        · rw [if_neg h35, if_neg h35]
          have et : tokAt (c :: (r ++ 10 :: t)) = tokAt (c :: r) := tokAt_app c r t
          rw [et]
          cases ht : tokAt (c :: r) with
          | none => rfl
          | some q =>
            obtain ⟨k, size, n⟩ := q
            have hsz := tokAt_size ht
            simp only
            have ed : (c :: (r ++ 10 :: t)).drop size = (c :: r).drop size ++ 10 :: t := by
              rw [show c :: (r ++ 10 :: t) = (c :: r) ++ 10 :: t from rfl, List.drop_append_of_le_length hsz.2]
            have ek : (c :: (r ++ 10 :: t)).take size = (c :: r).take size := by
              rw [show c :: (r ++ 10 :: t) = (c :: r) ++ 10 :: t from rfl, List.take_append_of_le_length hsz.2]
            rw [ed, ek, ih _ _ (by simp only [List.length_append, List.length_drop, List.length_cons] at hcl hf hsz ⊢; omega)]
            have ef : off + runL blankB l + size + ((c :: r).drop size).length + 1 = off + l.length + 1 := by
              simp only [List.length_drop]; omega
            rw [ef, lexF_fuel f t _ (f + 1) (by omega) (by omega), join_pre _ _ _ (fun ts h => lexF_ne _ _ _ _ h)]

end Go.Proofs.YtgkfmeccipgnjaaDoor
