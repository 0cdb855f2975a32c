/- Plain: the lexer byte by byte, inside a note or not; places tell bytes apart. -/
import Derived.Test.YtgkfmeccipgnjaaDoorLr
import Derived.Test.YtgkfmeccipgnjaaDoorLt
import Derived.Test.YtgkfmeccipgnjaaDoorLd
namespace Go.Proofs.YtgkfmeccipgnjaaDoor

/-- The tokens of what is left, where we may stand inside a note. -/
def lexM (note : Bool) (l : List UInt8) (off : Nat) : LexR := if note then lexG (l.drop (runL noteB l)) (off + runL noteB l) else lexG l off

theorem lexG_ge {l : List UInt8} {off : Nat} {ts : List Tok} (h : lexG l off = .good ts) : ∀ t ∈ ts, off ≤ t.pos := by
  intro t ht
  rcases lexF_toks _ _ _ _ h t ht with he | ⟨j, size, n, hj, _, he⟩
  · rw [he]; simp
  · rw [he]; simp

theorem lexM_end (note : Bool) (off : Nat) : lexM note [] off = .good [⟨4, [], 0, off⟩] := by
  cases note <;> simp [lexM, lexG_nil, runL]
theorem lexM_ff_blank {c : UInt8} {r : List UInt8} {off : Nat} (h : blankB c = true) : lexM false (c :: r) off = lexM false r (off + 1) := lexG_blank h
theorem lexM_ff_note {c : UInt8} {r : List UInt8} {off : Nat} (h : c.toNat = 35) : lexM false (c :: r) off = lexM true r (off + 1) := by
  have hn : noteB c = true := by simp [noteB, h]
  show lexG (c :: r) off = lexG (r.drop (runL noteB r)) (off + 1 + runL noteB r)
  rw [lexG_note h, runL_yes hn, List.drop_succ_cons, show off + (runL noteB r + 1) = off + 1 + runL noteB r by omega]
theorem lexM_tt_feed {c : UInt8} {r : List UInt8} {off : Nat} (h : c.toNat = 10) : lexM true (c :: r) off = lexM false r (off + 1) := by
  have hn : ¬ noteB c = true := by simp [noteB, h]
  show lexG ((c :: r).drop (runL noteB (c :: r))) (off + runL noteB (c :: r)) = lexG r (off + 1)
  rw [runL_no hn]
  exact lexG_blank (by simp [blankB, h])
theorem lexM_tt_more {c : UInt8} {r : List UInt8} {off : Nat} (h : ¬ c.toNat = 10) : lexM true (c :: r) off = lexM true r (off + 1) := by
  have hn : noteB c = true := by simp [noteB, h]
  show lexG ((c :: r).drop (runL noteB (c :: r))) (off + runL noteB (c :: r)) = lexG (r.drop (runL noteB r)) (off + 1 + runL noteB r)
  rw [runL_yes hn, List.drop_succ_cons, show off + (runL noteB r + 1) = off + 1 + runL noteB r by omega]
theorem lexM_ge {note : Bool} {l : List UInt8} {off : Nat} {ts : List Tok} (h : lexM note l off = .good ts) : ∀ t ∈ ts, off ≤ t.pos := by
  intro t ht
  cases note with
  | true => have := lexG_ge (show lexG _ _ = _ from h) t ht; omega
  | false => exact lexG_ge h t ht

/-- One step: what the next byte is, where the next token does not stand here. -/
theorem lexM_gap {note : Bool} {c : UInt8} {r : List UInt8} {off : Nat} {t : Tok} {ts : List Tok} (h : lexM note (c :: r) off = .good (t :: ts)) (hp : off ≠ t.pos) :
    (note = false ∧ blankB c = true ∧ lexM false r (off + 1) = .good (t :: ts)) ∨ (note = false ∧ c.toNat = 35 ∧ lexM true r (off + 1) = .good (t :: ts)) ∨
    (note = true ∧ c.toNat = 10 ∧ lexM false r (off + 1) = .good (t :: ts)) ∨ (note = true ∧ ¬ c.toNat = 10 ∧ lexM true r (off + 1) = .good (t :: ts)) := by
  cases note with
  | true =>
    by_cases h10 : c.toNat = 10
    · right; right; left; exact ⟨rfl, h10, by rw [← lexM_tt_feed h10]; exact h⟩
    · right; right; right; exact ⟨rfl, h10, by rw [← lexM_tt_more h10]; exact h⟩
  | false =>
    by_cases hb : blankB c = true
    · left; exact ⟨rfl, hb, by rw [← lexM_ff_blank hb]; exact h⟩
    · by_cases h35 : c.toNat = 35
      · right; left; exact ⟨rfl, h35, by rw [← lexM_ff_note h35]; exact h⟩
      · exfalso
        have h' : lexG (c :: r) off = .good (t :: ts) := h
        rw [lexG_tok h35 hb] at h'
        cases ht : tokAt (c :: r) with
        | none => rw [ht] at h'; cases h'
        | some q =>
          obtain ⟨k, size, n⟩ := q
          rw [ht] at h'
          simp only at h'
          cases hr : lexG ((c :: r).drop size) (off + size) with
          | bad p => rw [hr] at h'; cases h'
          | good us =>
            rw [hr] at h'
            simp only [LexR.pre, LexR.good.injEq, List.singleton_append, List.cons.injEq] at h'
            apply hp; rw [← h'.1]

theorem tokAt_kind {l : List UInt8} {k size : Nat} {n : Int} (h : tokAt l = some (k, size, n)) : k ≠ 4 := by
  cases l with
  | nil => simp [tokAt] at h
  | cons c r =>
    rw [tokAt] at h
    split at h
    · split at h
      · cases h
      · simp only [Option.some.injEq, Prod.mk.injEq] at h; omega
    · split at h
      · split at h
        · simp only [Option.some.injEq, Prod.mk.injEq] at h; omega
        · cases h
      · split at h
        · simp only [Option.some.injEq, Prod.mk.injEq] at h; omega
        · cases h

/-- The next token stands here. -/
theorem lexM_here {note : Bool} {c : UInt8} {r : List UInt8} {off : Nat} {t : Tok} {ts : List Tok} (h : lexM note (c :: r) off = .good (t :: ts)) (hp : off = t.pos) :
    note = false ∧ t.kind ≠ 4 ∧ ∃ size, 1 ≤ size ∧ size ≤ (c :: r).length ∧ t.text = (c :: r).take size ∧ lexM false ((c :: r).drop size) (off + size) = .good ts := by
  have key : ∀ n2, lexM n2 r (off + 1) = .good (t :: ts) → False := fun n2 h2 => by
    have := lexM_ge h2 t (by simp); omega
  cases note with
  | true =>
    exfalso
    by_cases h10 : c.toNat = 10
    · exact key false (by rw [← lexM_tt_feed h10]; exact h)
    · exact key true (by rw [← lexM_tt_more h10]; exact h)
  | false =>
    refine ⟨rfl, ?_⟩
    by_cases hb : blankB c = true
    · exact (key false (by rw [← lexM_ff_blank hb]; exact h)).elim
    · by_cases h35 : c.toNat = 35
      · exact (key true (by rw [← lexM_ff_note h35]; exact h)).elim
      · have h' : lexG (c :: r) off = .good (t :: ts) := h
        rw [lexG_tok h35 hb] at h'
        cases ht : tokAt (c :: r) with
        | none => rw [ht] at h'; cases h'
        | some q =>
          obtain ⟨k, size, n⟩ := q
          have hk := tokAt_kind ht
          have hsz := tokAt_size ht
          rw [ht] at h'
          simp only at h'
          cases hr : lexG ((c :: r).drop size) (off + size) with
          | bad p => rw [hr] at h'; cases h'
          | good us =>
            rw [hr] at h'
            simp only [LexR.pre, LexR.good.injEq, List.singleton_append, List.cons.injEq] at h'
            obtain ⟨h1, h2⟩ := h'
            refine ⟨by rw [← h1]; exact hk, size, hsz.1, hsz.2, by rw [← h1], ?_⟩
            show lexG _ _ = _
            rw [hr, h2]

theorem lexM_start {L : List UInt8} {ts : List Tok} (hs : L.length ≤ 6000) (h : lexAll L = .good ts) : lexM false (L.drop 0) 0 = .good ts := by
  show lexG _ _ = _
  rw [List.drop_zero, ← lexG_all hs]; exact h

theorem spot_lt (L : List UInt8) (a : Nat) : ∀ b, a < b → b ≤ L.length → (spotL (L.take a)).1 < (spotL (L.take b)).1 ∨ ((spotL (L.take a)).1 = (spotL (L.take b)).1 ∧ (spotL (L.take a)).2 < (spotL (L.take b)).2) := by
  intro b
  induction b with
  | zero => intro h; omega
  | succ b ih =>
    intro h hb
    have hlt : b < L.length := by omega
    have e : L.take (b + 1) = L.take b ++ [L[b]] := List.take_succ_eq_append_getElem hlt
    rw [e, spotL_snoc]
    have hst : (spotL (L.take b)).1 < (spotStep (spotL (L.take b)) L[b]).1 ∨ ((spotL (L.take b)).1 = (spotStep (spotL (L.take b)) L[b]).1 ∧ (spotL (L.take b)).2 < (spotStep (spotL (L.take b)) L[b]).2) := by
      unfold spotStep; split <;> simp
    by_cases hab : a = b
    · subst hab; exact hst
    · have := ih (by omega) (by omega)
      omega
theorem spot_inj (L : List UInt8) {a b : Nat} (ha : a ≤ L.length) (hb : b ≤ L.length) (h : spotL (L.take a) = spotL (L.take b)) : a = b := by
  rcases Nat.lt_trichotomy a b with hlt | he | hlt
  · have := spot_lt L a b hlt hb; rw [h] at this; omega
  · exact he
  · have := spot_lt L b a hlt ha; rw [h] at this; omega

end Go.Proofs.YtgkfmeccipgnjaaDoor
