/- Plain: the laws of chapter 2 on the lexer as a function. No program in sight. -/
import Derived.Test.YtgkfmeccipgnjaaDoorLs
namespace Go.Proofs.YtgkfmeccipgnjaaDoor

/-- Each token but the end is the one that stands at its place. -/
theorem lexF_toks : ∀ (f : Nat) (l : List UInt8) (off : Nat) (ts : List Tok), lexF f l off = .good ts →
    ∀ t ∈ ts, t = ⟨4, [], 0, off + l.length⟩ ∨ ∃ j size n, j ≤ l.length ∧ tokAt (l.drop j) = some (t.kind, size, n) ∧ t = ⟨t.kind, (l.drop j).take size, n, off + j⟩ := by
  intro f
  induction f with
  | zero => intro l off ts h; cases h
  | succ f ih =>
    intro l off ts h
    rw [lexF] at h
    have hb := runL_le blankB l
    cases hd : l.drop (runL blankB l) with
    | nil =>
      rw [hd] at h
      have hl := List.drop_eq_nil_iff.mp hd
      have e : off + runL blankB l = off + l.length := by omega
      simp only [LexR.good.injEq] at h
      subst h
      intro t ht
      left
      rw [← e]; simpa using ht
    | cons c r =>
      rw [hd] at h
      have hlen : (c :: r).length = l.length - runL blankB l := by rw [← hd]; simp
      simp only at h
      by_cases h35 : c.toNat = 35
      · rw [if_pos h35] at h
        have h2 := runL_le noteB (c :: r)
        intro t ht
        rcases ih _ _ _ h t ht with he | ⟨j, size, n, hj, h3, h4⟩
        · left; rw [he]; congr 1; simp only [List.length_drop]; omega
        · right
          refine ⟨runL blankB l + (runL noteB (c :: r) + j), size, n, by simp only [List.length_drop] at hj; omega, ?_, ?_⟩
          · rw [← List.drop_drop, hd, ← List.drop_drop]; exact h3
          · rw [h4]; simp only [Tok.mk.injEq, true_and]
            rw [← List.drop_drop, hd, ← List.drop_drop]
            exact ⟨rfl, by omega⟩
      · rw [if_neg h35] at h
        cases hta : tokAt (c :: r) with
        | none => rw [hta] at h; cases h
        | some q =>
          obtain ⟨k, size, n⟩ := q
          rw [hta] at h
          have hsz := tokAt_size hta
          simp only at h
          cases hr : lexF f ((c :: r).drop size) (off + runL blankB l + size) with
          | bad p => rw [hr] at h; cases h
          | good us =>
            rw [hr] at h
            simp only [LexR.pre, LexR.good.injEq] at h
            subst h
            intro t ht
            simp only [List.singleton_append, List.mem_cons] at ht
            rcases ht with rfl | ht
            · right
              exact ⟨runL blankB l, size, n, hb, by rw [hd]; exact hta, by rw [hd]⟩
            · rcases ih _ _ _ hr t ht with he | ⟨j, size', n', hj, h3, h4⟩
              · left; rw [he]; congr 1; simp only [List.length_drop]; omega
              · right
                refine ⟨runL blankB l + (size + j), size', n', by simp only [List.length_drop] at hj; omega, ?_, ?_⟩
                · rw [← List.drop_drop, hd, ← List.drop_drop]; exact h3
                · rw [h4]; simp only [Tok.mk.injEq, true_and]
                  rw [← List.drop_drop, hd, ← List.drop_drop]
                  exact ⟨rfl, by omega⟩

theorem tokAt_word {l : List UInt8} {size : Nat} {n : Int} (h : tokAt l = some (1, size, n)) : size = wordL l ∧ wordL l ≠ 0 := by
  cases l with
  | nil => simp [tokAt] at h
  | cons c r =>
    rw [tokAt] at h
    split at h
    · split at h
      · cases h
      · rename_i hw
        simp only [Option.some.injEq, Prod.mk.injEq, true_and] at h
        exact ⟨h.1.symm, hw⟩
    · split at h
      · split at h
        · simp at h
        · cases h
      · split at h
        · simp at h
        · cases h

theorem letter_notblank {c : UInt8} (h : letterB c = true) : blankB c = false ∧ ¬ c.toNat = 35 := by
  simp only [letterB, blankB, Bool.and_eq_true, decide_eq_true_eq, Bool.or_eq_false_iff, beq_eq_false_iff_ne, ne_eq] at h ⊢
  omega

theorem wordL_letter {c : UInt8} {r : List UInt8} (h : wordL (c :: r) ≠ 0) : letterB c = true ∧ wordL (c :: r) ≤ 12 := by
  simp only [wordL] at h ⊢
  split at h
  · rename_i hl
    refine ⟨hl, ?_⟩
    simp only [hl, if_true]
    split <;> omega
  · simp at h

/-- A text that is one word. -/
theorem lex_word {L : List UInt8} (h0 : L ≠ []) (h : wordL L = L.length) : lexAll L = .good [⟨1, L, 0, 0⟩, ⟨4, [], 0, L.length⟩] := by
  cases L with
  | nil => simp at h0
  | cons c r =>
    have hne : wordL (c :: r) ≠ 0 := by rw [h]; simp
    obtain ⟨hl, h12⟩ := wordL_letter hne
    obtain ⟨hb, h35⟩ := letter_notblank hl
    have e0 : runL blankB (c :: r) = 0 := runL_no (by simp [hb])
    have et : tokAt (c :: r) = some (1, (c :: r).length, 0) := by rw [tokAt, if_pos hl, if_neg hne, h]
    rw [lexAll_eq (by omega), lexF, e0]
    simp only [List.drop_zero]
    rw [if_neg h35, et]
    simp only [List.drop_length, List.take_length]
    rw [show (c :: r).length = r.length + 1 from rfl, lexF]
    simp [runL, LexR.pre]

/-- If the first of two tokens is a word, and the whole text, then the text is that word. -/
theorem word_lex {L : List UInt8} {a b : Tok} (h : lexAll L = .good [a, b]) (hk : a.kind = 1) (ht : a.text = L) : L ≠ [] ∧ wordL L = L.length := by
  have hlen : L.length ≤ 6000 := by
    rcases Nat.lt_or_ge 6000 L.length with hlt | hge
    · rw [lexAll, if_pos hlt] at h; cases h
    · exact hge
  rw [lexAll_eq hlen] at h
  rcases lexF_toks _ _ _ _ h a (by simp) with he | ⟨j, size, n, hj, h3, h4⟩
  · rw [he] at hk; simp at hk
  · rw [hk] at h3
    obtain ⟨hs, hne⟩ := tokAt_word h3
    have htx : (L.drop j).take size = L := by rw [h4] at ht; exact ht
    have hle := wordL_le (L.drop j)
    have hl2 := congrArg List.length htx
    simp only [List.length_take, List.length_drop] at hl2 hle
    have hj0 : j = 0 := by omega
    subst hj0
    simp only [List.drop_zero] at hs hne hle
    refine ⟨?_, by omega⟩
    rintro rfl
    simp [wordL] at hne

end Go.Proofs.YtgkfmeccipgnjaaDoor
