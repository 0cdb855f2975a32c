/- Plain: what a numeral spells, and when Itoa of Atoi is the numeral itself; the lexer one byte at a time. No program in sight. -/
import Derived.Test.YtgkfmeccipgnjaaDoorLs
namespace Go.Proofs.YtgkfmeccipgnjaaDoor

def valD (l : List UInt8) : Nat := l.foldl (fun n c => 10 * n + (c.toNat - 48)) 0
theorem valD_snoc (l : List UInt8) (c : UInt8) : valD (l ++ [c]) = 10 * valD l + (c.toNat - 48) := by simp [valD]
def valFrom (a : Nat) (l : List UInt8) : Nat := l.foldl (fun n c => 10 * n + (c.toNat - 48)) a
theorem valFrom_ge (l : List UInt8) : ∀ a, a ≤ valFrom a l := by
  induction l with
  | nil => intro a; exact Nat.le_refl _
  | cons c l ih => intro a; have := ih (10 * a + (c.toNat - 48)); simp only [valFrom, List.foldl_cons] at this ⊢; omega
theorem valD_app (l m : List UInt8) : valD (l ++ m) = valFrom (valD l) m := by simp [valD, valFrom]
theorem valD_take_le (l : List UInt8) (k : Nat) : valD (l.take k) ≤ valD l := by
  conv => rhs; rw [← List.take_append_drop k l, valD_app]
  exact valFrom_ge _ _

/-- A numeral without idle noughts. -/
def canonB (l : List UInt8) : Bool := match l with
  | [] => false
  | c :: r => c != 48 || r.isEmpty

theorem parse_digits : ∀ (l : List UInt8) (a : Nat), (∀ c ∈ l, digitB c = true) → a < 18446744073709551616 →
    Lib.parseUint10 a l = if valFrom a l < 18446744073709551616 then .ok (valFrom a l) else .range := by
  intro l
  induction l with
  | nil => intro a _ ha; simp [Lib.parseUint10, valFrom, ha]
  | cons c r ih =>
    intro a hc ha
    have h1 : digitB c = true := hc c (by simp)
    simp only [digitB, Bool.and_eq_true, decide_eq_true_eq] at h1
    have hge := valFrom_ge r (10 * a + (c.toNat - 48))
    have hv : valFrom a (c :: r) = valFrom (10 * a + (c.toNat - 48)) r := rfl
    have hco : a * 10 + (c.toNat - 48) = 10 * a + (c.toNat - 48) := by omega
    rw [Lib.parseUint10, if_pos h1, hv, hco]
    split
    · rw [if_neg (by omega)]
    · split
      · rw [if_neg (by omega)]
      · exact ih _ (fun x hx => hc x (by simp [hx])) (by omega)

theorem atoi_digits {d : List UInt8} (hne : d ≠ []) (hd : ∀ c ∈ d, digitB c = true) :
    atoiV d = if valD d ≤ 9223372036854775807 then (valD d : Int) else 9223372036854775807 := by
  cases d with
  | nil => exact absurd rfl hne
  | cons c r =>
    have h1 : digitB c = true := hd c (by simp)
    simp only [digitB, Bool.and_eq_true, decide_eq_true_eq] at h1
    have hsat : Lib.atoiSat (c :: r) = 9223372036854775807 := by
      unfold Lib.atoiSat; rw [if_neg]; simp; omega
    have hall : Lib.atoiAll (c :: r) = if valD (c :: r) ≤ 9223372036854775807 then .ok (valD (c :: r) : Int) else .range := by
      unfold Lib.atoiAll
      simp only
      rw [if_neg (by omega), Lib.parseMag, if_neg (by simp), parse_digits _ _ hd (by omega)]
      have e : valFrom 0 (c :: r) = valD (c :: r) := rfl
      rw [e]
      have h45 : ¬ c.toNat = 45 := by omega
      by_cases hA : valD (c :: r) < 18446744073709551616
      · rw [if_pos hA]
        simp only [h45, not_false_eq_true, true_and, false_and, if_false]
        by_cases hB : valD (c :: r) ≤ 9223372036854775807
        · rw [if_neg (by omega), if_pos hB]
        · rw [if_pos (by omega), if_neg hB]
      · rw [if_neg hA, if_neg (by omega)]
    unfold atoiV
    rw [hall]
    split
    · rename_i v hv
      split at hv
      · rename_i hB; rw [if_pos hB]; injection hv with hv; exact hv.symm
      · cases hv
    · rename_i hv
      split at hv
      · cases hv
      · rename_i hB; rw [if_neg hB]; exact hsat
    · rename_i h2 h3
      exfalso
      by_cases hB : valD (c :: r) ≤ 9223372036854775807
      · exact h2 _ (if_pos hB)
      · exact h3 (if_neg hB)

theorem ofNat_digit {k : Nat} (h : k < 10) : (UInt8.ofNat (48 + k)).toNat = 48 + k := by
  rw [UInt8.toNat_ofNat']; omega
theorem valD_dec (u : Nat) : valD (Lib.decDigits u) = u := by
  induction u using Nat.strongRecOn with
  | _ u ih =>
    rw [Lib.decDigits]
    split
    · rename_i h; simp only [valD, List.foldl_cons, List.foldl_nil, ofNat_digit h]; omega
    · rename_i h
      rw [valD_snoc, ih _ (by omega), ofNat_digit (by omega)]; omega
theorem dec_head (u : Nat) : ∃ c r, Lib.decDigits u = c :: r ∧ (u ≠ 0 → c ≠ 48) ∧ (u = 0 → r = []) := by
  induction u using Nat.strongRecOn with
  | _ u ih =>
    rw [Lib.decDigits]
    split
    · rename_i h
      refine ⟨_, _, rfl, fun h0 e => ?_, fun _ => rfl⟩
      have := ofNat_digit h
      rw [e] at this
      simp at this; omega
    · rename_i h
      obtain ⟨c, r, h1, h2, _⟩ := ih (u / 10) (by omega)
      rw [h1]
      exact ⟨c, r ++ [UInt8.ofNat (48 + u % 10)], rfl, fun _ => h2 (by omega), fun h0 => by omega⟩
theorem dec_canon (u : Nat) : canonB (Lib.decDigits u) = true := by
  obtain ⟨c, r, h1, h2, h3⟩ := dec_head u
  rw [h1]
  by_cases h : u = 0
  · simp [canonB, h3 h]
  · simp [canonB, h2 h]
theorem dec_val (k : Nat) : ∀ (d : List UInt8), d.length = k → (∀ c ∈ d, digitB c = true) → canonB d = true → Lib.decDigits (valD d) = d ∧ (d.head? ≠ some 48 → valD d ≠ 0) := by
  induction k with
  | zero => intro d hk _ hc; cases d <;> simp [canonB] at *
  | succ k ih =>
    intro d hk hd hc
    obtain ⟨l, c, rfl⟩ : ∃ l c, d = l ++ [c] := ⟨d.dropLast, d.getLast (by intro e; rw [e] at hk; simp at hk), (List.dropLast_concat_getLast _).symm⟩
    have h1 : digitB c = true := hd c (by simp)
    simp only [digitB, Bool.and_eq_true, decide_eq_true_eq] at h1
    obtain ⟨j, hj⟩ : ∃ j, j = c.toNat - 48 := ⟨_, rfl⟩
    have hcj : UInt8.ofNat (48 + j) = c := by rw [show 48 + j = c.toNat by omega]; simp
    rw [valD_snoc, ← hj]
    cases l with
    | nil =>
      have : valD ([] : List UInt8) = 0 := rfl
      rw [this, Lib.decDigits, dif_pos (by omega)]
      simp only [Nat.mul_zero, Nat.zero_add, List.nil_append]
      refine ⟨by rw [hcj], fun h e => h ?_⟩
      have : c = 48 := by apply UInt8.toNat_inj.mp; simp; omega
      rw [this]; rfl
    | cons a r =>
      have ha : a ≠ 48 := by simpa [canonB] using hc
      obtain ⟨i1, i2⟩ := ih (a :: r) (by simpa using hk) (fun x hx => hd x (by simp at hx ⊢; rcases hx with h | h <;> simp [h])) (by simp [canonB, ha])
      have hv := i2 (by simp [ha])
      refine ⟨?_, fun _ => by omega⟩
      rw [Lib.decDigits, dif_neg (by omega)]
      rw [show (10 * valD (a :: r) + j) / 10 = valD (a :: r) by omega, show (10 * valD (a :: r) + j) % 10 = j by omega, i1, hcj]

theorem itoa_nat (u : Nat) : Lib.itoa (u : Int) = Lib.decDigits u := by
  unfold Lib.itoa; rw [if_neg (by omega)]; simp

/-- When a numeral is what its number prints as. -/
theorem num_law {d : List UInt8} (hne : d ≠ []) (hd : ∀ c ∈ d, digitB c = true) :
    (Lib.itoa (atoiV d) = d ↔ valD d ≤ 9223372036854775807 ∧ canonB d = true) ∧ (valD d ≤ 9223372036854775807 → atoiV d = valD d) := by
  rw [atoi_digits hne hd]
  by_cases hB : valD d ≤ 9223372036854775807
  · rw [if_pos hB, itoa_nat]
    refine ⟨⟨fun h => ⟨hB, by rw [← h]; exact dec_canon _⟩, fun ⟨_, h⟩ => (dec_val _ d rfl hd h).1⟩, fun _ => rfl⟩
  · rw [if_neg hB]
    refine ⟨⟨fun h => ?_, fun ⟨h, _⟩ => absurd h hB⟩, fun h => absurd h hB⟩
    exfalso
    apply hB
    have e : Lib.itoa (9223372036854775807 : Int) = Lib.decDigits 9223372036854775807 := itoa_nat 9223372036854775807
    rw [e] at h
    rw [← h, valD_dec]; omega

/-- The tokens of what is left, with fuel enough. -/
def lexG (l : List UInt8) (off : Nat) : LexR := lexF (l.length + 1) l off

theorem lexG_eq {f : Nat} {l : List UInt8} {off : Nat} (h : l.length < f) : lexF f l off = lexG l off := lexF_fuel f l off _ h (by omega)
theorem lexG_all {L : List UInt8} (h : L.length ≤ 6000) : lexAll L = lexG L 0 := lexAll_eq h
theorem lexG_nil (off : Nat) : lexG [] off = .good [⟨4, [], 0, off⟩] := by simp [lexG, lexF, runL]
theorem lexG_blank {c : UInt8} {r : List UInt8} {off : Nat} (h : blankB c = true) : lexG (c :: r) off = lexG r (off + 1) := by
  unfold lexG
  rw [lexF_fuel (r.length + 1) r (off + 1) ((c :: r).length + 1) (by omega) (by simp only [List.length_cons]; omega)]
  rw [lexF, lexF, runL_yes h]
  have e1 : off + (runL blankB r + 1) = off + 1 + runL blankB r := by omega
  rw [e1, List.drop_succ_cons]
theorem lexG_note {c : UInt8} {r : List UInt8} {off : Nat} (h : c.toNat = 35) : lexG (c :: r) off = lexG ((c :: r).drop (runL noteB (c :: r))) (off + runL noteB (c :: r)) := by
  have hb : ¬ blankB c = true := by simp [blankB, h]
  have h1 := note_run (r := r) h
  rw [lexG, lexF, runL_no hb]
  simp only [List.drop_zero, Nat.add_zero]
  rw [if_pos h]
  exact lexG_eq (by simp only [List.length_drop, List.length_cons]; omega)
theorem lexG_tok {c : UInt8} {r : List UInt8} {off : Nat} (h : ¬ c.toNat = 35) (hb : ¬ blankB c = true) : lexG (c :: r) off = match tokAt (c :: r) with
    | none => .bad off
    | some (k, size, n) => (lexG ((c :: r).drop size) (off + size)).pre [⟨k, (c :: r).take size, n, off⟩] := by
  rw [lexG, lexF, runL_no hb]
  simp only [List.drop_zero, Nat.add_zero]
  rw [if_neg h]
  cases ht : tokAt (c :: r) with
  | none => rfl
  | some q =>
    obtain ⟨k, size, n⟩ := q
    have := tokAt_size ht
    simp only
    rw [lexG_eq (by simp only [List.length_drop, List.length_cons]; omega)]

theorem runL_all {p : UInt8 → Bool} : ∀ (l : List UInt8), ∀ c ∈ l.take (runL p l), p c = true := by
  intro l
  induction l with
  | nil => intro c h; simp at h
  | cons a l ih =>
    intro c h
    by_cases hp : p a = true
    · rw [runL_yes hp, List.take_succ_cons] at h
      rcases List.mem_cons.mp h with rfl | h
      · exact hp
      · exact ih c h
    · rw [runL_no hp] at h; simp at h

end Go.Proofs.YtgkfmeccipgnjaaDoor
