/- Contract of the reference's one. -/
import Derived.Test.YtgkfmeccipgnjaaDoorLv
import Derived.Test.YtgkfmeccipgnjaaDoorLh
import Derived.Laws.ResultCell
namespace Go.Proofs.YtgkfmeccipgnjaaDoor
open Go.RowKit

def zeroTok : Array Value := #[.int .i64 0, .string ⟨#[]⟩, .int .i64 0, .int .i64 0]
/-- A token as the reference lays it. -/
def refCells (t : Tok) : List Value := [.int .i64 t.kind, .string ⟨t.text.toArray⟩, .int .i64 t.n, .int .i64 t.pos]
/-- What the reference finds at a byte. -/
def oneR (L : List UInt8) (i : Nat) : Array Value × Nat := match tokAt (L.drop i) with
  | none => (zeroTok, 0)
  | some (k, size, n) => ((refCells ⟨k, (L.drop i).take size, n, i⟩).toArray, size)

theorem info41 : (Tryd.prog.info? 41).map (·.size) = some 4 := by kernel_rfl
theorem ret48 (tmps : Array Value) (w : World) (cs : Array Value) (hcs : cs.size = 4) (n : Int) (h4 : tmps.getD 4 undef = .pointer (some ⟨w.heap.size, 0, none⟩)) (h5 : tmps.getD 5 undef = .int .i64 n) :
    (results Tryd.f48 tmps).run Tryd.prog (w.alloc (.cells cs 41)) = .ok (.tuple #[.agg cs, .int .i64 n]) (w.alloc (.cells cs 41)) := by
  rw [results_cell_tmp rfl, h4, h5]
  simp [asAddr, Result.andThen, run_loadVar_row (P := Tryd.prog) (w.alloc (.cells cs 41)) w.heap.size 41 41 cs (0, 0) _ (heap_alloc_new w _) Tryd.underlying41 rfl (by rw [hcs]; exact info41)]
theorem ret_tok {a b : Array Value} {m n : Int} (h : a = b) (h2 : m = n) : Ending.returned (.tuple #[.agg a, .int .i64 m]) = .returned (.tuple #[.agg b, .int .i64 n]) := by rw [h, h2]

theorem oneR_word {s : ByteArray} {i : Nat} (hi : i < s.size) (hl : letterB s[i] = true) : oneR s.data.toList i =
    if runL wordB (s.data.toList.drop i) ≤ 12 then (#[.int .i64 1, .string (s.extract i (i + runL wordB (s.data.toList.drop i))), .int .i64 0, .int .i64 i], runL wordB (s.data.toList.drop i)) else (zeroTok, 0) := by
  have hd : s.data.toList.drop i = s[i] :: s.data.toList.drop (i + 1) := List.drop_eq_getElem_cons (by simpa using hi)
  have hp : 0 < runL wordB (s.data.toList.drop i) := by rw [hd]; exact runL_pos (by simp [wordB, hl])
  have hw : wordL (s.data.toList.drop i) = if runL wordB (s.data.toList.drop i) ≤ 12 then runL wordB (s.data.toList.drop i) else 0 := by
    rw [hd]; simp [wordL, hl]
  have ht : tokAt (s.data.toList.drop i) = if wordL (s.data.toList.drop i) = 0 then none else some (1, wordL (s.data.toList.drop i), 0) := by
    rw [hd]; simp only [tokAt, hl, if_true]
  unfold oneR
  rw [ht, hw]
  by_cases h12 : runL wordB (s.data.toList.drop i) ≤ 12
  · rw [if_pos h12, if_pos h12, if_neg (by omega)]
    simp only [refCells]
    rw [← bytes_of_list (extract_mid s i (runL wordB (s.data.toList.drop i)))]; rfl
  · rw [if_neg h12, if_neg h12]; rfl

theorem runL_here {p : UInt8 → Bool} {s : ByteArray} {k : Nat} (hk : k ≤ s.size) (h : 0 < runL p (s.data.toList.drop k)) : ∃ h : k < s.size, p s[k] = true := by
  have hlt : k < s.size := by
    apply Decidable.byContradiction; intro hn
    rw [List.drop_eq_nil_of_le (by rw [← size_length]; omega)] at h
    simp [runL] at h
  refine ⟨hlt, ?_⟩
  apply Decidable.byContradiction; intro hp
  rw [runL_stop p s.data.toList k (by simpa using hlt) (by rw [getL s k hlt]; simpa using hp)] at h
  omega

set_option maxRecDepth 100000 in
set_option maxHeartbeats 2000000 in
theorem one_word (s : ByteArray) (i : Nat) (hs : s.size ≤ 6000) (hi : i < s.size) (hl : letterB s[i] = true) (w : World) :
    Calls Tryd.prog 48 #[.string s, .int .i64 i] w fun e w' => e = .returned (.tuple #[.agg (oneR s.data.toList i).1, .int .i64 (oneR s.data.toList i).2]) ∧ Below w.heap.size w w' := by
  have HO := Lib.hid (oneR_word hi hl)
  have hrp : runL wordB (s.data.toList.drop i) = runL wordB (s.data.toList.drop (i + 1)) + 1 := runL_go wordB s.data.toList i (by simpa using hi) (by rw [getL s i hi]; simp [wordB, hl])
  obtain ⟨m, hm⟩ : ∃ m, m = runL wordB (s.data.toList.drop i) := ⟨_, rfl⟩
  rw [← hm] at HO hrp
  have hle := runL_drop_le wordB s.data.toList i (by rw [← size_length]; omega)
  rw [← size_length, ← hm] at hle
  have HM := Lib.hid (show m = 1 + runL wordB (s.data.toList.drop (i + 1)) by omega)
  clear hm hrp
  go_enter Tryd.func48, Tryd.ntmps48
  go_wp2_with (first | (go_at_call 65; refine (letter_ref _ _).mono ?_; rintro e w' ⟨rfl, rfl⟩))
  go_loop [7] (fun j => ∃ k : Nat, 1 ≤ k ∧ k ≤ m ∧ j = .int .i64 (i + k : Nat) ∧ Hid (m = k + runL wordB (s.data.toList.drop (i + k)))) (fun j => s.size - (intOf j).toNat)
  case atStart => exact ⟨1, by omega, by have := HM.out; omega, by go_num, HM⟩
  case round =>
    obtain ⟨k, hk1, hk2, rfl, HK⟩ := hrel
    obtain ⟨p, hp⟩ : ∃ p : Nat, p = i + k := ⟨_, rfl⟩
    have hpi : (p : Int) - (i : Int) = (k : Int) := by omega
    have hpl : p ≤ s.size := by omega
    have HP := Lib.hid hp
    rw [← hp] at HK ⊢
    by_cases hlt : k < m
    · obtain ⟨hps, hpw⟩ := runL_here hpl (show 0 < runL wordB (s.data.toList.drop p) by have := HK.out; omega)
      have HK2 := Lib.hid (show m = k + 1 + runL wordB (s.data.toList.drop (i + (k + 1))) by
        have := HK.out; rw [runL_go wordB s.data.toList p (by simpa using hps) (by rw [getL s p hps]; exact hpw)] at this
        rw [show i + (k + 1) = p + 1 by omega]; omega)
      have HPW := Lib.hid hpw
      clear hp hpw
      by_cases hl1 : letterB s[p] = true
      · go_wp2_with (first | (go_at_call 65; refine (letter_ref _ _).mono ?_; rintro e w' ⟨rfl, rfl⟩) | (go_at_call 66; refine (digit_ref _ _).mono ?_; rintro e w' ⟨rfl, rfl⟩))
        go_round
        case rel => exact ⟨k + 1, by omega, by omega, by have := HP.out; go_num, HK2⟩
        case measure => simp [intOf]; omega
      · have hl2 : letterB s[p] = false := by simpa using hl1
        have hd2 : digitB s[p] = true := by have := HPW.out; simpa [wordB, hl2] using this
        clear hl1
        go_wp2_with (first | (go_at_call 65; refine (letter_ref _ _).mono ?_; rintro e w' ⟨rfl, rfl⟩) | (go_at_call 66; refine (digit_ref _ _).mono ?_; rintro e w' ⟨rfl, rfl⟩))
        go_round
        case rel => exact ⟨k + 1, by omega, by omega, by have := HP.out; go_num, HK2⟩
        case measure => simp [intOf]; omega
    · have hkm : k = m := by omega
      subst hkm
      have hstop : Hid (runL wordB (s.data.toList.drop p) = 0) := by have := HK.out; unfold Hid; omega
      clear hp
      have hcase : s.size = p ∨ ∃ h : p < s.size, letterB s[p] = false ∧ digitB s[p] = false := by
        rcases Nat.lt_or_ge p s.size with h | h
        · right
          refine ⟨h, ?_⟩
          have h2 := hstop.out
          cases hw : wordB s[p] with
          | true => rw [runL_go wordB s.data.toList p (by simpa using h) (by rw [getL s p h]; exact hw)] at h2; omega
          | false => simpa [wordB] using hw
        · left; omega
      have hi2 : (i : Int) ≤ (p : Int) := by omega
      by_cases h12 : k ≤ 12
      · rcases hcase with he | ⟨h, hl1, hd1⟩
        · go_wp2
          ((try simp only [Exit.inBlock, Exit.then]); refine bodyPost_ret (ret48 _ _ _ rfl _ rfl rfl) rfl ?_)
          exact ⟨ret_tok (by rw [HO.out, if_pos h12, HP.out]) (by rw [HO.out, if_pos h12]), (Below.refl _ _).alloc (Nat.le_refl _) _⟩
        · go_wp2_with (first | (go_at_call 65; refine (letter_ref _ _).mono ?_; rintro e w' ⟨rfl, rfl⟩) | (go_at_call 66; refine (digit_ref _ _).mono ?_; rintro e w' ⟨rfl, rfl⟩))
          ((try simp only [Exit.inBlock, Exit.then]); refine bodyPost_ret (ret48 _ _ _ rfl _ rfl rfl) rfl ?_)
          exact ⟨ret_tok (by rw [HO.out, if_pos h12, HP.out]) (by rw [HO.out, if_pos h12]), (Below.refl _ _).alloc (Nat.le_refl _) _⟩
      · rcases hcase with he | ⟨h, hl1, hd1⟩
        · go_wp2
          ((try simp only [Exit.inBlock, Exit.then]); refine bodyPost_ret (ret48 _ _ _ rfl _ rfl rfl) rfl ?_)
          exact ⟨ret_tok (by rw [HO.out, if_neg h12]; rfl) (by rw [HO.out, if_neg h12]; rfl), (Below.refl _ _).alloc (Nat.le_refl _) _⟩
        · go_wp2_with (first | (go_at_call 65; refine (letter_ref _ _).mono ?_; rintro e w' ⟨rfl, rfl⟩) | (go_at_call 66; refine (digit_ref _ _).mono ?_; rintro e w' ⟨rfl, rfl⟩))
          ((try simp only [Exit.inBlock, Exit.then]); refine bodyPost_ret (ret48 _ _ _ rfl _ rfl rfl) rfl ?_)
          exact ⟨ret_tok (by rw [HO.out, if_neg h12]; rfl) (by rw [HO.out, if_neg h12]; rfl), (Below.refl _ _).alloc (Nat.le_refl _) _⟩

theorem digits_all (l : List UInt8) : ∀ c ∈ l.take (runL digitB l), digitB c = true := runL_all l
theorem oneR_num {s : ByteArray} {i m : Nat} (hi : i < s.size) (hl : letterB s[i] = false) (hd : digitB s[i] = true) (hm : m = runL digitB (s.data.toList.drop i)) : oneR s.data.toList i =
    if (numR (s.extract i (i + m)).data.toList).2 = true then (#[.int .i64 2, .string (s.extract i (i + m)), .int .i64 (numR (s.extract i (i + m)).data.toList).1, .int .i64 i], m) else (zeroTok, 0) := by
  have hdr : s.data.toList.drop i = s[i] :: s.data.toList.drop (i + 1) := List.drop_eq_getElem_cons (by simpa using hi)
  have hp : 0 < m := by rw [hm, hdr]; exact runL_pos hd
  have hdL : (s.extract i (i + m)).data.toList = (s.data.toList.drop i).take m := extract_mid s i m
  have hne : (s.data.toList.drop i).take m ≠ [] := by rw [hdr]; cases m with
    | zero => omega
    | succ m => simp
  have hall : ∀ c ∈ (s.data.toList.drop i).take m, digitB c = true := by rw [hm]; exact digits_all _
  have ht : tokAt (s.data.toList.drop i) = if Lib.itoa (atoiV ((s.data.toList.drop i).take m)) = (s.data.toList.drop i).take m then some (2, m, atoiV ((s.data.toList.drop i).take m)) else none := by
    rw [hm, hdr]; simp only [tokAt, hl, hd, if_true, Bool.false_eq_true, if_false]
  obtain ⟨n1, n2⟩ := num_law hne hall
  rw [hdL]
  unfold oneR
  rw [ht]
  by_cases hB : valD ((s.data.toList.drop i).take m) ≤ 9223372036854775807
  · rw [numR_yes hB]
    by_cases hc : canonB ((s.data.toList.drop i).take m) = true
    · rw [if_pos (n1.mpr ⟨hB, hc⟩), if_pos hc]
      simp only [refCells]
      rw [← bytes_of_list hdL, n2 hB]; rfl
    · rw [if_neg (fun h => hc (n1.mp h).2), if_neg hc]
  · rw [numR_no (by omega), if_neg (fun h => hB (n1.mp h).1), if_neg (by simp)]

set_option maxRecDepth 100000 in
set_option maxHeartbeats 2000000 in
theorem one_num (s : ByteArray) (i : Nat) (hs : s.size ≤ 6000) (hi : i < s.size) (hl : letterB s[i] = false) (hd : digitB s[i] = true) (w : World) :
    Calls Tryd.prog 48 #[.string s, .int .i64 i] w fun e w' => e = .returned (.tuple #[.agg (oneR s.data.toList i).1, .int .i64 (oneR s.data.toList i).2]) ∧ Below w.heap.size w w' := by
  obtain ⟨m, hm⟩ : ∃ m, m = runL digitB (s.data.toList.drop i) := ⟨_, rfl⟩
  have HO := Lib.hid (oneR_num hi hl hd hm)
  have hrp : runL digitB (s.data.toList.drop i) = runL digitB (s.data.toList.drop (i + 1)) + 1 := runL_go digitB s.data.toList i (by simpa using hi) (by rw [getL s i hi]; exact hd)
  rw [← hm] at hrp
  have hle := runL_drop_le digitB s.data.toList i (by rw [← size_length]; omega)
  rw [← size_length, ← hm] at hle
  have HM := Lib.hid (show m = 1 + runL digitB (s.data.toList.drop (i + 1)) by omega)
  have hall : ∀ c ∈ (s.extract i (i + m)).data.toList, digitB c = true := by rw [extract_mid, hm]; exact digits_all _
  have hes : (s.extract i (i + m)).size ≤ 6000 := by simp; omega
  have C67 := Lib.hid (fun W => number_ref (s.extract i (i + m)) hes hall W)
  clear hm hrp hall hes
  go_enter Tryd.func48, Tryd.ntmps48
  go_wp2_with (first | (go_at_call 65; refine (letter_ref _ _).mono ?_; rintro e w' ⟨rfl, rfl⟩) | (go_at_call 66; refine (digit_ref _ _).mono ?_; rintro e w' ⟨rfl, rfl⟩))
  go_loop [7] (fun j => ∃ k : Nat, 1 ≤ k ∧ k ≤ m ∧ j = .int .i64 (i + k : Nat) ∧ Hid (m = k + runL digitB (s.data.toList.drop (i + k)))) (fun j => s.size - (intOf j).toNat)
  case atStart => exact ⟨1, by omega, by have := HM.out; omega, by go_num, HM⟩
  case round =>
    obtain ⟨k, hk1, hk2, rfl, HK⟩ := hrel
    obtain ⟨p, hp⟩ : ∃ p : Nat, p = i + k := ⟨_, rfl⟩
    have hpi : (p : Int) - (i : Int) = (k : Int) := by omega
    have hpl : p ≤ s.size := by omega
    have HP := Lib.hid hp
    rw [← hp] at HK ⊢
    by_cases hlt : k < m
    · obtain ⟨hps, hpw⟩ := runL_here hpl (show 0 < runL digitB (s.data.toList.drop p) by have := HK.out; omega)
      have HK2 := Lib.hid (show m = k + 1 + runL digitB (s.data.toList.drop (i + (k + 1))) by
        have := HK.out; rw [runL_go digitB s.data.toList p (by simpa using hps) (by rw [getL s p hps]; exact hpw)] at this
        rw [show i + (k + 1) = p + 1 by omega]; omega)
      clear hp
      go_wp2_with (first | (go_at_call 66; refine (digit_ref _ _).mono ?_; rintro e w' ⟨rfl, rfl⟩))
      go_round
      case rel => exact ⟨k + 1, by omega, by omega, by have := HP.out; go_num, HK2⟩
      case measure => simp [intOf]; omega
    · have hkm : k = m := by omega
      subst hkm
      have hstop : Hid (runL digitB (s.data.toList.drop p) = 0) := by have := HK.out; unfold Hid; omega
      rw [← hp] at HO C67
      clear hp
      have hcase : s.size = p ∨ ∃ h : p < s.size, digitB s[p] = false := by
        rcases Nat.lt_or_ge p s.size with h | h
        · right
          refine ⟨h, ?_⟩
          have h2 := hstop.out
          cases hw : digitB s[p] with
          | true => rw [runL_go digitB s.data.toList p (by simpa using h) (by rw [getL s p h]; exact hw)] at h2; omega
          | false => rfl
        · left; omega
      have hi2 : (i : Int) ≤ (p : Int) := by omega
      obtain ⟨n, hn⟩ : ∃ n, n = numR (s.extract i p).data.toList := ⟨_, rfl⟩
      rw [← hn] at HO C67
      clear hn
      obtain ⟨n, ok⟩ := n
      cases ok with
      | true =>
        rcases hcase with he | ⟨h, hd1⟩
        · go_wp2_with (first | (go_at_call 67; refine (C67.out _).mono ?_; rintro e w' ⟨rfl, rfl⟩))
          ((try simp only [Exit.inBlock, Exit.then]); refine bodyPost_ret (ret48 _ _ _ rfl _ rfl rfl) rfl ?_)
          exact ⟨ret_tok (by rw [HO.out]; rfl) (by rw [HO.out]; rfl), (Below.refl _ _).alloc (Nat.le_refl _) _⟩
        · go_wp2_with (first | (go_at_call 66; refine (digit_ref _ _).mono ?_; rintro e w' ⟨rfl, rfl⟩) | (go_at_call 67; refine (C67.out _).mono ?_; rintro e w' ⟨rfl, rfl⟩))
          ((try simp only [Exit.inBlock, Exit.then]); refine bodyPost_ret (ret48 _ _ _ rfl _ rfl rfl) rfl ?_)
          exact ⟨ret_tok (by rw [HO.out]; rfl) (by rw [HO.out]; rfl), (Below.refl _ _).alloc (Nat.le_refl _) _⟩
      | false =>
        rcases hcase with he | ⟨h, hd1⟩
        · go_wp2_with (first | (go_at_call 67; refine (C67.out _).mono ?_; rintro e w' ⟨rfl, rfl⟩))
          ((try simp only [Exit.inBlock, Exit.then]); refine bodyPost_ret (ret48 _ _ _ rfl _ rfl rfl) rfl ?_)
          exact ⟨ret_tok (by rw [HO.out]; rfl) (by rw [HO.out]; rfl), (Below.refl _ _).alloc (Nat.le_refl _) _⟩
        · go_wp2_with (first | (go_at_call 66; refine (digit_ref _ _).mono ?_; rintro e w' ⟨rfl, rfl⟩) | (go_at_call 67; refine (C67.out _).mono ?_; rintro e w' ⟨rfl, rfl⟩))
          ((try simp only [Exit.inBlock, Exit.then]); refine bodyPost_ret (ret48 _ _ _ rfl _ rfl rfl) rfl ?_)
          exact ⟨ret_tok (by rw [HO.out]; rfl) (by rw [HO.out]; rfl), (Below.refl _ _).alloc (Nat.le_refl _) _⟩

theorem oneR_sign {s : ByteArray} {i : Nat} (hi : i < s.size) (hl : letterB s[i] = false) (hd : digitB s[i] = false) : oneR s.data.toList i =
    if s[i] ∈ signsL then (#[.int .i64 3, .string (s.extract i (i + signSize (s.data.toList.drop i))), .int .i64 0, .int .i64 i], signSize (s.data.toList.drop i)) else (zeroTok, 0) := by
  have hdr : s.data.toList.drop i = s[i] :: s.data.toList.drop (i + 1) := List.drop_eq_getElem_cons (by simpa using hi)
  have ht : tokAt (s.data.toList.drop i) = if s[i] ∈ signsL then some (3, signSize (s.data.toList.drop i), 0) else none := by
    rw [hdr]; simp only [tokAt, hl, hd, Bool.false_eq_true, if_false]
  unfold oneR
  rw [ht]
  by_cases hs : s[i] ∈ signsL
  · rw [if_pos hs, if_pos hs]
    simp only [refCells]
    rw [← bytes_of_list (extract_mid s i _)]; rfl
  · rw [if_neg hs, if_neg hs]
theorem sign_two {s : ByteArray} {i : Nat} (hi : i < s.size) (h1 : s[i].toNat = 61) (hi2 : i + 1 < s.size) (h2 : s[i + 1].toNat = 61) : signSize (s.data.toList.drop i) = 2 ∧ s[i] ∈ signsL ∧ s.extract i (i + 2) = ⟨#[61, 61]⟩ := by
  have hdr : s.data.toList.drop i = s[i] :: s.data.toList.drop (i + 1) := List.drop_eq_getElem_cons (by simpa using hi)
  have hdr2 : s.data.toList.drop (i + 1) = s[i + 1] :: s.data.toList.drop (i + 1 + 1) := List.drop_eq_getElem_cons (by simpa using hi2)
  have e1 : s[i] = 61 := by apply UInt8.toNat_inj.mp; simpa using h1
  have e2 : s[i + 1] = 61 := by apply UInt8.toNat_inj.mp; simpa using h2
  rw [hdr2, e2] at hdr
  rw [e1] at hdr
  refine ⟨by rw [hdr]; simp [signSize, List.isPrefixOf], by rw [e1]; decide, ?_⟩
  have := bytes_of_list (extract_mid s i 2)
  rw [this, hdr]; rfl
theorem sign_one {s : ByteArray} {i : Nat} (hi : i < s.size) (h : ¬ (s[i].toNat = 61 ∧ ∃ h2 : i + 1 < s.size, s[i + 1].toNat = 61)) : signSize (s.data.toList.drop i) = 1 := by
  have hdr : s.data.toList.drop i = s[i] :: s.data.toList.drop (i + 1) := List.drop_eq_getElem_cons (by simpa using hi)
  unfold signSize
  rw [if_neg]
  intro hp
  apply h
  rw [hdr] at hp
  rcases Nat.lt_or_ge (i + 1) s.size with h2 | h2
  · have hdr2 : s.data.toList.drop (i + 1) = s[i + 1] :: s.data.toList.drop (i + 1 + 1) := List.drop_eq_getElem_cons (by simpa using h2)
    rw [hdr2] at hp
    simp only [List.isPrefixOf, Bool.and_eq_true, beq_iff_eq] at hp
    refine ⟨by rw [← hp.1]; rfl, h2, by rw [← hp.2.1]; rfl⟩
  · rw [List.drop_eq_nil_of_le (by rw [← size_length]; omega)] at hp
    simp [List.isPrefixOf] at hp

set_option maxRecDepth 100000 in
set_option maxHeartbeats 2000000 in
theorem one_two (s : ByteArray) (i : Nat) (hs : s.size ≤ 6000) (hi : i < s.size) (hl : letterB s[i] = false) (hd : digitB s[i] = false) (h1 : s[i].toNat = 61) (hi2 : i + 1 < s.size) (h2 : s[i + 1].toNat = 61) (w : World) :
    Calls Tryd.prog 48 #[.string s, .int .i64 i] w fun e w' => e = .returned (.tuple #[.agg (oneR s.data.toList i).1, .int .i64 (oneR s.data.toList i).2]) ∧ Below w.heap.size w w' := by
  have HO := Lib.hid (oneR_sign hi hl hd)
  obtain ⟨t1, t2, t3⟩ := sign_two hi h1 hi2 h2
  rw [if_pos t2, t1, t3] at HO
  clear t1 t2 t3
  have g1 : ((s[i].toNat : Int) == 61) = true := by simp [h1]
  have g2 : ((s[i + 1].toNat : Int) == 61) = true := by simp [h2]
  have hp : (i : Int) + 1 = ((i + 1 : Nat) : Int) := by simp
  generalize i + 1 = p at *
  clear h1 h2
  go_enter Tryd.func48, Tryd.ntmps48
  go_wp2_with (first | (go_at_call 65; refine (letter_ref _ _).mono ?_; rintro e w' ⟨rfl, rfl⟩) | (go_at_call 66; refine (digit_ref _ _).mono ?_; rintro e w' ⟨rfl, rfl⟩))
  ((try simp only [Exit.inBlock, Exit.then]); refine bodyPost_ret (ret48 _ _ _ rfl _ rfl rfl) rfl ?_)
  exact ⟨ret_tok (by rw [HO.out]) (by rw [HO.out]; rfl), (Below.refl _ _).alloc (Nat.le_refl _) _⟩

theorem signs_at (j : Nat) (hj : j < 11) : ∃ c : UInt8, signsL[j]? = some c ∧ ∀ Z : World, (Instr.index 9 (.string ⟨#[61, 60, 43, 45, 42, 47, 37, 40, 41, 123, 125]⟩) (.int .i64 (j : Int))).run Tryd.prog Z = .ok (.int .u8 c.toNat) Z := by
  match j, hj with
  | 0, _ => exact ⟨_, rfl, fun Z => by kernel_rfl⟩
  | 1, _ => exact ⟨_, rfl, fun Z => by kernel_rfl⟩
  | 2, _ => exact ⟨_, rfl, fun Z => by kernel_rfl⟩
  | 3, _ => exact ⟨_, rfl, fun Z => by kernel_rfl⟩
  | 4, _ => exact ⟨_, rfl, fun Z => by kernel_rfl⟩
  | 5, _ => exact ⟨_, rfl, fun Z => by kernel_rfl⟩
  | 6, _ => exact ⟨_, rfl, fun Z => by kernel_rfl⟩
  | 7, _ => exact ⟨_, rfl, fun Z => by kernel_rfl⟩
  | 8, _ => exact ⟨_, rfl, fun Z => by kernel_rfl⟩
  | 9, _ => exact ⟨_, rfl, fun Z => by kernel_rfl⟩
  | 10, _ => exact ⟨_, rfl, fun Z => by kernel_rfl⟩

theorem mem_take_snoc {l : List UInt8} {j : Nat} {x c : UInt8} (h : l[j]? = some c) (h1 : x ∉ l.take j) (h2 : x ≠ c) : x ∉ l.take (j + 1) := by
  obtain ⟨hj, rfl⟩ := List.getElem?_eq_some_iff.mp h
  rw [List.take_succ_eq_append_getElem hj]
  simp only [List.mem_append, List.mem_singleton, not_or]
  exact ⟨h1, h2⟩

set_option maxRecDepth 100000 in
set_option maxHeartbeats 2000000 in
theorem one_one (s : ByteArray) (i : Nat) (hs : s.size ≤ 6000) (hi : i < s.size) (hl : letterB s[i] = false) (hd : digitB s[i] = false) (hno : ¬ (s[i].toNat = 61 ∧ ∃ h2 : i + 1 < s.size, s[i + 1].toNat = 61)) (w : World) :
    Calls Tryd.prog 48 #[.string s, .int .i64 i] w fun e w' => e = .returned (.tuple #[.agg (oneR s.data.toList i).1, .int .i64 (oneR s.data.toList i).2]) ∧ Below w.heap.size w w' := by
  have HO := Lib.hid (oneR_sign hi hl hd)
  have t1 := sign_one hi hno
  rw [t1] at HO
  clear t1
  have hp : (i : Int) + 1 = ((i + 1 : Nat) : Int) := by simp
  have hq : ((s[i].toNat : Int) == 61) = false ∨ (((s[i].toNat : Int) == 61) = true ∧ (i + 1 = s.size ∨ ∃ h2 : i + 1 < s.size, ((s[i + 1].toNat : Int) == 61) = false)) := by
    by_cases h61 : s[i].toNat = 61
    · right
      refine ⟨by simp [h61], ?_⟩
      rcases Nat.lt_or_ge (i + 1) s.size with h | h
      · right
        refine ⟨h, ?_⟩
        simp only [beq_eq_false_iff_ne]
        intro e
        exact hno ⟨h61, h, by omega⟩
      · left; omega
    · left
      simp only [beq_eq_false_iff_ne]; omega
  have hip : (i : Int) ≤ ((i + 1 : Nat) : Int) := by omega
  have hps : i + 1 ≤ s.size := by omega
  generalize i + 1 = p at *
  obtain ⟨c, hc⟩ : ∃ c, c = s[i] := ⟨_, rfl⟩
  have Hc := Lib.hid hc
  clear hno hc
  go_enter Tryd.func48, Tryd.ntmps48
  rcases hq with q1 | ⟨q1, q2 | ⟨q2, q3⟩⟩ <;> go_wp2_with (first | (go_at_call 65; refine (letter_ref _ _).mono ?_; rintro e w' ⟨rfl, rfl⟩) | (go_at_call 66; refine (digit_ref _ _).mono ?_; rintro e w' ⟨rfl, rfl⟩))
  all_goals
    go_loop [10] (fun jv => ∃ j : Nat, j ≤ 11 ∧ jv = .int .i64 j ∧ Hid (c ∉ signsL.take j)) (fun jv => 11 - (intOf jv).toNat)
    case atStart => exact ⟨0, Nat.zero_le _, rfl, by unfold Hid; simp⟩
    case round =>
      obtain ⟨j, hj, rfl, HJ⟩ := hrel
      by_cases hlt : j < 11
      · obtain ⟨x, hx, hix⟩ := signs_at j hlt
        have HX := Lib.hid hx
        clear hx
        by_cases hxc : x = s[i]
        · have g : ((x.toNat : Int) == (s[i].toNat : Int)) = true := by simp [hxc]
          have HM := Lib.hid (show s[i] ∈ signsL by rw [← hxc]; exact List.mem_of_getElem? HX.out)
          clear hxc
          go_wp2
          ((try simp only [Exit.inBlock, Exit.then]); refine bodyPost_ret (ret48 _ _ _ rfl _ rfl rfl) rfl ?_)
          exact ⟨ret_tok (by rw [HO.out, if_pos HM.out]; try rw [q2]) (by rw [HO.out, if_pos HM.out]; rfl), (Below.refl _ _).alloc (Nat.le_refl _) _⟩
        · have g : ((x.toNat : Int) == (s[i].toNat : Int)) = false := by
            simp only [beq_eq_false_iff_ne]; intro e
            exact hxc (UInt8.toNat_inj.mp (by omega))
          have HX2 := Lib.hid hxc
          clear hxc
          go_wp2
          go_round
          case rel => exact ⟨j + 1, by omega, by go_num, mem_take_snoc HX.out HJ.out (by rw [Hc.out]; exact fun e => HX2.out e.symm)⟩
          case measure => simp [intOf]; omega
      · have hz : Hid (j = 11) := by unfold Hid; omega
        go_wp2
        ((try simp only [Exit.inBlock, Exit.then]); refine bodyPost_ret (ret48 _ _ _ rfl _ rfl rfl) rfl ?_)
        have hn : s[i] ∉ signsL := by have := HJ.out; rw [hz.out, Hc.out] at this; exact this
        exact ⟨ret_tok (by rw [HO.out, if_neg hn]; rfl) (by rw [HO.out, if_neg hn]; rfl), (Below.refl _ _).alloc (Nat.le_refl _) _⟩

/-- sutureref1.one at every byte. -/
theorem one_ref (s : ByteArray) (i : Nat) (hs : s.size ≤ 6000) (hi : i < s.size) (w : World) :
    Calls Tryd.prog 48 #[.string s, .int .i64 i] w fun e w' => e = .returned (.tuple #[.agg (oneR s.data.toList i).1, .int .i64 (oneR s.data.toList i).2]) ∧ Below w.heap.size w w' := by
  cases hl : letterB s[i] with
  | true => exact one_word s i hs hi hl w
  | false =>
    cases hd : digitB s[i] with
    | true => exact one_num s i hs hi hl hd w
    | false =>
      by_cases h : s[i].toNat = 61 ∧ ∃ h2 : i + 1 < s.size, s[i + 1].toNat = 61
      · obtain ⟨h1, h2, h3⟩ := h
        exact one_two s i hs hi hl hd h1 h2 h3 w
      · exact one_one s i hs hi hl hd h w
end Go.Proofs.YtgkfmeccipgnjaaDoor
