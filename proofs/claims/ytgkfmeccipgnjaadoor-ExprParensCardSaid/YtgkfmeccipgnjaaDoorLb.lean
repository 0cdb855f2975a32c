/- Contracts of lex.run at each of its four functions, of lex.word. -/
import Derived.Test.YtgkfmeccipgnjaaDoorLa
namespace Go.Proofs.YtgkfmeccipgnjaaDoor
open Go.RowKit

theorem getL (s : ByteArray) (k : Nat) (h : k < s.size) : s.data.toList[k]'(by simpa using h) = s[k] := rfl

set_option maxHeartbeats 400000 in
theorem run_blank (s : ByteArray) (hs : s.size ≤ maxLen) (w : World) :
    Calls Tryd.prog 35 #[.string s, .func (.func 36) #[] #[]] w fun e w' => e = .returned (.int .i64 (runL blankB s.data.toList)) ∧ w = w' := by
  unfold maxLen at hs
  go_enter Tryd.func35, Tryd.ntmps35
  go_wp2
  go_loop [5] (fun i => ∃ k : Nat, k ≤ s.size ∧ i = .int .i64 k ∧ Hid (runL blankB s.data.toList = k + runL blankB (s.data.toList.drop k))) (fun i => s.size - (intOf i).toNat)
  case atStart => exact ⟨0, Nat.zero_le _, rfl, by unfold Hid; simp⟩
  case round =>
    obtain ⟨k, hk, rfl, hr⟩ := hrel
    by_cases hlt : k < s.size
    · by_cases hp : blankB s[k] = true
      · go_wp2_with (go_at_call 36; refine (blank_any _ _).mono ?_; rintro e w' ⟨rfl, rfl⟩)
        go_round
        case rel => exact ⟨k + 1, by omega, by go_num, by unfold Hid at hr ⊢; rw [hr, runL_go blankB s.data.toList k (by simpa using hlt) hp]; omega⟩
        case measure => simp [intOf]; omega
      · have hp' : blankB s[k] = false := by simpa using hp
        clear hp
        go_wp2_with (go_at_call 36; refine (blank_any _ _).mono ?_; rintro e w' ⟨rfl, rfl⟩)
        go_ret
        exact ⟨ret_int (by rw [hr.out, runL_stop blankB s.data.toList k (by simpa using hlt) hp']; simp), rfl⟩
    · have hz : Hid (k = s.size) := by unfold Hid; omega
      go_wp2
      go_ret
      exact ⟨ret_int (by rw [hr.out, hz.out, List.drop_eq_nil_of_le (by simp)]; simp [runL]), rfl⟩

set_option maxHeartbeats 400000 in
theorem run_note (s : ByteArray) (hs : s.size ≤ maxLen) (w : World) :
    Calls Tryd.prog 35 #[.string s, .func (.func 41) #[] #[]] w fun e w' => e = .returned (.int .i64 (runL noteB s.data.toList)) ∧ w = w' := by
  unfold maxLen at hs
  go_enter Tryd.func35, Tryd.ntmps35
  go_wp2
  go_loop [5] (fun i => ∃ k : Nat, k ≤ s.size ∧ i = .int .i64 k ∧ Hid (runL noteB s.data.toList = k + runL noteB (s.data.toList.drop k))) (fun i => s.size - (intOf i).toNat)
  case atStart => exact ⟨0, Nat.zero_le _, rfl, by unfold Hid; simp⟩
  case round =>
    obtain ⟨k, hk, rfl, hr⟩ := hrel
    by_cases hlt : k < s.size
    · by_cases hp : noteB s[k] = true
      · go_wp2_with (go_at_call 41; refine (note_any _ _).mono ?_; rintro e w' ⟨rfl, rfl⟩)
        go_round
        case rel => exact ⟨k + 1, by omega, by go_num, by unfold Hid at hr ⊢; rw [hr, runL_go noteB s.data.toList k (by simpa using hlt) hp]; omega⟩
        case measure => simp [intOf]; omega
      · have hp' : noteB s[k] = false := by simpa using hp
        clear hp
        go_wp2_with (go_at_call 41; refine (note_any _ _).mono ?_; rintro e w' ⟨rfl, rfl⟩)
        go_ret
        exact ⟨ret_int (by rw [hr.out, runL_stop noteB s.data.toList k (by simpa using hlt) hp']; simp), rfl⟩
    · have hz : Hid (k = s.size) := by unfold Hid; omega
      go_wp2
      go_ret
      exact ⟨ret_int (by rw [hr.out, hz.out, List.drop_eq_nil_of_le (by simp)]; simp [runL]), rfl⟩

set_option maxHeartbeats 400000 in
theorem run_digit (s : ByteArray) (hs : s.size ≤ maxLen) (w : World) :
    Calls Tryd.prog 35 #[.string s, .func (.func 38) #[] #[]] w fun e w' => e = .returned (.int .i64 (runL digitB s.data.toList)) ∧ w = w' := by
  unfold maxLen at hs
  go_enter Tryd.func35, Tryd.ntmps35
  go_wp2
  go_loop [5] (fun i => ∃ k : Nat, k ≤ s.size ∧ i = .int .i64 k ∧ Hid (runL digitB s.data.toList = k + runL digitB (s.data.toList.drop k))) (fun i => s.size - (intOf i).toNat)
  case atStart => exact ⟨0, Nat.zero_le _, rfl, by unfold Hid; simp⟩
  case round =>
    obtain ⟨k, hk, rfl, hr⟩ := hrel
    by_cases hlt : k < s.size
    · by_cases hp : digitB s[k] = true
      · go_wp2_with (go_at_call 38; refine (digit_any _ _).mono ?_; rintro e w' ⟨rfl, rfl⟩)
        go_round
        case rel => exact ⟨k + 1, by omega, by go_num, by unfold Hid at hr ⊢; rw [hr, runL_go digitB s.data.toList k (by simpa using hlt) hp]; omega⟩
        case measure => simp [intOf]; omega
      · have hp' : digitB s[k] = false := by simpa using hp
        clear hp
        go_wp2_with (go_at_call 38; refine (digit_any _ _).mono ?_; rintro e w' ⟨rfl, rfl⟩)
        go_ret
        exact ⟨ret_int (by rw [hr.out, runL_stop digitB s.data.toList k (by simpa using hlt) hp']; simp), rfl⟩
    · have hz : Hid (k = s.size) := by unfold Hid; omega
      go_wp2
      go_ret
      exact ⟨ret_int (by rw [hr.out, hz.out, List.drop_eq_nil_of_le (by simp)]; simp [runL]), rfl⟩

set_option maxHeartbeats 400000 in
theorem run_word1 (s : ByteArray) (hs : s.size ≤ maxLen) (w : World) :
    Calls Tryd.prog 35 #[.string s, .func (.func 59) #[] #[]] w fun e w' => e = .returned (.int .i64 (runL wordB s.data.toList)) ∧ w = w' := by
  unfold maxLen at hs
  go_enter Tryd.func35, Tryd.ntmps35
  go_wp2
  go_loop [5] (fun i => ∃ k : Nat, k ≤ s.size ∧ i = .int .i64 k ∧ Hid (runL wordB s.data.toList = k + runL wordB (s.data.toList.drop k))) (fun i => s.size - (intOf i).toNat)
  case atStart => exact ⟨0, Nat.zero_le _, rfl, by unfold Hid; simp⟩
  case round =>
    obtain ⟨k, hk, rfl, hr⟩ := hrel
    by_cases hlt : k < s.size
    · by_cases hp : wordB s[k] = true
      · go_wp2_with (go_at_call 59; refine (word1_any _ _).mono ?_; rintro e w' ⟨rfl, rfl⟩)
        go_round
        case rel => exact ⟨k + 1, by omega, by go_num, by unfold Hid at hr ⊢; rw [hr, runL_go wordB s.data.toList k (by simpa using hlt) hp]; omega⟩
        case measure => simp [intOf]; omega
      · have hp' : wordB s[k] = false := by simpa using hp
        clear hp
        go_wp2_with (go_at_call 59; refine (word1_any _ _).mono ?_; rintro e w' ⟨rfl, rfl⟩)
        go_ret
        exact ⟨ret_int (by rw [hr.out, runL_stop wordB s.data.toList k (by simpa using hlt) hp']; simp), rfl⟩
    · have hz : Hid (k = s.size) := by unfold Hid; omega
      go_wp2
      go_ret
      exact ⟨ret_int (by rw [hr.out, hz.out, List.drop_eq_nil_of_le (by simp)]; simp [runL]), rfl⟩

end Go.Proofs.YtgkfmeccipgnjaaDoor
