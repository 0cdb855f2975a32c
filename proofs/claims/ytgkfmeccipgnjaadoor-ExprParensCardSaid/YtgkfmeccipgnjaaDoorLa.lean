/- Contracts of small functions: Pick, Few, letter, digit. -/
import Derived.Test.YtgkfmeccipgnjaaDoorProg
import Derived.Test.YtgkfmeccipgnjaaDoorLp
import Derived.WalkKit
import Derived.WalkLawsBesides
import Derived.WalkSpells
namespace Go.Proofs.YtgkfmeccipgnjaaDoor
open Go.RowKit

theorem ret_int {k : IntKind} {a b : Int} (h : a = b) : Ending.returned (.int k a) = .returned (.int k b) := by rw [h]
theorem ret_bool {a b : Bool} (h : a = b) : Ending.returned (.bool a) = .returned (.bool b) := by rw [h]
theorem ret_str {a b : ByteArray} (h : a = b) : Ending.returned (.string a) = .returned (.string b) := by rw [h]

theorem pick_neg {n m : Int} (hm : 0 < m) (hm2 : m ≤ 100000) (h : n.tmod m < 0) : wrap64 (n.tmod m + m) = n.emod m := by
  have h1 := Int.tmod_eq_emod (a := n) (b := m)
  have h2 := Int.emod_nonneg n (b := m) (by omega)
  have h3 := Int.emod_lt_of_pos n hm
  unfold wrap64
  have h5 : n.tmod m = n % m ∨ n.tmod m = n % m - m := by rw [h1]; split <;> omega
  show _ = n % m
  omega
theorem pick_pos {n m : Int} (hm : 0 < m) (h : 0 ≤ n.tmod m) : n.tmod m = n.emod m := by
  have h1 := Int.tmod_eq_emod (a := n) (b := m)
  have h2 := Int.emod_nonneg n (b := m) (by omega)
  have h3 := Int.emod_lt_of_pos n hm
  have h5 : n.tmod m = n % m ∨ n.tmod m = n % m - m := by rw [h1]; split <;> omega
  show _ = n % m
  omega

set_option maxHeartbeats 400000 in
theorem pick_any (n m : Int) (hm : 0 < m) (hm2 : m ≤ 100000) (w : World) :
    Calls Tryd.prog 23 #[.int .i64 n, .int .i64 m] w fun e w' => e = .returned (.int .i64 (n % m)) ∧ w = w' := by
  go_enter Tryd.func23, Tryd.ntmps23
  go_wp2
  · have h : n.tmod m < 0 := by assumption
    go_ret
    exact ⟨ret_int (pick_neg hm hm2 h), rfl⟩
  · have h : 0 ≤ n.tmod m := by assumption
    go_ret
    exact ⟨ret_int (pick_pos hm h), rfl⟩

def fewB (s : ByteArray) (n : Nat) : ByteArray := if n < s.size then s.extract 0 n else s

set_option maxHeartbeats 400000 in
theorem few_any (s : ByteArray) (n : Nat) (_hs : s.size ≤ maxLen) (_hn : n ≤ 100000) (w : World) :
    Calls Tryd.prog 33 #[.string s, .int .i64 n] w fun e w' => e = .returned (.string (fewB s n)) ∧ w = w' := by
  unfold maxLen at _hs
  by_cases h : n < s.size
  · go_enter Tryd.func33, Tryd.ntmps33
    go_wp2
    go_ret
    exact ⟨ret_str (by simp [fewB, h]), rfl⟩
  · go_enter Tryd.func33, Tryd.ntmps33
    go_wp2
    go_ret
    exact ⟨ret_str (by simp [fewB, h]), rfl⟩

set_option maxHeartbeats 400000 in
theorem letter_any (c : UInt8) (w : World) :
    Calls Tryd.prog 37 #[.int .u8 c.toNat] w fun e w' => e = .returned (.bool (letterB c)) ∧ w = w' := by
  go_enter Tryd.func37, Tryd.ntmps37
  go_wp2
  all_goals go_ret
  all_goals exact ⟨ret_bool (by rw [Bool.eq_iff_iff]; simp [letterB] <;> omega), rfl⟩

set_option maxHeartbeats 400000 in
theorem digit_any (c : UInt8) (w : World) :
    Calls Tryd.prog 38 #[.int .u8 c.toNat] w fun e w' => e = .returned (.bool (digitB c)) ∧ w = w' := by
  go_enter Tryd.func38, Tryd.ntmps38
  go_wp2
  all_goals go_ret
  all_goals exact ⟨ret_bool (by rw [Bool.eq_iff_iff]; simp [digitB] <;> omega), rfl⟩

set_option maxHeartbeats 400000 in
theorem blank_any (c : UInt8) (w : World) :
    Calls Tryd.prog 36 #[.int .u8 c.toNat] w fun e w' => e = .returned (.bool (blankB c)) ∧ w = w' := by
  go_enter Tryd.func36, Tryd.ntmps36
  go_wp2
  all_goals go_ret
  all_goals exact ⟨ret_bool (by rw [Bool.eq_iff_iff]; simp [blankB] <;> omega), rfl⟩

set_option maxHeartbeats 400000 in
theorem note_any (c : UInt8) (w : World) :
    Calls Tryd.prog 41 #[.int .u8 c.toNat] w fun e w' => e = .returned (.bool (noteB c)) ∧ w = w' := by
  go_enter Tryd.func41, Tryd.ntmps41
  go_wp2
  all_goals go_ret
  all_goals exact ⟨ret_bool (by rw [Bool.eq_iff_iff]; simp [noteB] <;> omega), rfl⟩

set_option maxHeartbeats 400000 in
theorem word1_any (c : UInt8) (w : World) :
    Calls Tryd.prog 59 #[.int .u8 c.toNat] w fun e w' => e = .returned (.bool (wordB c)) ∧ w = w' := by
  by_cases hb : letterB c = true
  · go_enter Tryd.func59, Tryd.ntmps59
    go_wp2_with (first | (go_at_call 37; refine (letter_any _ _).mono ?_; rintro e w' ⟨rfl, rfl⟩) | (go_at_call 38; refine (digit_any _ _).mono ?_; rintro e w' ⟨rfl, rfl⟩))
    all_goals go_ret
    all_goals exact ⟨ret_bool (by simp [wordB, hb]), rfl⟩
  · have hb' : letterB c = false := by simpa using hb
    clear hb
    go_enter Tryd.func59, Tryd.ntmps59
    go_wp2_with (first | (go_at_call 37; refine (letter_any _ _).mono ?_; rintro e w' ⟨rfl, rfl⟩) | (go_at_call 38; refine (digit_any _ _).mono ?_; rintro e w' ⟨rfl, rfl⟩))
    all_goals go_ret
    all_goals exact ⟨ret_bool (by simp [wordB, hb']), rfl⟩

end Go.Proofs.YtgkfmeccipgnjaaDoor
