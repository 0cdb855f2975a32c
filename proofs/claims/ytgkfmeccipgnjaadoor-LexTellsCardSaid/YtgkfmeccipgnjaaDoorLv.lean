/- Contracts of the reference's letter, digit, number. -/
import Derived.Test.YtgkfmeccipgnjaaDoorLd
import Derived.Test.YtgkfmeccipgnjaaDoorLr
namespace Go.Proofs.YtgkfmeccipgnjaaDoor
open Go.RowKit

set_option maxHeartbeats 400000 in
theorem letter_ref (c : UInt8) (w : World) :
    Calls Tryd.prog 65 #[.int .u8 c.toNat] w fun e w' => e = .returned (.bool (letterB c)) ∧ w = w' := by
  go_enter Tryd.func65, Tryd.ntmps65
  go_wp2
  all_goals go_ret
  all_goals exact ⟨ret_bool (by rw [Bool.eq_iff_iff]; simp [letterB] <;> omega), rfl⟩

set_option maxHeartbeats 400000 in
theorem digit_ref (c : UInt8) (w : World) :
    Calls Tryd.prog 66 #[.int .u8 c.toNat] w fun e w' => e = .returned (.bool (digitB c)) ∧ w = w' := by
  go_enter Tryd.func66, Tryd.ntmps66
  go_wp2
  all_goals go_ret
  all_goals exact ⟨ret_bool (by rw [Bool.eq_iff_iff]; simp [digitB] <;> omega), rfl⟩

/-- What the reference makes of a numeral. -/
def numR (d : List UInt8) : Nat × Bool := if valD d ≤ 9223372036854775807 then (valD d, canonB d) else (0, false)
theorem numR_yes {d : List UInt8} (h : valD d ≤ 9223372036854775807) : numR d = (valD d, canonB d) := if_pos h
theorem numR_no {d : List UInt8} (h : 9223372036854775807 < valD d) : numR d = (0, false) := if_neg (by omega)
theorem take_snocV (s : ByteArray) (k : Nat) (h : k < s.size) : valD (s.data.toList.take (k + 1)) = 10 * valD (s.data.toList.take k) + (s[k].toNat - 48) := by
  rw [take_snoc s k h, valD_snoc]
theorem tdiv10 (k : Nat) (h : k ≤ 9) : (9223372036854775807 - (k : Int)).tdiv 10 = (9223372036854775807 - (k : Int)) / 10 := Int.tdiv_eq_ediv_of_nonneg (by omega)
theorem ret_ib {a b : Int} {x y : Bool} (h : a = b) (h2 : x = y) : Ending.returned (.tuple #[.int .i64 a, .bool x]) = .returned (.tuple #[.int .i64 b, .bool y]) := by rw [h, h2]

set_option maxHeartbeats 1000000 in
theorem number_ref (s : ByteArray) (hs : s.size ≤ 6000) (hd : ∀ c ∈ s.data.toList, digitB c = true) (w : World) :
    Calls Tryd.prog 67 #[.string s] w fun e w' => e = .returned (.tuple #[.int .i64 (numR s.data.toList).1, .bool (numR s.data.toList).2]) ∧ w = w' := by
  have HD := Lib.hid hd
  clear hd
  go_enter Tryd.func67, Tryd.ntmps67
  go_wp2
  go_loop [4, 5] (fun n i => ∃ j : Nat, j ≤ s.size ∧ i = .int .i64 j ∧ ∃ v : Nat, n = .int .i64 v ∧ v ≤ 9223372036854775807 ∧ Hid (v = valD (s.data.toList.take j))) (fun _ i => s.size - (intOf i).toNat)
  case atStart => exact ⟨0, Nat.zero_le _, rfl, 0, rfl, by omega, rfl⟩
  case round =>
    obtain ⟨j, hj, rfl, v, rfl, hv, HV⟩ := hrel
    by_cases hlt : j < s.size
    · have hdj := HD.out s[j] (by rw [← getL s j hlt]; exact List.getElem_mem _)
      simp only [digitB, Bool.and_eq_true, decide_eq_true_eq] at hdj
      obtain ⟨d1, d2⟩ := hdj
      have HN := Lib.hid (take_snocV s j hlt)
      obtain ⟨k, hk⟩ : ∃ k : Nat, (s[j].toNat : Int) - 48 = k := ⟨s[j].toNat - 48, by omega⟩
      have hk9 : k ≤ 9 := by omega
      have ht := tdiv10 k hk9
      have hkn : s[j].toNat - 48 = k := by omega
      rw [hkn] at HN
      have HK := Lib.hid hk
      have hw8 : IntKind.u8.wrap ((s[j].toNat : Int) - 48) = (k : Int) := by rw [hk]; exact IntWalk.u8_in _ (by omega)
      by_cases hov : 10 * v + k ≤ 9223372036854775807
      · have hlt2 : ¬ ((9223372036854775807 - (k : Int)) / 10 < v) := by omega
        go_wp2
        go_round
        case rel => exact ⟨j + 1, by omega, by go_num, 10 * v + k, by go_num, hov, by unfold Hid at HV ⊢; rw [HN.out, HV]⟩
        case measure => simp [intOf]; omega
      · have hlt2 : ((9223372036854775807 - (k : Int)) / 10 < v) := by omega
        go_wp2
        go_ret2
        have hb : 9223372036854775807 < valD s.data.toList := by
          have := valD_take_le s.data.toList (j + 1)
          rw [HN.out, ← HV.out] at this; omega
        rw [numR_no hb]
        exact ⟨rfl, rfl⟩
    · have hz : Hid (j = s.size) := by unfold Hid; omega
      have hall : Hid (v = valD s.data.toList) := by unfold Hid; rw [HV.out, hz.out, size_length, List.take_length]
      have hR : Hid (numR s.data.toList = (v, canonB s.data.toList)) := by unfold Hid; rw [numR_yes (by rw [← hall.out]; exact hv), ← hall.out]
      by_cases h0 : s.size = 0
      · have h1 : s.toList = [] := toList_nil h0
        have hcn : Hid (canonB s.data.toList = false) := by unfold Hid; rw [← toList_data, h1]; rfl
        clear h0
        go_wp2
        go_ret2
        rw [hR.out, hcn.out]
        exact ⟨rfl, rfl⟩
      · have h1 : s.toList.isEmpty = false := toList_ne h0
        have h3 : 0 < s.size := by omega
        obtain ⟨c, r, hcr⟩ : ∃ c r, c = s[0] ∧ s.data.toList = c :: r := ⟨_, _, rfl, cons_of h3⟩
        obtain ⟨hc0, hcr⟩ := hcr
        have Hcr := Lib.hid hcr
        have Hc0 := Lib.hid hc0
        clear hcr hc0
        go_wp2
        all_goals go_ret2
        · refine ⟨ret_ib (by rw [hR.out]) ?_, rfl⟩
          have h48 : c = 48 := by rw [Hc0.out]; apply UInt8.toNat_inj.mp; simp; omega
          rw [hR.out, toList_data, Hcr.out]
          subst h48
          cases r <;> rfl
        · refine ⟨ret_ib (by rw [hR.out]) ?_, rfl⟩
          have hq : ¬ (s[0].toNat : Int) = 48 := by assumption
          have h48 : c ≠ 48 := fun e => hq (by rw [← Hc0.out, e]; rfl)
          rw [hR.out, Hcr.out]
          simp [canonB, h48]
end Go.Proofs.YtgkfmeccipgnjaaDoor
