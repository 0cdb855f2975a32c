/- Contracts of place.Of and sutureref1.Place. -/
import Derived.Test.YtgkfmeccipgnjaaDoorLc
namespace Go.Proofs.YtgkfmeccipgnjaaDoor
open Go.RowKit

def spotStep (p : Nat × Nat) (c : UInt8) : Nat × Nat := if c.toNat = 10 then (p.1 + 1, 1) else (p.1, p.2 + 1)
/-- Line and column behind a text. -/
def spotL (l : List UInt8) : Nat × Nat := l.foldl spotStep (1, 1)

theorem spotL_snoc (l : List UInt8) (c : UInt8) : spotL (l ++ [c]) = spotStep (spotL l) c := by simp [spotL]

theorem extract_list (s : ByteArray) (k : Nat) : (s.extract 0 k).data.toList = s.data.toList.take k := by
  simp

theorem take_snoc (s : ByteArray) (k : Nat) (h : k < s.size) : s.data.toList.take (k + 1) = s.data.toList.take k ++ [s[k]] := by
  rw [List.take_succ_eq_append_getElem (by simpa using h)]; rfl

theorem spot_line (l : List UInt8) : (spotL l).1 = 1 + l.count 10 := by
  have gen : ∀ (l : List UInt8) (p : Nat × Nat), (l.foldl spotStep p).1 = p.1 + l.count 10 := by
    intro l
    induction l with
    | nil => intro p; simp
    | cons c l ih =>
      intro p
      rw [List.foldl_cons, ih, List.count_cons]
      unfold spotStep
      by_cases h : c.toNat = 10
      · have : c = 10 := by apply UInt8.toNat_inj.mp; simpa using h
        subst this; simp; omega
      · have : ¬ c = 10 := by rintro rfl; simp at h
        simp [h, this]
  exact gen l (1, 1)

theorem spot_col (s : ByteArray) (k : Nat) (hk : k ≤ s.size) : ((spotL (s.data.toList.take k)).2 : Int) = k - Lib.lastIdx s 10 k := by
  induction k with
  | zero => simp [spotL, Lib.lastIdx]
  | succ k ih =>
    have hk' : k < s.size := by omega
    rw [take_snoc s k hk', spotL_snoc]
    have hg : s.data[k]! = s[k] := by rw [getElem!_pos s.data k (by simpa using hk')]; rfl
    unfold spotStep
    have ih' := ih (by omega)
    by_cases h : s[k].toNat = 10
    · rw [if_pos h, Lib.lastIdx_hit s 10 k (by rw [hg, h]; rfl)]; simp; omega
    · rw [if_neg h, Lib.lastIdx_miss s 10 k (by rw [hg]; omega)]; simp; omega

theorem spot_le (l : List UInt8) : (spotL l).1 ≤ l.length + 1 ∧ (spotL l).2 ≤ l.length + 1 ∧ 1 ≤ (spotL l).1 ∧ 1 ≤ (spotL l).2 := by
  have gen : ∀ (l : List UInt8) (p : Nat × Nat), 1 ≤ p.1 → 1 ≤ p.2 → (l.foldl spotStep p).1 ≤ p.1 + l.length ∧ (l.foldl spotStep p).2 ≤ p.2 + l.length ∧ 1 ≤ (l.foldl spotStep p).1 ∧ 1 ≤ (l.foldl spotStep p).2 := by
    intro l
    induction l with
    | nil => intro p h1 h2; simp [h1, h2]
    | cons c l ih =>
      intro p h1 h2
      rw [List.foldl_cons]
      have := ih (spotStep p c) (by unfold spotStep; split <;> simp <;> omega) (by unfold spotStep; split <;> simp)
      have h3 : (spotStep p c).1 ≤ p.1 + 1 ∧ (spotStep p c).2 ≤ p.2 + 1 := by unfold spotStep; split <;> simp <;> omega
      simp only [List.length_cons]; omega
  have := gen l (1, 1) (by simp) (by simp)
  simp at this; simp only [spotL]; omega

theorem lastIdx_extract (s : ByteArray) (k : Nat) (hk : k ≤ s.size) (j : Nat) (hj : j ≤ k) : Lib.lastIdx (s.extract 0 k) 10 j = Lib.lastIdx s 10 j := by
  induction j with
  | zero => rfl
  | succ j ih =>
    have h1 : (s.extract 0 k).data[j]! = s.data[j]! := by
      have hsz : s.data.size = s.size := rfl
      rw [getElem!_pos s.data j (by omega), getElem!_pos (s.extract 0 k).data j (by simp; omega)]
      simp
    unfold Lib.lastIdx
    rw [h1, ih (by omega)]

/-- A place, as the program lays it: line and column as floats. -/
def plc (p : Nat × Nat) : Value := .complex .f64 (floatOfInt .f64 p.1) (floatOfInt .f64 p.2)

theorem ret_ii {a b c d : Int} (h : a = c) (h2 : b = d) : Ending.returned (.tuple #[.int .i64 a, .int .i64 b]) = .returned (.tuple #[.int .i64 c, .int .i64 d]) := by rw [h, h2]
theorem ret_cpx {a b c d : Int} (h : a = c) (h2 : b = d) : Ending.returned (.complex .f64 (floatOfInt .f64 a) (floatOfInt .f64 b)) = .returned (.complex .f64 (floatOfInt .f64 c) (floatOfInt .f64 d)) := by rw [h, h2]

set_option maxHeartbeats 400000 in
theorem place_of (s : ByteArray) (k : Nat) (hs : s.size ≤ 9223372036854775807) (hk : k ≤ s.size) (hk2 : k ≤ 6000) (w : World) :
    Calls Tryd.prog 34 #[.string s, .int .i64 k] w fun e w' => e = .returned (plc (spotL (s.data.toList.take k))) ∧ w = w' := by
  have e1 : (max 0 (min (k : Int) (s.size : Int))).toNat = k := by omega
  have hc : (s.extract 0 k).size = k := by simp; omega
  have hcnt : Lib.countByte (s.data.toList.take k) 10 ≤ 6000 := by
    unfold Lib.countByte
    have := List.count_le_length (a := (10 : UInt8)) (l := s.data.toList.take k)
    simp at this; omega
  have hl := Lib.lastIndexByte_spec (s.extract 0 k) 10
  have hl2 : -1 ≤ Lib.lastIndexByte (s.extract 0 k) 10 ∧ Lib.lastIndexByte (s.extract 0 k) 10 ≤ 6000 := by
    rcases hl with ⟨h, _⟩ | ⟨i, hi, h, _⟩ <;> omega
  obtain ⟨hl3, hl4⟩ := hl2
  clear hl
  have f1 : 1 + (Lib.countByte (s.data.toList.take k) 10 : Int) = ((spotL (s.data.toList.take k)).1 : Int) := by
    rw [spot_line]; unfold Lib.countByte at hcnt ⊢; omega
  have f2 : (k : Int) - Lib.lastIndexByte (s.extract 0 k) 10 = ((spotL (s.data.toList.take k)).2 : Int) := by
    rw [spot_col s k hk]; unfold Lib.lastIndexByte; rw [hc, lastIdx_extract s k hk k (Nat.le_refl _)]
  have F1 := Lib.hid f1
  have F2 := Lib.hid f2
  clear f1 f2
  go_enter Tryd.func34, Tryd.ntmps34
  go_wp2_with (first | (go_at_call 55; refine (Tryd.strings_Count_one _ _ _).mono ?_; rintro e w' ⟨rfl, rfl⟩) | (go_at_call 56; refine (Tryd.strings_LastIndexByte _ _ (by omega) _).mono ?_; rintro e w' ⟨rfl, rfl⟩))
  go_ret
  exact ⟨ret_cpx F1.out F2.out, rfl⟩

set_option maxHeartbeats 400000 in
theorem within_any (n lo hi : Int) (w : World) :
    Calls Tryd.prog 63 #[.int .i64 n, .int .i64 lo, .int .i64 hi] w fun e w' => e = .returned (.int .i64 (max lo (min hi n))) ∧ w = w' := by
  go_enter Tryd.func63, Tryd.ntmps63
  go_wp2
  go_ret
  exact ⟨rfl, rfl⟩

set_option maxHeartbeats 400000 in
theorem spot_any (s : ByteArray) (k : Nat) (hs : s.size ≤ 9223372036854775807) (hk : k ≤ s.size) (hk2 : k ≤ 6000) (w : World) :
    Calls Tryd.prog 46 #[.string s, .int .i64 k] w fun e w' => e = .returned (.tuple #[.int .i64 (spotL (s.data.toList.take k)).1, .int .i64 (spotL (s.data.toList.take k)).2]) ∧ w = w' := by
  have e1 : max 0 (min (s.size : Int) (k : Int)) = k := by omega
  go_enter Tryd.func46, Tryd.ntmps46
  go_wp2_with (go_at_call 63; refine (within_any _ _ _ _).mono ?_; rintro e w' ⟨rfl, rfl⟩)
  clear e1
  go_loop [6, 7, 8] (fun a b i => ∃ j : Nat, j ≤ k ∧ i = .int .i64 j ∧ a = .int .i64 (spotL (s.data.toList.take j)).1 ∧ b = .int .i64 (spotL (s.data.toList.take j)).2) (fun _ _ i => k - (intOf i).toNat)
  case atStart => exact ⟨0, Nat.zero_le _, rfl, rfl, rfl⟩
  case round =>
    obtain ⟨j, hj, rfl, rfl, rfl⟩ := hrel
    have hle := spot_le (s.data.toList.take j)
    have hlen : (s.data.toList.take j).length ≤ 6000 := by have := List.length_take_le j s.data.toList; omega
    obtain ⟨l1, l2, l3, l4⟩ := hle
    by_cases hlt : j < k
    · have hjs : j < s.size := by omega
      have HS := Lib.hid (show spotL (s.data.toList.take (j + 1)) = spotStep (spotL (s.data.toList.take j)) s[j] by rw [take_snoc s j hjs, spotL_snoc])
      by_cases h10 : s[j].toNat = 10
      · have h11 : ((s[j].toNat : Int) == 10) = true := by simp [h10]
        have H10 := Lib.hid h10
        clear h10
        go_wp2
        go_round
        case rel => exact ⟨j + 1, by omega, by go_num, by rw [HS.out, spotStep, if_pos H10.out]; go_num, by rw [HS.out, spotStep, if_pos H10.out]; rfl⟩
        case measure => simp [intOf]; omega
      · have h11 : ((s[j].toNat : Int) == 10) = false := by simp; omega
        have H10 := Lib.hid h10
        clear h10
        go_wp2
        go_round
        case rel => exact ⟨j + 1, by omega, by go_num, by rw [HS.out, spotStep, if_neg H10.out], by rw [HS.out, spotStep, if_neg H10.out]; go_num⟩
        case measure => simp [intOf]; omega
    · have hz : Hid (j = k) := by unfold Hid; omega
      go_wp2
      go_ret2
      exact ⟨ret_ii (by rw [hz.out]) (by rw [hz.out]), rfl⟩

set_option maxHeartbeats 400000 in
theorem ref_place (s : ByteArray) (k : Nat) (hs : s.size ≤ 9223372036854775807) (hk : k ≤ s.size) (hk2 : k ≤ 6000) (w : World) :
    Calls Tryd.prog 17 #[.string s, .int .i64 k] w fun e w' => e = .returned (plc (spotL (s.data.toList.take k))) ∧ w = w' := by
  go_enter Tryd.func17, Tryd.ntmps17
  go_wp2_with (go_at_call 46; refine (spot_any _ _ hs hk hk2 _).mono ?_; rintro e w' ⟨rfl, rfl⟩)
  go_ret
  exact ⟨rfl, rfl⟩

end Go.Proofs.YtgkfmeccipgnjaaDoor
