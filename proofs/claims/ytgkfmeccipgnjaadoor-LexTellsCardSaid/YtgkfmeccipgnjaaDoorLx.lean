/- Contracts of the reference's Keyword, isWord, IsName. -/
import Derived.Test.YtgkfmeccipgnjaaDoorLv
namespace Go.Proofs.YtgkfmeccipgnjaaDoor
open Go.RowKit

def kwsArr : Array Value := (kws.map Value.string).toArray
theorem kws_at (j : Nat) (hj : j < 17) : ∃ k : ByteArray, kws[j]? = some k ∧ ∀ Z : World, (Instr.index 93 (.agg #[.string ⟨#[118, 97, 114]⟩, .string ⟨#[119, 105, 100, 101]⟩, .string ⟨#[97, 116, 111, 109, 105, 99]⟩, .string ⟨#[108, 111, 99, 97, 108]⟩, .string ⟨#[109, 117, 116, 101, 120]⟩, .string ⟨#[99, 104, 97, 110]⟩, .string ⟨#[103, 111]⟩, .string ⟨#[108, 111, 99, 107]⟩, .string ⟨#[117, 110, 108, 111, 99, 107]⟩, .string ⟨#[115, 101, 110, 100]⟩, .string ⟨#[114, 101, 99, 118]⟩, .string ⟨#[112, 114, 105, 110, 116]⟩, .string ⟨#[105, 102]⟩, .string ⟨#[101, 108, 115, 101]⟩, .string ⟨#[114, 101, 112, 101, 97, 116]⟩, .string ⟨#[103, 111, 116, 111]⟩, .string ⟨#[108, 97, 98, 101, 108]⟩]) (.int .i64 (j : Int))).run Tryd.prog Z = .ok (.string k) Z := by
  match j, hj with
  | 0, _ => exact ⟨_, rfl, fun Z => by kernel_rfl⟩
  | 1, _ => exact ⟨_, rfl, fun Z => by kernel_rfl⟩
  | 2, _ => exact ⟨_, rfl, fun Z => by kernel_rfl⟩
  | 3, _ => exact ⟨_, rfl, fun Z => by kernel_rfl⟩
  | 4, _ => exact ⟨_, rfl, fun Z => by kernel_rfl⟩
  | 5, _ => exact ⟨_, rfl, fun Z => by kernel_rfl⟩
  | 6, _ => exact ⟨_, rfl, fun Z => by kernel_rfl⟩
  | 7, _ => exact ⟨_, rfl, fun Z => by kernel_rfl⟩
  | 8, _ => exact ⟨_, rfl, fun Z => by kernel_rfl⟩
  | 9, _ => exact ⟨_, rfl, fun Z => by kernel_rfl⟩
  | 10, _ => exact ⟨_, rfl, fun Z => by kernel_rfl⟩
  | 11, _ => exact ⟨_, rfl, fun Z => by kernel_rfl⟩
  | 12, _ => exact ⟨_, rfl, fun Z => by kernel_rfl⟩
  | 13, _ => exact ⟨_, rfl, fun Z => by kernel_rfl⟩
  | 14, _ => exact ⟨_, rfl, fun Z => by kernel_rfl⟩
  | 15, _ => exact ⟨_, rfl, fun Z => by kernel_rfl⟩
  | 16, _ => exact ⟨_, rfl, fun Z => by kernel_rfl⟩
  | k + 17, h => exact absurd h (by omega)
theorem keywordB_iff (s : ByteArray) : keywordB s = true ↔ s ∈ kws := by
  exact Lib.containsS_iff _ _
theorem memB_take_snoc {l : List ByteArray} {j : Nat} {x c : ByteArray} (h : l[j]? = some c) (h1 : x ∉ l.take j) (h2 : x ≠ c) : x ∉ l.take (j + 1) := by
  obtain ⟨hj, rfl⟩ := List.getElem?_eq_some_iff.mp h
  rw [List.take_succ_eq_append_getElem hj]
  simp only [List.mem_append, List.mem_singleton, not_or]
  exact ⟨h1, h2⟩

set_option maxRecDepth 100000 in
set_option maxHeartbeats 2000000 in
theorem keyword_ref (s : ByteArray) (w : World) :
    Calls Tryd.prog 21 #[.string s] w fun e w' => e = .returned (.bool (keywordB s)) ∧ w = w' := by
  go_enter Tryd.func21, Tryd.ntmps21
  go_wp2
  go_loop [6] (fun jv => ∃ j : Nat, j ≤ 17 ∧ jv = .int .i64 j ∧ Hid (s ∉ kws.take j)) (fun jv => 17 - (intOf jv).toNat)
  case atStart => exact ⟨0, Nat.zero_le _, rfl, by unfold Hid; simp⟩
  case round =>
    obtain ⟨j, hj, rfl, HJ⟩ := hrel
    by_cases hlt : j < 17
    · obtain ⟨x, hx, hix⟩ := kws_at j hlt
      have HX := Lib.hid hx
      clear hx
      by_cases hxc : s = x
      · have g : (s.toList == x.toList) = true := by rw [hxc]; simp
        have HM := Lib.hid (show keywordB s = true by rw [keywordB_iff, hxc]; exact List.mem_of_getElem? HX.out)
        clear hxc
        go_wp2
        go_ret
        exact ⟨ret_bool HM.out.symm, rfl⟩
      · have g : (s.toList == x.toList) = false := (Lib.bytes_beq_false_iff _ _).mpr hxc
        have HX2 := Lib.hid hxc
        clear hxc
        go_wp2
        go_round
        case rel => exact ⟨j + 1, by omega, by go_num, memB_take_snoc HX.out HJ.out HX2.out⟩
        case measure => simp [intOf]; omega
    · have hz : Hid (j = 17) := by unfold Hid; omega
      go_wp2
      go_ret
      have hn : s ∉ kws := by have := HJ.out; rw [hz.out] at this; exact this
      exact ⟨ret_bool (by cases hk : keywordB s with
        | false => rfl
        | true => exact absurd ((keywordB_iff s).mp hk) hn), rfl⟩

/-- Is a text one word? -/
def isWordB (s : ByteArray) : Bool := s.size != 0 && wordL s.data.toList == s.size
theorem isWordB_no {s : ByteArray} {j : Nat} (hj : j < s.size) (h1 : runL wordB s.data.toList = j) : isWordB s = false := by
  unfold isWordB
  have h : ¬ wordL s.data.toList = s.size := by
    intro e
    cases hl : letterB (s[0]'(by omega)) with
    | false => rw [wordL_no (by omega) hl] at e; omega
    | true => rw [wordL_yes (by omega) hl, h1] at e; split at e <;> omega
  simp [h]

theorem isWordB_letter {s : ByteArray} {j : Nat} (hj : j < s.size) (h1 : j = 0) (h2 : letterB s[j] = false) : isWordB s = false := by
  subst h1
  have h : ¬ wordL s.data.toList = s.size := by rw [wordL_no (by omega) h2]; omega
  simp [isWordB, h]

set_option maxRecDepth 100000 in
set_option maxHeartbeats 2000000 in
theorem isWord_ref (s : ByteArray) (hs : s.size ≤ maxLen) (w : World) :
    Calls Tryd.prog 49 #[.string s] w fun e w' => e = .returned (.bool (isWordB s)) ∧ w = w' := by
  unfold maxLen at hs
  go_enter Tryd.func49, Tryd.ntmps49
  go_wp2
  go_loop [3] (fun jv => ∃ j : Nat, j ≤ s.size ∧ jv = .int .i64 j ∧ Hid (runL wordB s.data.toList = j + runL wordB (s.data.toList.drop j) ∧ (0 < j → ∃ h : 0 < s.size, letterB s[0] = true))) (fun jv => s.size - (intOf jv).toNat)
  case atStart => exact ⟨0, Nat.zero_le _, rfl, by unfold Hid; simp⟩
  case round =>
    obtain ⟨j, hj, rfl, HJ⟩ := hrel
    by_cases hlt : j < s.size
    · by_cases hl : letterB s[j] = true
      · have HN := Lib.hid (runL_go wordB s.data.toList j (by simpa using hlt) (by rw [getL s j hlt]; simp [wordB, hl]))
        have HL := Lib.hid (show 0 < j + 1 → ∃ h : 0 < s.size, letterB s[0] = true by
          intro _
          by_cases h0 : j = 0
          · subst h0; exact ⟨hlt, hl⟩
          · exact HJ.out.2 (by omega))
        go_wp2_with (first | (go_at_call 65; refine (letter_ref _ _).mono ?_; rintro e w' ⟨rfl, rfl⟩) | (go_at_call 66; refine (digit_ref _ _).mono ?_; rintro e w' ⟨rfl, rfl⟩))
        go_round
        case rel => exact ⟨j + 1, by omega, by go_num, by have := HJ.out.1; rw [HN.out] at this; exact ⟨by omega, HL.out⟩⟩
        case measure => simp [intOf]; omega
      · have hl' : letterB s[j] = false := by simpa using hl
        clear hl
        by_cases h0 : j = 0
        · have HW := Lib.hid (isWordB_letter hlt h0 hl')
          have g : ((j : Int) == 0) = true := by simp [h0]
          have H0 := Lib.hid h0
          clear h0
          go_wp2_with (first | (go_at_call 65; refine (letter_ref _ _).mono ?_; rintro e w' ⟨rfl, rfl⟩) | (go_at_call 66; refine (digit_ref _ _).mono ?_; rintro e w' ⟨rfl, rfl⟩))
          all_goals go_ret
          all_goals exact ⟨ret_bool HW.out.symm, rfl⟩
        · have g : ((j : Int) == 0) = false := by simp; omega
          by_cases hd : digitB s[j] = true
          · have HN := Lib.hid (runL_go wordB s.data.toList j (by simpa using hlt) (by rw [getL s j hlt]; simp [wordB, hd]))
            go_wp2_with (first | (go_at_call 65; refine (letter_ref _ _).mono ?_; rintro e w' ⟨rfl, rfl⟩) | (go_at_call 66; refine (digit_ref _ _).mono ?_; rintro e w' ⟨rfl, rfl⟩))
            go_round
            case rel => exact ⟨j + 1, by omega, by go_num, by have := HJ.out.1; rw [HN.out] at this; exact ⟨by omega, fun _ => HJ.out.2 (by omega)⟩⟩
            case measure => simp [intOf]; omega
          · have hd' : digitB s[j] = false := by simpa using hd
            clear hd
            have HW := Lib.hid (isWordB_no hlt (by rw [HJ.out.1, runL_stop wordB s.data.toList j (by simpa using hlt) (by rw [getL s j hlt]; simp [wordB, hl', hd'])]; rfl))
            clear h0
            go_wp2_with (first | (go_at_call 65; refine (letter_ref _ _).mono ?_; rintro e w' ⟨rfl, rfl⟩) | (go_at_call 66; refine (digit_ref _ _).mono ?_; rintro e w' ⟨rfl, rfl⟩))
            go_ret
            exact ⟨ret_bool HW.out.symm, rfl⟩
    · have hz : Hid (j = s.size) := by unfold Hid; omega
      by_cases h0 : s.size = 0
      · have h1 : s.toList = [] := toList_nil h0
        have H0 := Lib.hid h0
        clear h0
        go_wp2
        go_ret
        exact ⟨ret_bool (by simp [isWordB, H0.out]), rfl⟩
      · have h1 : s.toList.isEmpty = false := toList_ne h0
        obtain ⟨h3, hl⟩ := HJ.out.2 (by rw [hz.out]; omega)
        have hrun : runL wordB s.data.toList = s.size := by rw [HJ.out.1, hz.out, List.drop_eq_nil_of_le (by simp)]; rfl
        have HW := Lib.hid (show isWordB s = decide ((s.size : Int) ≤ 12) by
          unfold isWordB
          rw [wordL_yes h3 hl, hrun]
          rw [Bool.eq_iff_iff]
          simp only [Bool.and_eq_true, bne_iff_ne, beq_iff_eq, decide_eq_true_eq]
          split <;> omega)
        clear hrun hl
        go_wp2
        go_ret
        exact ⟨ret_bool (by rw [HW.out]), rfl⟩

set_option maxHeartbeats 400000 in
theorem isName_ref (s : ByteArray) (hs : s.size ≤ maxLen) (w : World) :
    Calls Tryd.prog 22 #[.string s] w fun e w' => e = .returned (.bool (isNameB s)) ∧ w = w' := by
  have HN := Lib.hid (show isNameB s = (isWordB s && !keywordB s) from rfl)
  cases hw : isWordB s with
  | true =>
    rw [hw] at HN
    go_enter Tryd.func22, Tryd.ntmps22
    go_wp2_with (first | (go_at_call 49; refine (isWord_ref _ hs _).mono ?_; rintro e w' ⟨rfl, rfl⟩) | (go_at_call 21; refine (keyword_ref _ _).mono ?_; rintro e w' ⟨rfl, rfl⟩))
    go_ret
    exact ⟨ret_bool (by rw [HN.out]; rfl), rfl⟩
  | false =>
    rw [hw] at HN
    go_enter Tryd.func22, Tryd.ntmps22
    go_wp2_with (first | (go_at_call 49; refine (isWord_ref _ hs _).mono ?_; rintro e w' ⟨rfl, rfl⟩) | (go_at_call 21; refine (keyword_ref _ _).mono ?_; rintro e w' ⟨rfl, rfl⟩))
    go_ret
    exact ⟨ret_bool (by rw [HN.out]; rfl), rfl⟩
end Go.Proofs.YtgkfmeccipgnjaaDoor
