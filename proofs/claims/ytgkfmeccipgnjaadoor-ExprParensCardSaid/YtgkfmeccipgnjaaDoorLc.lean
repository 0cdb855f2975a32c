/- Contracts of lex.word, lex.Keyword, lex.IsName. -/
import Derived.Test.YtgkfmeccipgnjaaDoorLb
import Derived.Test.YtgkfmeccipgnjaaDoorLq
import Derived.Test.YtgkfmeccipgnjaaDoorShelf
namespace Go.Proofs.YtgkfmeccipgnjaaDoor
open Go.RowKit

theorem toList_data (s : ByteArray) : s.toList = s.data.toList := ByteArray.toList_eq ..
theorem size_length (s : ByteArray) : s.size = s.data.toList.length := by simp
theorem toList_nil {s : ByteArray} (h : s.size = 0) : s.toList = [] := by
  rw [toList_data]; rw [size_length] at h; exact List.eq_nil_of_length_eq_zero h
theorem toList_ne {s : ByteArray} (h : s.size ≠ 0) : s.toList.isEmpty = false := by
  rw [toList_data]; rw [size_length] at h; cases hd : s.data.toList with
  | nil => rw [hd] at h; simp at h
  | cons a l => rfl
theorem cons_of {s : ByteArray} (h : 0 < s.size) : s.data.toList = s[0] :: s.data.toList.drop 1 := by
  exact List.drop_eq_getElem_cons (l := s.data.toList) (i := 0) (by simpa using h)

theorem wordL_no {s : ByteArray} (h : 0 < s.size) (hl : letterB s[0] = false) : wordL s.data.toList = 0 := by
  rw [cons_of h]; simp [wordL, hl]
theorem wordL_yes {s : ByteArray} (h : 0 < s.size) (hl : letterB s[0] = true) : wordL s.data.toList = if runL wordB s.data.toList ≤ 12 then runL wordB s.data.toList else 0 := by
  rw [cons_of h]; simp [wordL, hl]

set_option maxHeartbeats 400000 in
theorem word_any (s : ByteArray) (hs : s.size ≤ maxLen) (w : World) :
    Calls Tryd.prog 42 #[.string s] w fun e w' => e = .returned (.int .i64 (wordL s.data.toList)) ∧ w = w' := by
  by_cases h0 : s.size = 0
  · have h1 : s.toList = [] := toList_nil h0
    have h2 : Hid (s.data.toList = []) := by rw [toList_data] at h1; exact h1
    go_enter Tryd.func42, Tryd.ntmps42
    go_wp2
    go_ret
    exact ⟨ret_int (by rw [h2.out]; rfl), rfl⟩
  · have h1 : s.toList.isEmpty = false := toList_ne h0
    have h3 : 0 < s.size := by omega
    by_cases hl : letterB s[0] = true
    · have hr := runL_le wordB s.data.toList
      have hsz : s.data.toList.length = s.size := (size_length s).symm
      rw [hsz] at hr
      have hq := hs
      unfold maxLen at hq
      clear hsz
      have hw := wordL_yes h3 hl
      have HW := Lib.hid hw
      clear hw h0
      go_enter Tryd.func42, Tryd.ntmps42
      go_wp2_with (first | (go_at_call 37; refine (letter_any _ _).mono ?_; rintro e w' ⟨rfl, rfl⟩) | (go_at_call 35; refine (run_word1 _ hs _).mono ?_; rintro e w' ⟨rfl, rfl⟩))
      · go_ret
        have : ¬ runL wordB s.data.toList ≤ 12 := by omega
        exact ⟨ret_int (by rw [HW.out, if_neg this]; rfl), rfl⟩
      · go_ret
        have : runL wordB s.data.toList ≤ 12 := by omega
        exact ⟨ret_int (by rw [HW.out, if_pos this]), rfl⟩
    · have hl' : letterB s[0] = false := by simpa using hl
      have hw := wordL_no h3 hl'
      have HW := Lib.hid hw
      clear hw hl h0
      go_enter Tryd.func42, Tryd.ntmps42
      go_wp2_with (first | (go_at_call 37; refine (letter_any _ _).mono ?_; rintro e w' ⟨rfl, rfl⟩))
      go_ret
      exact ⟨ret_int (by rw [HW.out]; rfl), rfl⟩

def kws : List ByteArray := [⟨#[118, 97, 114]⟩, ⟨#[119, 105, 100, 101]⟩, ⟨#[97, 116, 111, 109, 105, 99]⟩, ⟨#[108, 111, 99, 97, 108]⟩, ⟨#[109, 117, 116, 101, 120]⟩, ⟨#[99, 104, 97, 110]⟩, ⟨#[103, 111]⟩, ⟨#[108, 111, 99, 107]⟩, ⟨#[117, 110, 108, 111, 99, 107]⟩, ⟨#[115, 101, 110, 100]⟩, ⟨#[114, 101, 99, 118]⟩, ⟨#[112, 114, 105, 110, 116]⟩, ⟨#[105, 102]⟩, ⟨#[101, 108, 115, 101]⟩, ⟨#[114, 101, 112, 101, 97, 116]⟩, ⟨#[103, 111, 116, 111]⟩, ⟨#[108, 97, 98, 101, 108]⟩]
def keywordB (s : ByteArray) : Bool := Lib.containsS kws s

theorem kws_cell (w : World) (j : Nat) (hj : j < kws.length) : (w.alloc (.cells (kws.map Value.string).toArray 9)).cell? ⟨w.heap.size, 0 + j, none⟩ = some (.string (kws.getD j ByteArray.empty)) := by
  rw [Nat.zero_add, World.cell?_alloc_new]
  simp [hj]

theorem contains_kws (s : ByteArray) (w : World) :
    Calls Tryd.prog 47 #[.slice (some ⟨w.heap.size, 0, none⟩) 17 17, .string s] (w.alloc (.cells (kws.map Value.string).toArray 9)) fun e w' => e = .returned (.bool (keywordB s)) ∧ w.alloc (.cells (kws.map Value.string).toArray 9) = w' :=
  (Tryd.slices_Contains_string w.heap.size 0 17 17 kws s _ (by decide) (by decide) (kws_cell w)).mono fun _ _ ⟨he, hw⟩ => ⟨by rw [he]; rfl, hw.symm⟩

set_option maxHeartbeats 400000 in
theorem keyword_any (s : ByteArray) (w : World) :
    Calls Tryd.prog 18 #[.string s] w fun e w' => e = .returned (.bool (keywordB s)) ∧ Below w.heap.size w w' := by
  go_enter Tryd.func18, Tryd.ntmps18
  go_wp2_with (go_at_call 47; refine (contains_kws s w).mono ?_; rintro e w' ⟨rfl, rfl⟩)
  go_ret
  exact ⟨ret_bool rfl, (Below.refl _ _).alloc (Nat.le_refl _) _⟩

/-- Is a text one word, and no keyword? -/
def isNameB (s : ByteArray) : Bool := s.size != 0 && wordL s.data.toList == s.size && !keywordB s

set_option maxHeartbeats 400000 in
theorem isName_any (s : ByteArray) (hs : s.size ≤ maxLen) (w : World) :
    Calls Tryd.prog 19 #[.string s] w fun e w' => e = .returned (.bool (isNameB s)) ∧ Below w.heap.size w w' := by
  by_cases h0 : s.size = 0
  · have h1 : s.toList = [] := toList_nil h0
    have H0 := Lib.hid h0
    clear h0
    go_enter Tryd.func19, Tryd.ntmps19
    go_wp2
    go_ret
    exact ⟨ret_bool (by simp [isNameB, H0.out]), Below.refl _ _⟩
  · have h1 : s.toList.isEmpty = false := toList_ne h0
    by_cases hw : wordL s.data.toList = s.size
    · have h2 : ((wordL s.data.toList : Int) == (s.size : Int)) = true := by simp [hw]
      have HW := Lib.hid hw
      clear hw
      go_enter Tryd.func19, Tryd.ntmps19
      go_wp2_with (first | (go_at_call 42; refine (word_any _ hs _).mono ?_; rintro e w' ⟨rfl, rfl⟩) | (go_at_call 18; refine (keyword_any _ _).mono ?_; rintro e w1 ⟨rfl, hb⟩))
      go_ret
      exact ⟨ret_bool (by simp [isNameB, HW.out, h0]), hb⟩
    · have h2 : ((wordL s.data.toList : Int) == (s.size : Int)) = false := by
        simp only [beq_eq_false_iff_ne]; omega
      have HW := Lib.hid hw
      clear hw
      go_enter Tryd.func19, Tryd.ntmps19
      go_wp2_with (first | (go_at_call 42; refine (word_any _ hs _).mono ?_; rintro e w' ⟨rfl, rfl⟩) | (go_at_call 18; refine (keyword_any _ _).mono ?_; rintro e w1 ⟨rfl, hb⟩))
      go_ret
      exact ⟨ret_bool (by simp [isNameB, HW.out]), Below.refl _ _⟩

end Go.Proofs.YtgkfmeccipgnjaaDoor
