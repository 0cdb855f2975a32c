/- The contract of lex.Tokens at every text; what chapter 2's example comes to. -/
import Derived.Test.YtgkfmeccipgnjaaDoorLi
namespace Go.Proofs.YtgkfmeccipgnjaaDoor
open Go.RowKit

set_option maxRecDepth 100000 in
set_option maxHeartbeats 1000000 in
theorem tokens_big (s : ByteArray) (hs : 6000 < s.size) (hm : s.size ≤ maxLen) (w : World) :
    Calls Tryd.prog 15 #[.string s] w fun e w' => TokPost s w e w' := by
  unfold maxLen at hm
  have HR := Lib.hid (show lexAll s.data.toList = .bad 6000 by rw [lexAll, if_pos (by rw [← size_length]; exact hs)])
  obtain ⟨X, Y, hXY⟩ : ∃ X Y, plc (spotL (s.data.toList.take 6000)) = .complex .f64 X Y := ⟨_, _, rfl⟩
  have HXY := Lib.hid hXY
  clear hXY
  go_enter Tryd.func15, Tryd.ntmps15
  go_wp2
  go_step3
  go_wp2_with (go_at_call 34; refine (place_of s 6000 (by omega) (by omega) (by omega) _).mono ?_; rintro e w' ⟨rfl, rfl⟩)
  rw [Exit.noGoto_ret]
  go_ret3
  refine ⟨(Below.refl _ _).alloc (Nat.le_refl _) _, ?_⟩
  rw [HR.out]
  rfl

theorem tokens_any (s : ByteArray) (hm : s.size ≤ maxLen) (w : World) (hE : Env w) :
    Calls Tryd.prog 15 #[.string s] w fun e w' => TokPost s w e w' := by
  by_cases hs : s.size ≤ 6000
  · exact tokens_small s hs w hE
  · exact tokens_big s (by omega) hm w

end Go.Proofs.YtgkfmeccipgnjaaDoor
