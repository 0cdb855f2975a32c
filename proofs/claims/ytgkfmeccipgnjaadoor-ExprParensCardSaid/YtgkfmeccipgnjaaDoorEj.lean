/- Contract of expr.sign, expr.printed. -/
import Derived.Test.YtgkfmeccipgnjaaDoorEe
import Derived.Lib.QuietBelow
import Derived.Outline
namespace Go.Proofs.YtgkfmeccipgnjaaDoor
open Go.RowKit

theorem sign_any (k : Int) (h1 : 4 ≤ k) (h2 : k ≤ 10) (w : World) : Calls Tryd.prog 69 #[.int .i64 k] w fun e w' => e = .returned (.tuple #[.string ⟨(signP k).1.toArray⟩, .int .i64 (ownL k)]) ∧ w = w' := by
  rcases sign_cases h1 h2 with rfl | rfl | rfl | rfl | rfl | rfl | rfl
  all_goals
    go_enter Tryd.func69, Tryd.ntmps69
    go_wp2
    go_ret2
    exact ⟨rfl, rfl⟩

theorem str_app (a b : List UInt8) : (⟨a.toArray⟩ : ByteArray) ++ ⟨b.toArray⟩ = ⟨(a ++ b).toArray⟩ := by
  apply bytes_of_list
  simp

theorem ret_strL {a b : List UInt8} (h : a = b) : Ending.returned (.string ⟨a.toArray⟩) = .returned (.string ⟨b.toArray⟩) := by rw [h]

set_option maxRecDepth 100000 in
set_option maxHeartbeats 2000000 in
theorem printed_leaf (k n : Int) (nm : List UInt8) (h1 : -9223372036854775808 ≤ n) (h2 : n ≤ 9223372036854775807) (A : Option Addr) (c lv : Nat) (w : World) (hE : Env w) :
    Calls Tryd.prog 51 #[.agg #[.int .i64 k, .int .i64 n, .string ⟨nm.toArray⟩, .slice A 0 c], .int .i64 lv] w fun e w' => e = .returned (.string ⟨(printF (.leaf k n nm) lv).toArray⟩) ∧ Below w.heap.size w w' := by
  have HE := Lib.hid hE
  by_cases hk1 : k = 1
  · subst hk1
    clear hE
    have IT := Lib.hid (itoa_at n h1 h2 _ (HE.out.below ((Below.refl _ w).alloc (Nat.le_refl _) (.cells #[.int .i64 1, .int .i64 n, .string ⟨nm.toArray⟩, .slice A 0 c] 48)) HE.out.size))
    go_enter Tryd.func51, Tryd.ntmps51
    go_wp2_with (go_at_call 44; refine IT.out.mono ?_; rintro e w2 ⟨rfl, hb⟩; have HB := Lib.hid hb; clear hb)
    go_ret
    exact ⟨rfl, ((Below.refl _ w).alloc (Nat.le_refl _) _).trans (HB.out.mono (by simp))⟩
  · have g1 : (k == 1) = false := by simp only [beq_eq_false_iff_ne]; omega
    by_cases hk2 : k = 2
    · subst hk2
      go_enter Tryd.func51, Tryd.ntmps51
      go_wp2_with fail
      go_ret
      exact ⟨ret_strL (show nm = printF (.leaf 2 n nm) lv by simp [printF]), (Below.refl _ w).alloc (Nat.le_refl _) _⟩
    · have g2 : (k == 2) = false := by simp only [beq_eq_false_iff_ne]; omega
      have HP := Lib.hid (show printF (.leaf k n nm) lv = [63] by simp [printF, hk1, hk2])
      clear hk1 hk2
      by_cases hk3 : k = 3
      · subst hk3
        go_enter Tryd.func51, Tryd.ntmps51
        go_wp2_with fail
        go_ret
        exact ⟨ret_strL (a := [63]) HP.out.symm, (Below.refl _ w).alloc (Nat.le_refl _) _⟩
      · have g3 : (k == 3) = false := by simp only [beq_eq_false_iff_ne]; omega
        clear hk3
        by_cases hk4 : k < 4
        · go_enter Tryd.func51, Tryd.ntmps51
          go_wp2_with fail
          go_ret
          exact ⟨ret_strL (a := [63]) HP.out.symm, (Below.refl _ w).alloc (Nat.le_refl _) _⟩
        · by_cases hk5 : 10 < k
          · go_enter Tryd.func51, Tryd.ntmps51
            go_wp2_with fail
            go_ret
            exact ⟨ret_strL (a := [63]) HP.out.symm, (Below.refl _ w).alloc (Nat.le_refl _) _⟩
          · go_enter Tryd.func51, Tryd.ntmps51
            go_wp2_with fail
            go_ret
            exact ⟨ret_strL (a := [63]) HP.out.symm, (Below.refl _ w).alloc (Nat.le_refl _) _⟩

set_option maxRecDepth 100000 in
set_option maxHeartbeats 2000000 in
theorem printed_un (a : Ex) (B : Option Addr) (cc b off c lv : Nat) (w : World) (hb : b < w.heap.size) (hA : ExCells w b off a (.slice B a.len cc)) (hsz : plen a 3 ≤ 1000000000)
    (IH : ∀ W, Below w.heap.size w W → Calls Tryd.prog 51 #[.agg #[.int .i64 a.kind, .int .i64 a.num, .string a.nm, .slice B a.len cc], .int .i64 3] W fun e w' => e = .returned (.string ⟨(printF a 3).toArray⟩) ∧ Below W.heap.size W w') :
    Calls Tryd.prog 51 #[.agg #[.int .i64 3, .int .i64 0, .string ⟨#[]⟩, .slice (some ⟨b, off, none⟩) 1 c], .int .i64 lv] w fun e w' => e = .returned (.string ⟨(printF (.un 3 a) lv).toArray⟩) ∧ Below w.heap.size w w' := by
  obtain ⟨a0, a1, a2, a3⟩ := hA
  have IHH := Lib.hid (IH _ ((Below.refl _ w).alloc (Nat.le_refl _) (.cells #[.int .i64 3, .int .i64 0, .string ⟨#[]⟩, .slice (some ⟨b, off, none⟩) 1 c] 48)))
  clear IH
  obtain ⟨S, hS⟩ : ∃ S : ByteArray, S = ⟨(printF a 3).toArray⟩ := ⟨_, rfl⟩
  have hps : S.size ≤ 1000000000 := by rw [hS, size_length]; exact hsz
  rw [← hS] at IHH
  have HS := Lib.hid hS
  clear hS hsz
  go_enter Tryd.func51, Tryd.ntmps51
  go_wp2_with fail
  refine IHH.out.mono ?_
  rintro e w2 ⟨rfl, hb2⟩
  have HB := Lib.hid hb2
  clear hb2
  go_wp2_with fail
  go_ret
  refine ⟨?_, ((Below.refl _ w).alloc (Nat.le_refl _) _).trans (HB.out.mono (by simp))⟩
  refine (congrArg (fun s => Ending.returned (.string s)) ?_ : Ending.returned (.string (⟨#[45]⟩ ++ S)) = _)
  rw [HS.out]; exact str_app [45] (printF a 3)

set_option maxRecDepth 100000 in
set_option maxHeartbeats 4000000 in
theorem printed_bin (k : Int) (h1 : 4 ≤ k) (h2 : k ≤ 10) (x y : Ex) (B D : Option Addr) (cx cy b off c lv : Nat) (w : World) (hb : b < w.heap.size) (hX : ExCells w b off x (.slice B x.len cx)) (hY : ExCells w b (off + 4) y (.slice D y.len cy))
    (hsz : plen (.bin k x y) lv ≤ 1000000000)
    (IX : ∀ (W : World) (lv : Nat), lv ≤ 3 → Below w.heap.size w W → Calls Tryd.prog 51 #[.agg #[.int .i64 x.kind, .int .i64 x.num, .string x.nm, .slice B x.len cx], .int .i64 lv] W fun e w' => e = .returned (.string ⟨(printF x lv).toArray⟩) ∧ Below W.heap.size W w')
    (IY : ∀ (W : World) (lv : Nat), lv ≤ 3 → Below w.heap.size w W → Calls Tryd.prog 51 #[.agg #[.int .i64 y.kind, .int .i64 y.num, .string y.nm, .slice D y.len cy], .int .i64 lv] W fun e w' => e = .returned (.string ⟨(printF y lv).toArray⟩) ∧ Below W.heap.size W w') :
    Calls Tryd.prog 51 #[.agg #[.int .i64 k, .int .i64 0, .string ⟨#[]⟩, .slice (some ⟨b, off, none⟩) 2 c], .int .i64 lv] w fun e w' => e = .returned (.string ⟨(printF (.bin k x y) lv).toArray⟩) ∧ Below w.heap.size w w' := by
  obtain ⟨a0, a1, a2, a3⟩ := hX
  obtain ⟨d0, d1, d2, d3⟩ := hY
  obtain ⟨W, hW⟩ : ∃ W, W = w.alloc (.cells #[.int .i64 k, .int .i64 0, .string ⟨#[]⟩, .slice (some ⟨b, off, none⟩) 2 c] 48) := ⟨_, rfl⟩
  have hbW : Below w.heap.size w W := by rw [hW]; exact (Below.refl _ w).alloc (Nat.le_refl _) _
  have how := own_le h1 h2
  obtain ⟨o, ho⟩ : ∃ o, o = ownL k := ⟨_, rfl⟩
  rw [← ho] at how
  obtain ⟨l, hl⟩ : ∃ l, l = leftL k := ⟨_, rfl⟩
  have hl2 : l = if o = 0 then 1 else o := by rw [hl, ho]; rfl
  have hsz2 := plen_bin k x y lv
  rw [← hl, ← ho] at hsz2
  obtain ⟨T, hT⟩ : ∃ T : ByteArray, T = ⟨(signP k).1.toArray⟩ := ⟨_, rfl⟩
  obtain ⟨SX, hSX⟩ : ∃ S : ByteArray, S = ⟨(printF x l).toArray⟩ := ⟨_, rfl⟩
  obtain ⟨SY, hSY⟩ : ∃ S : ByteArray, S = ⟨(printF y (o + 1)).toArray⟩ := ⟨_, rfl⟩
  have zT : T.size ≤ 2 := by
    rw [hT, size_length]
    rcases sign_cases h1 h2 with rfl | rfl | rfl | rfl | rfl | rfl | rfl <;> decide
  have zX : SX.size ≤ 1000000000 := by rw [hSX, size_length]; show plen x l ≤ _; omega
  have zY : SY.size ≤ 1000000000 := by rw [hSY, size_length]; show plen y (o + 1) ≤ _; omega
  have SG := fun W => sign_any k h1 h2 W
  rw [← ho, ← hT] at SG
  have SG := Lib.hid SG
  have cx := fun dd os => Go.Calls.regrown_of (IX (Go.Sort.grow (Go.redrawn W dd) os) l (by rw [hl2]; split <;> omega) (hbW.trans ((Go.below_regrown W dd os).mono hbW.size)))
  have cy := fun dd os => Go.Calls.regrown_of (IY (Go.Sort.grow (Go.redrawn W dd) os) (o + 1) (by omega) (hbW.trans ((Go.below_regrown W dd os).mono hbW.size)))
  rw [← hSX] at cx
  rw [← hSY] at cy
  have e8 : printF (.bin k x y) lv = if o < lv then [40] ++ (printF x l ++ [32] ++ (signP k).1 ++ [32] ++ printF y (o + 1)) ++ [41] else printF x l ++ [32] ++ (signP k).1 ++ [32] ++ printF y (o + 1) := by rw [ho, hl]; rfl
  have HE8 : Hid ((⟨(printF (.bin k x y) lv).toArray⟩ : ByteArray) = if o < lv then ⟨#[40]⟩ ++ (SX ++ ⟨#[32]⟩ ++ T ++ ⟨#[32]⟩ ++ SY) ++ ⟨#[41]⟩ else SX ++ ⟨#[32]⟩ ++ T ++ ⟨#[32]⟩ ++ SY) := Lib.hid (by
    rw [e8, hSX, hSY, hT]
    split
    · exact (bytes_of_list (by simp)).symm
    · exact (bytes_of_list (by simp)).symm)
  have hcell : ∀ i v, w.cell? ⟨b, i, none⟩ = some v → W.cell? ⟨b, i, none⟩ = some v := fun i v h => (hbW.cell (p := ⟨b, i, none⟩) hb).trans h
  have m0 := Go.cell_regrown (hcell _ _ a0)
  have m1 := Go.cell_regrown (hcell _ _ a1)
  have m2 := Go.cell_regrown (hcell _ _ a2)
  have m3 := Go.cell_regrown (hcell _ _ a3)
  have n0 := Go.cell_regrown (hcell _ _ d0)
  have n1 := Go.cell_regrown (hcell _ _ d1)
  have n2 := Go.cell_regrown (hcell _ _ d2)
  have n3 := Go.cell_regrown (hcell _ _ d3)
  have p3 : ∀ (d : Nat) (os : Array Obj), (Go.Sort.grow (Go.redrawn W d) os).cell? ⟨w.heap.size, 3, none⟩ = some (.slice (some ⟨b, off, none⟩) 2 c) := Go.cell_regrown (by rw [hW]; exact cell_of_row _ _ 3 _ 48 (0, 0) (heap_alloc_new _ _))
  have g1 : (k == 1) = false := by simp only [beq_eq_false_iff_ne]; omega
  have g2 : (k == 2) = false := by simp only [beq_eq_false_iff_ne]; omega
  have g3 : (k == 3) = false := by simp only [beq_eq_false_iff_ne]; omega
  have g4 : ¬ k < 4 := by omega
  have g5 : ¬ 10 < k := by omega
  have hwo : IntKind.i64.wrap ((o : Int) + 1) = (o : Int) + 1 := IntWalk.i64_in _ (by omega)
  have hoff : off + 4 = off + 1 * 4 := by omega
  have HW := Lib.hid hW
  have HBW := Lib.hid hbW
  have CX := Lib.hid cx
  have CY := Lib.hid cy
  have HL2 := Lib.hid hl2
  clear e8 hT hSX hSY hsz hsz2 IX IY cx cy hl ho hcell hW hbW a0 a1 a2 a3 d0 d1 d2 d3 h1 h2 hoff hl2
  have q1 : ¬ 9223372036854775807 < SX.size + 1 := by omega
  have q2 : ¬ 9223372036854775807 < SX.size + 1 + T.size := by omega
  have q3 : ¬ 9223372036854775807 < SX.size + 1 + T.size + 1 := by omega
  have q4 : ¬ 9223372036854775807 < SX.size + 1 + T.size + 1 + SY.size := by omega
  by_cases hz : o = 0
  · subst hz
    have hl1 : l = 1 := by have h := HL2.out; simpa using h
    subst hl1
    have cx1 : ∀ dd os, Calls Tryd.prog 51 #[.agg #[.int .i64 x.kind, .int .i64 x.num, .string x.nm, .slice B x.len cx], .int .i64 1] (Go.Sort.grow (Go.redrawn W dd) os) fun e w'' => e = .returned (.string SX) ∧ ∃ q : Go.Regrown, w'' = Go.Sort.grow (Go.redrawn W q.d) q.os := CX.out
    have cy1 : ∀ dd os, Calls Tryd.prog 51 #[.agg #[.int .i64 y.kind, .int .i64 y.num, .string y.nm, .slice D y.len cy], .int .i64 1] (Go.Sort.grow (Go.redrawn W dd) os) fun e w'' => e = .returned (.string SY) ∧ ∃ q : Go.Regrown, w'' = Go.Sort.grow (Go.redrawn W q.d) q.os := CY.out
    have SG1 : Hid (∀ W, Calls Tryd.prog 69 #[.int .i64 k] W fun e w' => e = .returned (.tuple #[.string T, .int .i64 0]) ∧ W = w') := Lib.hid SG.out
    have hw01 : IntKind.i64.wrap 1 = 1 := rfl
    clear SG hwo
    go_enter Tryd.func51, Tryd.ntmps51
    go_wp2_with (go_at_call 69; (with_reducible refine (SG1.out _).mono ?_); rintro e w2 ⟨rfl, rfl⟩)
    refine Go.wp_region_quiet_below (by kernel_rfl) (by kernel_rfl) ?_
    rw [← HW.out]
    repeat (quiet_step (first | (with_reducible exact cx1 _ _) | (with_reducible exact cy1 _ _)))
    refine wpQuiet_nil ?_
    intro _ hw'
    obtain ⟨⟨dq, osq⟩, hw''⟩ := hw'
    subst hw''
    have hbq := Go.below_regrown W dq osq
    have HBQ := Lib.hid (HBW.out.trans (hbq.mono HBW.out.size))
    clear hbq
    go_wp2_with fail
    · go_ret
      refine ⟨(congrArg (fun s => Ending.returned (.string s)) ?_ : Ending.returned (.string (⟨#[40]⟩ ++ (SX ++ ⟨#[32]⟩ ++ T ++ ⟨#[32]⟩ ++ SY) ++ ⟨#[41]⟩)) = _), HBQ.out⟩
      rw [HE8.out, if_pos (by omega)]
    · go_ret
      refine ⟨(congrArg (fun s => Ending.returned (.string s)) ?_ : Ending.returned (.string (SX ++ ⟨#[32]⟩ ++ T ++ ⟨#[32]⟩ ++ SY)) = _), HBQ.out⟩
      rw [HE8.out, if_neg (by omega)]
  · have gz : ((o : Int) == 0) = false := by simp only [beq_eq_false_iff_ne]; omega
    have hl1 : l = o := by have h := HL2.out; rw [if_neg hz] at h; exact h
    subst hl1
    have cx1 := CX.out
    have cy1 := CY.out
    simp only [Int.natCast_add, Int.natCast_one] at cy1
    clear hz
    go_enter Tryd.func51, Tryd.ntmps51
    go_wp2_with (go_at_call 69; (with_reducible refine (SG.out _).mono ?_); rintro e w2 ⟨rfl, rfl⟩)
    refine Go.wp_region_quiet_below (by kernel_rfl) (by kernel_rfl) ?_
    rw [← HW.out]
    repeat (quiet_step (first | (with_reducible exact cx1 _ _) | (with_reducible exact cy1 _ _)))
    refine wpQuiet_nil ?_
    intro _ hw'
    obtain ⟨⟨dq, osq⟩, hw''⟩ := hw'
    subst hw''
    have hbq := Go.below_regrown W dq osq
    have HBQ := Lib.hid (HBW.out.trans (hbq.mono HBW.out.size))
    clear hbq
    go_wp2_with fail
    · go_ret
      refine ⟨(congrArg (fun s => Ending.returned (.string s)) ?_ : Ending.returned (.string (⟨#[40]⟩ ++ (SX ++ ⟨#[32]⟩ ++ T ++ ⟨#[32]⟩ ++ SY) ++ ⟨#[41]⟩)) = _), HBQ.out⟩
      rw [HE8.out, if_pos (by omega)]
    · go_ret
      refine ⟨(congrArg (fun s => Ending.returned (.string s)) ?_ : Ending.returned (.string (SX ++ ⟨#[32]⟩ ++ T ++ ⟨#[32]⟩ ++ SY)) = _), HBQ.out⟩
      rw [HE8.out, if_neg (by omega)]

theorem printed_any (e : Ex) : ∀ (ok : Nat → Prop) (w : World) (sl : Value) (lv : Nat), wfE e → OfAt ok w e sl → plen e lv ≤ 1000000000 → Env w →
    Calls Tryd.prog 51 #[.agg #[.int .i64 e.kind, .int .i64 e.num, .string e.nm, sl], .int .i64 lv] w fun e' w' => e' = .returned (.string ⟨(printF e lv).toArray⟩) ∧ Below w.heap.size w w' := by
  induction e with
  | leaf k n nm =>
    intro ok w sl lv hw hO _ hE
    obtain ⟨A, c, rfl, _⟩ := hO
    exact printed_leaf k n nm hw.1 hw.2 A c lv w hE
  | un k a ih =>
    intro ok w sl lv hw hO hsz hE
    obtain ⟨rfl, hw⟩ := hw
    obtain ⟨b, off, c, sa, rfl, h1, h2, h3, h4, h5, h6⟩ := hO
    obtain ⟨B, cc, rfl, _, _⟩ := h6.slice
    have hsz' : plen a 3 ≤ 1000000000 := by simp only [plen, printF, List.length_cons] at hsz ⊢; omega
    exact printed_un a B cc b off c lv w h4 h5 hsz' (fun W hW => ih ok W _ 3 hw (h6.below hW (Nat.le_refl _)) hsz' (hE.below hW hE.size))
  | bin k x y i1 i2 =>
    intro ok w sl lv hw hO hsz hE
    obtain ⟨h1, h2, hx, hy⟩ := hw
    obtain ⟨b, off, c, sx, sy, rfl, p1, p2, p3, p4, p5, p6, p7, p8⟩ := hO
    obtain ⟨B, cx, rfl, _, _⟩ := p7.slice
    obtain ⟨D, cy, rfl, _, _⟩ := p8.slice
    have hb := plen_bin k x y lv
    exact printed_bin k h1 h2 x y B D cx cy b off c lv w p4 p5 p6 hsz
      (fun W l _ hW => i1 ok W _ l hx (p7.below hW (Nat.le_refl _)) (by have := plen_par x l; have := plen_mono x (Nat.zero_le (leftL k)); omega) (hE.below hW hE.size))
      (fun W l _ hW => i2 ok W _ l hy (p8.below hW (Nat.le_refl _)) (by have := plen_par y l; have := plen_mono y (Nat.zero_le (ownL k + 1)); omega) (hE.below hW hE.size))
end Go.Proofs.YtgkfmeccipgnjaaDoor
