/- ExprParens: the walk. -/
import Derived.Test.YtgkfmeccipgnjaaDoorOb
import Derived.Test.YtgkfmeccipgnjaaDoorEo
namespace Go.Proofs.YtgkfmeccipgnjaaDoor
open Go.RowKit

theorem read24_gen (s : ByteArray) (hs : s.size ≤ maxLen) (X : Ex) (h : ∀ ts x r, lexAll s.data.toList = .good ts → readF ts = .ok x r → x = X) :
    ∃ o : Bool, ∀ W, Env W → Calls Tryd.prog 24 #[.string s] W fun e w' => ∃ (x : Ex) (A : Option Addr) (c q n : Nat), e = .returned (.tuple #[.agg #[.int .i64 x.kind, .int .i64 x.num, .string x.nm, .slice A x.len c], .int .i64 q, .bool o, .int .i64 n]) ∧ OfAt (W.heap.size ≤ ·) w' x (.slice A x.len c) ∧ Below W.heap.size W w' ∧ (o = true → x = X) := by
  by_cases hh : ∃ ts x r, lexAll s.data.toList = .good ts ∧ readF ts = .ok x r
  · obtain ⟨ts, x, r, h1, h2⟩ := hh
    refine ⟨true, fun W hE => (read24_ok s hs W hE h1 h2).mono fun e w' ⟨A, c, q, he, hO, hB, _, _⟩ => ⟨x, A, c, q, ts.length, he, hO, hB, fun _ => h ts x r h1 h2⟩⟩
  · refine ⟨false, fun W hE => (read24_no s hs W hE (fun ts x r h1 h2 => hh ⟨ts, x, r, h1, h2⟩)).mono fun e w' ⟨x, A, c, q, n, he, _, hO, hB⟩ => ⟨x, A, c, q, n, he, hO, hB, fun h => by cases h⟩⟩

set_option maxRecDepth 100000 in
set_option maxHeartbeats 4000000 in
theorem exprParens_none (W0 : World) (hE : Env W0) (v : Value) (zs : List Int) (hv : IntsAt W0 v zs) (hp : printP (handE 6 zs) = []) :
    Calls Tryd.prog 10 #[v] W0 fun e w' => e = .returned (.bool true) ∧ Below W0.heap.size W0 w' := by
  have hH := hand_any 6 (Nat.le_refl _) zs v W0 0 hv rfl
  obtain ⟨E, hEe⟩ : ∃ E, E = handE 6 zs := ⟨_, rfl⟩
  have hw := handE_wf 6 zs
  have hsz : plen (handE 6 zs) 0 ≤ 1000000000 := Nat.le_trans (handE_size 6 zs 0) (by decide)
  unfold HPost at hH
  rw [← hEe] at hH hp hw hsz
  have HH := Lib.hid hH
  have hPR := fun (W : World) (hW : Below W0.heap.size W0 W) (ok : Nat → Prop) (A : Option Addr) (c : Nat) (h : OfAt ok W E (.slice A E.len c)) => print_any E ok A c W ⟨hw, h, hsz⟩ (hE.below hW hE.size)
  rw [hp] at hPR
  have HPR := Lib.hid hPR
  have hRT := fun (W : World) (hW : Below W0.heap.size W0 W) (ok : Nat → Prop) (A : Option Addr) (c : Nat) (h : OfAt ok W E (.slice A E.len c)) => right_any E ok A c W ⟨hw, h, hsz⟩ (hE.below hW hE.size)
  rw [show rightB E = false by rw [rightB, hp]; rfl] at hRT
  have HRT := Lib.hid hRT
  have HK := Lib.hid (fun (W : World) (hW : Below W0.heap.size W0 W) => known4 W (hE.below hW hE.size))
  clear hH hPR hRT hE hv hp hw hsz hEe
  go_enter Tryd.func10, Tryd.ntmps10
  go_wp2_with fail
  refine HH.out.mono ?_
  rintro e1 w1 ⟨A, c, rfl, hO, hb1⟩
  have hz1 := hb1.size
  have hal : Below w1.heap.size w1 (w1.alloc (.cells #[.int .i64 E.kind, .int .i64 E.num, .string E.nm, .slice A E.len c] 48)) := (Below.refl _ _).alloc (Nat.le_refl _) _
  have HO := Lib.hid (hO.below hal (Nat.le_refl _))
  have HB1 := Lib.hid (hb1.trans (hal.mono hz1))
  clear hO hb1 hal
  go_wp2_with fail
  refine (HPR.out _ (by exact HB1.out) _ _ _ HO.out).mono ?_
  rintro e2 w2 ⟨rfl, hb2⟩
  have hz2 : w1.heap.size < w2.heap.size := by have := hb2.size; simp at this; omega
  have HX2 := Lib.hid ((hb2.block w1.heap.size (by simp)).trans (heap_alloc_new w1 (.cells #[.int .i64 E.kind, .int .i64 E.num, .string E.nm, .slice A E.len c] 48)))
  have HO2 := Lib.hid (HO.out.below hb2 (Nat.le_refl _))
  have HB2 := Lib.hid (HB1.out.trans (hb2.mono HB1.out.size))
  clear hb2
  go_wp2_with fail
  refine (HK.out _ (by exact HB2.out)).mono ?_
  rintro e3 w3 ⟨rfl, hb3⟩
  have HX3 := Lib.hid ((hb3.block w1.heap.size hz2).trans HX2.out)
  have HO3 := Lib.hid (HO2.out.below hb3 (Nat.le_refl _))
  have HB3 := Lib.hid (HB2.out.trans (hb3.mono HB2.out.size))
  clear hb3
  obtain ⟨m0, m1, m2, m3⟩ := ex_facts HX3.out
  go_wp2_with fail
  refine (HRT.out _ (by exact HB3.out) _ _ _ HO3.out).mono ?_
  rintro e4 w4 ⟨rfl, hb4⟩
  have HB4 := Lib.hid (HB3.out.trans (hb4.mono HB3.out.size))
  clear hb4
  go_wp2_with fail
  go_ret
  exact ⟨rfl, HB4.out⟩

set_option maxRecDepth 100000 in
set_option maxHeartbeats 8000000 in
theorem exprParens_some (W0 : World) (hE : Env W0) (v : Value) (zs : List Int) (hv : IntsAt W0 v zs) (hp : printP (handE 6 zs) ≠ []) :
    Calls Tryd.prog 10 #[v] W0 fun e w' => e = .returned (.bool true) ∧ Below W0.heap.size W0 w' := by
  have hH := hand_any 6 (Nat.le_refl _) zs v W0 0 hv rfl
  obtain ⟨E, hEe⟩ : ∃ E, E = handE 6 zs := ⟨_, rfl⟩
  have hw := handE_wf 6 zs
  have hsz : plen (handE 6 zs) 0 ≤ 1000000000 := Nat.le_trans (handE_size 6 zs 0) (by decide)
  unfold HPost at hH
  rw [← hEe] at hH hp hw hsz
  obtain ⟨hg, _, hpl, hpr⟩ := print_some hp
  obtain ⟨P, hP⟩ : ∃ P : ByteArray, P = ⟨(printP E).toArray⟩ := ⟨_, rfl⟩
  have hPl : P.data.toList = printF E 0 := by rw [hP, hpr]
  have hPe : P.toList.isEmpty = false := by
    rw [toList_data, hPl]
    have := printF_ne hg 0
    cases hx : printF E 0 with
    | nil => exact absurd hx this
    | cons a l => rfl
  have hPs : P.size ≤ 6000 := by rw [size_length, hPl]; exact hpl
  have z1 : (⟨#[40]⟩ : ByteArray).size = 1 := rfl
  have z2 : (⟨#[41]⟩ : ByteArray).size = 1 := rfl
  have z3 : (⟨#[45, 40]⟩ : ByteArray).size = 2 := rfl
  obtain ⟨o1, R1⟩ := read24_gen (⟨#[40]⟩ ++ P ++ ⟨#[41]⟩) (by simp only [ByteArray.size_append]; unfold maxLen; omega) E (fun ts x r h1 h2 => by
    rw [show (⟨#[40]⟩ ++ P ++ ⟨#[41]⟩ : ByteArray).data.toList = 40 :: (printF E 0 ++ [41]) by simp [ByteArray.data_append, hPl]] at h1
    exact parens_law hp h1 h2)
  obtain ⟨o2, R2⟩ := read24_gen (⟨#[45, 40]⟩ ++ P ++ ⟨#[41]⟩) (by simp only [ByteArray.size_append]; unfold maxLen; omega) (.un 3 E) (fun ts x r h1 h2 => by
    rw [show (⟨#[45, 40]⟩ ++ P ++ ⟨#[41]⟩ : ByteArray).data.toList = 45 :: 40 :: (printF E 0 ++ [41]) by simp [ByteArray.data_append, hPl]] at h1
    exact minus_law hp h1 h2)
  have HR1 := Lib.hid (fun (W : World) (hW : Below W0.heap.size W0 W) => R1 W (hE.below hW hE.size))
  have HR2 := Lib.hid (fun (W : World) (hW : Below W0.heap.size W0 W) => R2 W (hE.below hW hE.size))
  have HH := Lib.hid hH
  have hPR := fun (W : World) (hW : Below W0.heap.size W0 W) (ok : Nat → Prop) (A : Option Addr) (c : Nat) (h : OfAt ok W E (.slice A E.len c)) => print_any E ok A c W ⟨hw, h, hsz⟩ (hE.below hW hE.size)
  rw [← hP] at hPR
  have HPR := Lib.hid hPR
  have HK := Lib.hid (fun (W : World) (hW : Below W0.heap.size W0 W) => known4 W (hE.below hW hE.size))
  clear hH hPR hE hv hp hw hsz hEe hg hpl hpr hP hPl z1 z2 z3 R1 R2
  cases o1 <;> cases o2
  all_goals
    go_enter Tryd.func10, Tryd.ntmps10
    go_wp2_with fail
    refine HH.out.mono ?_
    rintro e1 w1 ⟨A, c, rfl, hO, hb1⟩
    have hz1 := hb1.size
    have hal : Below w1.heap.size w1 (w1.alloc (.cells #[.int .i64 E.kind, .int .i64 E.num, .string E.nm, .slice A E.len c] 48)) := (Below.refl _ _).alloc (Nat.le_refl _) _
    have HO := Lib.hid (hO.below hal (Nat.le_refl _))
    have HB1 := Lib.hid (hb1.trans (hal.mono hz1))
    clear hO hb1 hal
    go_wp2_with fail
    refine (HPR.out _ (by exact HB1.out) _ _ _ HO.out).mono ?_
    rintro e2 w2 ⟨rfl, hb2⟩
    have hz2 : w1.heap.size < w2.heap.size := by have := hb2.size; simp at this; omega
    have HX2 := Lib.hid ((hb2.block w1.heap.size (by simp)).trans (heap_alloc_new w1 (.cells #[.int .i64 E.kind, .int .i64 E.num, .string E.nm, .slice A E.len c] 48)))
    have HO2 := Lib.hid (HO.out.below hb2 (Nat.le_refl _))
    have HB2 := Lib.hid (HB1.out.trans (hb2.mono HB1.out.size))
    clear hb2
    go_wp2_with fail
    refine (HR1.out _ (by exact HB2.out)).mono ?_
    rintro e3 w3 ⟨x, B, cb, q, n, rfl, hOx, hb3, hx⟩
    have hz3 := hb3.size
    have hal3 : Below w3.heap.size w3 (w3.alloc (.cells #[.int .i64 x.kind, .int .i64 x.num, .string x.nm, .slice B x.len cb] 48)) := (Below.refl _ _).alloc (Nat.le_refl _) _
    have HX3 := Lib.hid ((hal3.block _ (by omega)).trans ((hb3.block w1.heap.size hz2).trans HX2.out))
    have HO3 := Lib.hid ((HO2.out.below hb3 (Nat.le_refl _)).below hal3 (Nat.le_refl _))
    have HOX3 := Lib.hid (hOx.below hal3 (Nat.le_refl _))
    have HXE := Lib.hid hx
    have HB3 := Lib.hid ((HB2.out.trans (hb3.mono HB2.out.size)).trans (hal3.mono (Nat.le_trans HB2.out.size hz3)))
    clear hb3 hal3 hOx hx
    go_wp2_with fail
    refine (HR2.out _ (by exact HB3.out)).mono ?_
    rintro e4 w4 ⟨y, D, cd, q', n', rfl, hOy, hb4, hy⟩
    have hz4 : w3.heap.size < w4.heap.size := by have := hb4.size; simp at this; omega
    have hal4 : Below w4.heap.size w4 (w4.alloc (.cells #[.int .i64 y.kind, .int .i64 y.num, .string y.nm, .slice D y.len cd] 48)) := (Below.refl _ _).alloc (Nat.le_refl _) _
    have HX4 := Lib.hid ((hal4.block w1.heap.size (by omega)).trans ((hb4.block w1.heap.size (by simp; omega)).trans HX3.out))
    have HXX4 := Lib.hid ((hal4.block w3.heap.size hz4).trans ((hb4.block w3.heap.size (by simp)).trans (heap_alloc_new w3 (.cells #[.int .i64 x.kind, .int .i64 x.num, .string x.nm, .slice B x.len cb] 48))))
    have HO4 := Lib.hid ((HO3.out.below hb4 (Nat.le_refl _)).below hal4 (Nat.le_refl _))
    have HOX4 := Lib.hid ((HOX3.out.below hb4 (Nat.le_refl _)).below hal4 (Nat.le_refl _))
    have HOY4 := Lib.hid (hOy.below hal4 (Nat.le_refl _))
    have HYE := Lib.hid hy
    have HB4 := Lib.hid ((HB3.out.trans (hb4.mono HB3.out.size)).trans (hal4.mono (Nat.le_trans HB3.out.size hb4.size)))
    clear hb4 hal4 hOy hy
    go_wp2_with fail
    refine (HK.out _ (by exact HB4.out)).mono ?_
    rintro e5 w5 ⟨rfl, hb5⟩
    have hz5 : w4.heap.size < w5.heap.size := by have := hb5.size; simp at this; omega
    have HB5 := Lib.hid (HB4.out.trans (hb5.mono HB4.out.size))
    have HX5 := Lib.hid ((hb5.block w1.heap.size (by simp; omega)).trans HX4.out)
    have HXX5 := Lib.hid ((hb5.block w3.heap.size (by simp; omega)).trans HXX4.out)
    have HYY5 := Lib.hid ((hb5.block w4.heap.size (by simp)).trans (heap_alloc_new w4 (.cells #[.int .i64 y.kind, .int .i64 y.num, .string y.nm, .slice D y.len cd] 48)))
    have HO5 := Lib.hid (HO4.out.below hb5 (Nat.le_refl _))
    have HOX5 := Lib.hid (HOX4.out.below hb5 (Nat.le_refl _))
    have HOY5 := Lib.hid (HOY4.out.below hb5 (Nat.le_refl _))
    clear hb5
  · go_wp2_with fail
    go_ret
    exact ⟨rfl, HB5.out⟩
  · go_wp2_with fail
    go_ret
    exact ⟨rfl, HB5.out⟩
  · go_wp2_with fail
    go_ret
    exact ⟨rfl, HB5.out⟩
  · have hS1 := refsame_any x E _ _ w5 B A cb c HOX5.out HO5.out
    rw [show decide (x = E) = true by rw [decide_eq_true_eq]; exact HXE.out trivial] at hS1
    have HS1 := Lib.hid hS1
    have HS2 := Lib.hid (fun (ok : Nat → Prop) (W : World) (g : Nat) (hy : OfAt ok W y (.slice D y.len cd)) (hg : OfAt (W0.heap.size ≤ ·) W (.un 3 E) (.slice (some ⟨g, 0, none⟩) 1 1)) => by
      have h := refsame_any y (.un 3 E) _ _ W D (some ⟨g, 0, none⟩) cd 1 hy hg
      rw [show decide (y = .un 3 E) = true by rw [decide_eq_true_eq]; exact HYE.out trivial] at h
      exact h)
    clear hS1
    obtain ⟨m0, m1, m2, m3⟩ := ex_facts HX5.out
    obtain ⟨n0, n1, n2, n3⟩ := ex_facts HXX5.out
    go_wp2_with fail
    refine HS1.out.mono ?_
    rintro e6 w6 ⟨rfl, hb6⟩
    have hz6 := hb6.size
    have HB6 := Lib.hid (HB5.out.trans (hb6.mono HB5.out.size))
    have HX6 := Lib.hid ((hb6.block w1.heap.size (by omega)).trans HX5.out)
    have HYY6 := Lib.hid ((hb6.block w4.heap.size (by omega)).trans HYY5.out)
    have HO6 := Lib.hid (HO5.out.below hb6 (Nat.le_refl _))
    have HOY6 := Lib.hid (HOY5.out.below hb6 (Nat.le_refl _))
    clear hb6 m0 m1 m2 m3 n0 n1 n2 n3
    obtain ⟨m0, m1, m2, m3⟩ := ex_facts HX6.out
    obtain ⟨n0, n1, n2, n3⟩ := ex_facts HYY6.out
    go_wp2_with fail
    have hal6 : Below w6.heap.size w6 (w6.alloc (.cells #[.int .i64 E.kind, .int .i64 E.num, .string E.nm, .slice A E.len c] 48)) := (Below.refl _ _).alloc (Nat.le_refl _) _
    have HB7 := Lib.hid (HB6.out.trans (hal6.mono HB6.out.size))
    have hOE : OfAt (W0.heap.size ≤ ·) (w6.alloc (.cells #[.int .i64 E.kind, .int .i64 E.num, .string E.nm, .slice A E.len c] 48)) (.un 3 E) (.slice (some ⟨w6.heap.size, 0, none⟩) 1 1) :=
      of_un HO6.out HB6.out.size (by simp) (fun k _ h2 => heap_alloc_old _ _ h2) (heap_alloc_new w6 _)
    refine (HS2.out _ _ _ (HOY6.out.below hal6 (Nat.le_refl _)) hOE).mono ?_
    rintro e7 w7 ⟨rfl, hb7⟩
    have HB8 := Lib.hid (HB7.out.trans (hb7.mono HB7.out.size))
    clear hb7 hal6 hOE
    go_wp2_with fail
    go_ret
    exact ⟨rfl, HB8.out⟩

theorem exprParens_walk (W0 : World) (hE : Env W0) (v : Value) (zs : List Int) (hv : IntsAt W0 v zs) :
    Calls Tryd.prog 10 #[v] W0 fun e w' => e = .returned (.bool true) ∧ Below W0.heap.size W0 w' := by
  by_cases hp : printP (handE 6 zs) = []
  · exact exprParens_none W0 hE v zs hv hp
  · exact exprParens_some W0 hE v zs hv hp
end Go.Proofs.YtgkfmeccipgnjaaDoor
