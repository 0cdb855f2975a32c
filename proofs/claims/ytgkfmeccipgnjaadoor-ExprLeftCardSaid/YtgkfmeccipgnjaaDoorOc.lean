/- ExprLeft: the walk. -/
import Derived.Test.YtgkfmeccipgnjaaDoorOb
namespace Go.Proofs.YtgkfmeccipgnjaaDoor
open Go.RowKit

theorem zero_wf : wfE Ex.zero := by simp [wfE, Ex.zero]
theorem zero_print : printP Ex.zero = [] := by decide +kernel
theorem zero_plen : plen Ex.zero 0 ≤ 1000000000 := by decide +kernel

/-- The text in parentheses, an operator, two numbers. -/
def leftT (P O : ByteArray) : ByteArray := ⟨#[40]⟩ ++ P ++ ⟨#[41, 32]⟩ ++ O ++ ⟨#[32, 51, 32, 45, 32, 52]⟩
theorem leftT_list (P O : ByteArray) (L M : List UInt8) (hP : P.data.toList = L) (hO : O.data.toList = M) : (leftT P O).data.toList = 40 :: (L ++ (41 :: 32 :: (M ++ 32 :: [51, 32, 45, 32, 52]))) := by
  simp [leftT, ByteArray.data_append, hP, hO]
def opS (k : Nat) : ByteArray := ⟨(signP ((4 + k : Nat) : Int)).1.toArray⟩
theorem index57 (k : Nat) (hk : k < 5) (Z : World) : (Instr.index 57 (.agg #[.string ⟨#[43]⟩, .string ⟨#[45]⟩, .string ⟨#[42]⟩, .string ⟨#[47]⟩, .string ⟨#[37]⟩]) (.int .i64 k)).run Tryd.prog Z = .ok (.string (opS k)) Z := by
  obtain rfl | rfl | rfl | rfl | rfl : k = 0 ∨ k = 1 ∨ k = 2 ∨ k = 3 ∨ k = 4 := by omega
  all_goals kernel_rfl
theorem index58 (k : Nat) (hk : k < 5) (Z : World) : (Instr.index 58 (.agg #[.int .i64 4, .int .i64 5, .int .i64 6, .int .i64 7, .int .i64 8]) (.int .i64 k)).run Tryd.prog Z = .ok (.int .i64 ((4 + k : Nat) : Int)) Z := by
  obtain rfl | rfl | rfl | rfl | rfl : k = 0 ∨ k = 1 ∨ k = 2 ∨ k = 3 ∨ k = 4 := by omega
  all_goals kernel_rfl

theorem four_below {w : World} {o1 o2 o3 o4 : Obj} : Below w.heap.size w ((((w.alloc o1).alloc o2).alloc o3).alloc o4).drew := below_drewN (((((Below.refl _ _).alloc (Nat.le_refl _) _).alloc (by simp) _).alloc (by simp; omega) _).alloc (by simp; omega) _) 1
theorem four_two {w : World} {o1 o2 o3 o4 : Obj} : ((((w.alloc o1).alloc o2).alloc o3).alloc o4).drew.heap[w.heap.size + 1]? = some o2 := (heap_alloc_old _ _ (by simp)).trans ((heap_alloc_old _ _ (by simp)).trans (heap_alloc_newE _ _ (by simp)))
theorem four_three {w : World} {o1 o2 o3 o4 : Obj} : ((((w.alloc o1).alloc o2).alloc o3).alloc o4).drew.heap[w.heap.size + 1 + 1]? = some o3 := (heap_alloc_old _ _ (by simp)).trans (heap_alloc_newE _ _ (by simp))
theorem four_four {w : World} {o1 o2 o3 o4 : Obj} : ((((w.alloc o1).alloc o2).alloc o3).alloc o4).drew.heap[w.heap.size + 1 + 1 + 1]? = some o4 := heap_alloc_newE _ _ (by simp)
theorem block_lt {W : World} {g : Nat} {o : Obj} (h : W.heap[g]? = some o) : g < W.heap.size := by
  rcases Nat.lt_or_ge g W.heap.size with hlt | hge
  · exact hlt
  · rw [Array.getElem?_eq_none hge] at h; cases h
theorem of_left {ok : Nat → Prop} {W : World} {x : Ex} {kk : Int} {A : Option Addr} {c g h : Nat} (hx : OfAt ok W x (.slice A x.len c)) (hg : W.heap[g]? = some (.cells #[.int .i64 x.kind, .int .i64 x.num, .string x.nm, .slice A x.len c, .int .i64 1, .int .i64 3, .string ⟨#[]⟩, .slice none 0 0] 48 (0, 0)))
    (hh : W.heap[h]? = some (.cells #[.int .i64 kk, .int .i64 0, .string ⟨#[]⟩, .slice (some ⟨g, 0, none⟩) 2 2, .int .i64 1, .int .i64 4, .string ⟨#[]⟩, .slice none 0 0] 48 (0, 0))) :
    OfAt (fun _ => True) W (.bin 5 (.bin kk x (.leaf 1 3 [])) (.leaf 1 4 [])) (.slice (some ⟨h, 0, none⟩) 2 2) := by
  refine ⟨h, 0, 2, .slice (some ⟨g, 0, none⟩) 2 2, .slice none 0 0, rfl, by omega, by omega, trivial, block_lt hh, ?_, ?_, ?_, ⟨none, 0, rfl, by omega⟩⟩
  · exact ⟨cell_of_row _ _ 0 _ 48 (0, 0) hh, cell_of_row _ _ 1 _ 48 (0, 0) hh, cell_of_row _ _ 2 _ 48 (0, 0) hh, cell_of_row _ _ 3 _ 48 (0, 0) hh⟩
  · exact ⟨cell_of_row _ _ 4 _ 48 (0, 0) hh, cell_of_row _ _ 5 _ 48 (0, 0) hh, cell_of_row _ _ 6 _ 48 (0, 0) hh, cell_of_row _ _ 7 _ 48 (0, 0) hh⟩
  · refine ⟨g, 0, 2, .slice A x.len c, .slice none 0 0, rfl, by omega, by omega, trivial, block_lt hg, ?_, ?_, hx.low (fun _ _ _ => trivial), ⟨none, 0, rfl, by omega⟩⟩
    · exact ⟨cell_of_row _ _ 0 _ 48 (0, 0) hg, cell_of_row _ _ 1 _ 48 (0, 0) hg, cell_of_row _ _ 2 _ 48 (0, 0) hg, cell_of_row _ _ 3 _ 48 (0, 0) hg⟩
    · exact ⟨cell_of_row _ _ 4 _ 48 (0, 0) hg, cell_of_row _ _ 5 _ 48 (0, 0) hg, cell_of_row _ _ 6 _ 48 (0, 0) hg, cell_of_row _ _ 7 _ 48 (0, 0) hg⟩

set_option maxRecDepth 100000 in
set_option maxHeartbeats 4000000 in
theorem exprLeft_no (W0 : World) (hE : Env W0) (v : Value) (zs : List Int) (hv : IntsAt W0 v zs) (op : Int) (h : ∀ ts x r, lexAll (text4B zs).data.toList = .good ts → readF ts ≠ .ok x r) :
    Calls Tryd.prog 11 #[v, .int .i64 op] W0 fun e w' => e = .returned (.bool true) ∧ Below W0.heap.size W0 w' := by
  have hz := text4_size zs
  have h47 := hv.1
  have hT := text4_any v zs W0 hv
  obtain ⟨S, hS⟩ : ∃ S, S = text4B zs := ⟨_, rfl⟩
  rw [← hS] at hT hz h
  have HT := Lib.hid hT
  have HR := Lib.hid (fun (W : World) (hW : Below W0.heap.size W0 W) => read24_no S (by unfold maxLen; omega) W (hE.below hW hE.size) h)
  have HK := Lib.hid (fun (W : World) (hW : Below W0.heap.size W0 W) => known4 W (hE.below hW hE.size))
  have hPZ := fun (W : World) (hW : Below W0.heap.size W0 W) (x : Ex) (hx : x = Ex.zero) (ok : Nat → Prop) (A : Option Addr) (c : Nat) (h : OfAt ok W x (.slice A x.len c)) => print_any x ok A c W ⟨by rw [hx]; exact zero_wf, h, by rw [hx]; exact zero_plen⟩ (hE.below hW hE.size)
  have HPZ := Lib.hid hPZ
  clear hT hS h hE hv hPZ
  go_enter Tryd.func11, Tryd.ntmps11
  go_wp2_with fail
  refine HT.out.mono ?_
  rintro e1 w1 ⟨rfl, hb1⟩
  have HB1 := Lib.hid hb1
  clear hb1
  go_wp2_with fail
  refine (HR.out w1 HB1.out).mono ?_
  rintro e2 w2 ⟨x, A, c, q, n, rfl, hx, hO, hb2⟩
  have HB2 := Lib.hid (HB1.out.trans (hb2.mono HB1.out.size))
  have hal : Below w2.heap.size w2 (w2.alloc (.cells #[.int .i64 x.kind, .int .i64 x.num, .string x.nm, .slice A x.len c] 48)) := (Below.refl _ _).alloc (Nat.le_refl _) _
  have HO := Lib.hid (hO.below hal (Nat.le_refl _))
  have HX := Lib.hid hx
  have hz2 := HB2.out.size
  have HB2' := Lib.hid (HB2.out.trans (hal.mono hz2))
  clear hb2 hO hx hal
  go_wp2_with fail
  refine (HPZ.out _ (by exact HB2'.out) x HX.out _ _ _ HO.out).mono ?_
  rintro e3 w3 ⟨rfl, hb3⟩
  have HB3 := Lib.hid (HB2'.out.trans (hb3.mono HB2'.out.size))
  clear hb3
  go_wp2_with fail
  refine (HK.out _ (by exact HB3.out)).mono ?_
  rintro e4 w4 ⟨rfl, hb4⟩
  have HB4 := Lib.hid (HB3.out.trans (hb4.mono HB3.out.size))
  clear hb4
  go_wp2_with fail
  refine (HK.out _ (by exact HB4.out)).mono ?_
  rintro e5 w5 ⟨rfl, hb5⟩
  have HB5 := Lib.hid (HB4.out.trans (hb5.mono HB4.out.size))
  clear hb5
  go_wp2_with fail
  go_ret
  exact ⟨rfl, HB5.out⟩


set_option maxRecDepth 100000 in
set_option maxHeartbeats 4000000 in
theorem exprLeft_deep (W0 : World) (hE : Env W0) (v : Value) (zs : List Int) (hv : IntsAt W0 v zs) (op : Int) {ts : List Tok} {x : Ex} {r : List Tok} (h1 : lexAll (text4B zs).data.toList = .good ts) (h2 : readF ts = .ok x r) (hne : printP x ≠ [])
    (h3 : ∀ (k : Nat) (P O : ByteArray), op % 5 = k → k < 5 → (leftT P O).data.toList = 40 :: (printF x 0 ++ (41 :: 32 :: ((signP ((4 + k : Nat) : Int)).1 ++ 32 :: [51, 32, 45, 32, 52]))) → ∀ ts x r, lexAll (leftT P O).data.toList = .good ts → readF ts ≠ .ok x r) :
    Calls Tryd.prog 11 #[v, .int .i64 op] W0 fun e w' => e = .returned (.bool true) ∧ Below W0.heap.size W0 w' := by
  have hz := text4_size zs
  have h47 := hv.1
  have hT := text4_any v zs W0 hv
  obtain ⟨k, hk2⟩ : ∃ k : Nat, op % 5 = k := ⟨(op % 5).toNat, by have := Int.emod_nonneg op (b := 5) (by decide); omega⟩
  have hk5 : k < 5 := by have := Int.emod_lt_of_pos op (b := 5) (by decide); omega
  obtain ⟨hg, hnd, hpl, hpr⟩ := print_some hne
  have hwf := hg.wf
  obtain ⟨P, hP⟩ : ∃ P : ByteArray, P = ⟨(printP x).toArray⟩ := ⟨_, rfl⟩
  have hPl : P.data.toList = printF x 0 := by rw [hP, hpr]
  have hPe : P.toList.isEmpty = false := by
    rw [toList_data, hPl]
    have := printF_ne hg 0
    cases hx : printF x 0 with
    | nil => exact absurd hx this
    | cons a l => rfl
  have hPs : P.size ≤ 6000 := by rw [size_length, hPl]; exact hpl
  obtain ⟨O, hO⟩ : ∃ O, O = opS k := ⟨_, rfl⟩
  have hOs : O.size ≤ 1 := by
    rw [hO]
    match k, hk5 with
    | 0, _ => decide
    | 1, _ => decide
    | 2, _ => decide
    | 3, _ => decide
    | 4, _ => decide
  have hTT := leftT_list P O _ _ hPl (show O.data.toList = (signP ((4 + k : Nat) : Int)).1 by rw [hO]; rfl)
  have hTs : (leftT P O).size ≤ maxLen := by
    simp only [leftT, ByteArray.size_append]
    unfold maxLen
    have e1 : (⟨#[40]⟩ : ByteArray).size = 1 := rfl
    have e2 : (⟨#[41, 32]⟩ : ByteArray).size = 2 := rfl
    have e3 : (⟨#[32, 51, 32, 45, 32, 52]⟩ : ByteArray).size = 6 := rfl
    omega
  have i57 := fun Z => index57 k hk5 Z
  rw [← hO] at i57
  have i58 := fun Z => index58 k hk5 Z
  have hr2 := h3 k P O hk2 hk5 hTT
  obtain ⟨S, hS⟩ : ∃ S, S = text4B zs := ⟨_, rfl⟩
  rw [← hS] at hT hz h1
  have HT := Lib.hid hT
  have HR := Lib.hid (fun (W : World) (hW : Below W0.heap.size W0 W) => read24_ok S (by unfold maxLen; omega) W (hE.below hW hE.size) h1 h2)
  have HK := Lib.hid (fun (W : World) (hW : Below W0.heap.size W0 W) => known4 W (hE.below hW hE.size))
  have hPR := fun (W : World) (hW : Below W0.heap.size W0 W) (ok : Nat → Prop) (A : Option Addr) (c : Nat) (h : OfAt ok W x (.slice A x.len c)) => print_any x ok A c W ⟨hwf, h, by omega⟩ (hE.below hW hE.size)
  rw [← hP] at hPR
  have HPR := Lib.hid hPR
  have htl : 1 ≤ ts.length := by
    have := (lex_ended h1).ne
    cases ts with
    | nil => exact absurd rfl this
    | cons a l => simp
  have htl0 : ((ts.length : Int) == 0) = false := by simp only [beq_eq_false_iff_ne]; omega
  have hRT := fun (W : World) (hW : Below W0.heap.size W0 W) => read24_no (leftT P O) hTs W (hE.below hW hE.size) hr2
  unfold leftT at hRT
  have HRT := Lib.hid hRT
  clear hRT
  have HHO := Lib.hid hO
  clear hT hS h1 h2 hE hv hne hg hnd hpl hpr hwf hP hPl hPR hTT hTs h3 hr2 hO
  go_enter Tryd.func11, Tryd.ntmps11
  go_wp2_with fail
  refine HT.out.mono ?_
  rintro e1 w1 ⟨rfl, hb1⟩
  have HB1 := Lib.hid hb1
  clear hb1
  go_wp2_with fail
  refine (HR.out w1 HB1.out).mono ?_
  rintro e2 w2 ⟨A, c, q, rfl, hO, hb2, hq, _⟩
  have hal : Below w2.heap.size w2 (w2.alloc (.cells #[.int .i64 x.kind, .int .i64 x.num, .string x.nm, .slice A x.len c] 48)) := (Below.refl _ _).alloc (Nat.le_refl _) _
  have HB2 := Lib.hid ((HB1.out.trans (hb2.mono HB1.out.size)).trans (hal.mono (by have := hb2.size; have := HB1.out.size; omega)))
  have HO2 := Lib.hid (hO.below hal (Nat.le_refl _))
  have hz2 : W0.heap.size ≤ w2.heap.size := by have := hb2.size; have := HB1.out.size; omega
  clear hb2 hO hal
  go_wp2_with fail
  refine (HPR.out _ (by exact HB2.out) _ _ _ HO2.out).mono ?_
  rintro e3 w3 ⟨rfl, hb3⟩
  have hz3 : w2.heap.size < w3.heap.size := by have := hb3.size; simp at this; omega
  have HX3 := Lib.hid ((hb3.block w2.heap.size (by simp)).trans (heap_alloc_new w2 (.cells #[.int .i64 x.kind, .int .i64 x.num, .string x.nm, .slice A x.len c] 48)))
  have HO3 := Lib.hid (HO2.out.below hb3 (Nat.le_refl _))
  have HB3 := Lib.hid (HB2.out.trans (hb3.mono HB2.out.size))
  clear hb3 HO2
  go_wp2_with fail
  refine (HK.out _ (by exact HB3.out)).mono ?_
  rintro e4 w4 ⟨rfl, hb4⟩
  have hz4 := hb4.size
  have HX4 := Lib.hid ((hb4.block w2.heap.size hz3).trans HX3.out)
  have HO4 := Lib.hid (HO3.out.below hb4 (Nat.le_refl _))
  have HB4 := Lib.hid (HB3.out.trans (hb4.mono HB3.out.size))
  clear hb4 HX3 HO3
  go_wp2_with (go_at_call 23; refine (pick_any _ _ (by decide) (by decide) _).mono ?_; rintro e w' ⟨rfl, rfl⟩)
  refine (HRT.out _ (by exact HB4.out)).mono ?_
  rintro e5 w5 ⟨y, A', c', q', n', rfl, hx5, _, hb5⟩
  clear hx5
  have hz5 := hb5.size
  have HB5 := Lib.hid ((HB4.out.trans (hb5.mono HB4.out.size)).alloc (by omega) (.cells #[.int .i64 y.kind, .int .i64 y.num, .string y.nm, .slice A' y.len c'] 48))
  clear hb5
  go_wp2_with fail
  go_ret
  exact ⟨rfl, HB5.out⟩

set_option maxRecDepth 100000 in
set_option maxHeartbeats 4000000 in
theorem exprLeft_yes (W0 : World) (hE : Env W0) (v : Value) (zs : List Int) (hv : IntsAt W0 v zs) (op : Int) {ts : List Tok} {x : Ex} {r : List Tok} (h1 : lexAll (text4B zs).data.toList = .good ts) (h2 : readF ts = .ok x r) (hne : printP x ≠ [])
    (h3 : ∀ (k : Nat) (P O : ByteArray), op % 5 = k → k < 5 → (leftT P O).data.toList = 40 :: (printF x 0 ++ (41 :: 32 :: ((signP ((4 + k : Nat) : Int)).1 ++ 32 :: [51, 32, 45, 32, 52]))) → ∃ us r, lexAll (leftT P O).data.toList = .good us ∧ readF us = .ok (.bin 5 (.bin ((4 + k : Nat) : Int) x (.leaf 1 3 [])) (.leaf 1 4 [])) r) :
    Calls Tryd.prog 11 #[v, .int .i64 op] W0 fun e w' => e = .returned (.bool true) ∧ Below W0.heap.size W0 w' := by
  have hz := text4_size zs
  have h47 := hv.1
  have hT := text4_any v zs W0 hv
  obtain ⟨k, hk2⟩ : ∃ k : Nat, op % 5 = k := ⟨(op % 5).toNat, by have := Int.emod_nonneg op (b := 5) (by decide); omega⟩
  have hk5 : k < 5 := by have := Int.emod_lt_of_pos op (b := 5) (by decide); omega
  obtain ⟨hg, hnd, hpl, hpr⟩ := print_some hne
  have hwf := hg.wf
  obtain ⟨P, hP⟩ : ∃ P : ByteArray, P = ⟨(printP x).toArray⟩ := ⟨_, rfl⟩
  have hPl : P.data.toList = printF x 0 := by rw [hP, hpr]
  have hPe : P.toList.isEmpty = false := by
    rw [toList_data, hPl]
    have := printF_ne hg 0
    cases hx : printF x 0 with
    | nil => exact absurd hx this
    | cons a l => rfl
  have hPs : P.size ≤ 6000 := by rw [size_length, hPl]; exact hpl
  obtain ⟨O, hO⟩ : ∃ O, O = opS k := ⟨_, rfl⟩
  have hOs : O.size ≤ 1 := by
    rw [hO]
    match k, hk5 with
    | 0, _ => decide
    | 1, _ => decide
    | 2, _ => decide
    | 3, _ => decide
    | 4, _ => decide
  have hTT := leftT_list P O _ _ hPl (show O.data.toList = (signP ((4 + k : Nat) : Int)).1 by rw [hO]; rfl)
  have hTs : (leftT P O).size ≤ maxLen := by
    simp only [leftT, ByteArray.size_append]
    unfold maxLen
    have e1 : (⟨#[40]⟩ : ByteArray).size = 1 := rfl
    have e2 : (⟨#[41, 32]⟩ : ByteArray).size = 2 := rfl
    have e3 : (⟨#[32, 51, 32, 45, 32, 52]⟩ : ByteArray).size = 6 := rfl
    omega
  have i57 := fun Z => index57 k hk5 Z
  rw [← hO] at i57
  have i58 := fun Z => index58 k hk5 Z
  have hr2 := h3 k P O hk2 hk5 hTT
  obtain ⟨S, hS⟩ : ∃ S, S = text4B zs := ⟨_, rfl⟩
  rw [← hS] at hT hz h1
  have HT := Lib.hid hT
  have HR := Lib.hid (fun (W : World) (hW : Below W0.heap.size W0 W) => read24_ok S (by unfold maxLen; omega) W (hE.below hW hE.size) h1 h2)
  have HK := Lib.hid (fun (W : World) (hW : Below W0.heap.size W0 W) => known4 W (hE.below hW hE.size))
  have hPR := fun (W : World) (hW : Below W0.heap.size W0 W) (ok : Nat → Prop) (A : Option Addr) (c : Nat) (h : OfAt ok W x (.slice A x.len c)) => print_any x ok A c W ⟨hwf, h, by omega⟩ (hE.below hW hE.size)
  rw [← hP] at hPR
  have HPR := Lib.hid hPR
  have htl : 1 ≤ ts.length := by
    have := (lex_ended h1).ne
    cases ts with
    | nil => exact absurd rfl this
    | cons a l => simp
  have htl0 : ((ts.length : Int) == 0) = false := by simp only [beq_eq_false_iff_ne]; omega
  obtain ⟨us, r2, hu1, hu2⟩ := hr2
  have hRT := fun (W : World) (hW : Below W0.heap.size W0 W) => read24_ok (leftT P O) hTs W (hE.below hW hE.size) hu1 hu2
  obtain ⟨kk, hkk⟩ : ∃ kk, kk = ((4 + k : Nat) : Int) := ⟨_, rfl⟩
  rw [← hkk] at hRT i58
  obtain ⟨Y, hY⟩ : ∃ Y : Ex, Y = .bin 5 (.bin kk x (.leaf 1 3 [])) (.leaf 1 4 []) := ⟨_, rfl⟩
  rw [← hY] at hRT
  unfold leftT at hRT
  have HRT := Lib.hid hRT
  have HKK := Lib.hid hkk
  have HY := Lib.hid hY
  clear hRT hu1 hu2 hkk hY
  have HHO := Lib.hid hO
  clear hT hS h1 h2 hE hv hne hg hnd hpl hpr hwf hP hPl hPR hTT hTs h3 hO
  go_enter Tryd.func11, Tryd.ntmps11
  go_wp2_with fail
  refine HT.out.mono ?_
  rintro e1 w1 ⟨rfl, hb1⟩
  have HB1 := Lib.hid hb1
  clear hb1
  go_wp2_with fail
  refine (HR.out w1 HB1.out).mono ?_
  rintro e2 w2 ⟨A, c, q, rfl, hO, hb2, hq, _⟩
  have hal : Below w2.heap.size w2 (w2.alloc (.cells #[.int .i64 x.kind, .int .i64 x.num, .string x.nm, .slice A x.len c] 48)) := (Below.refl _ _).alloc (Nat.le_refl _) _
  have HB2 := Lib.hid ((HB1.out.trans (hb2.mono HB1.out.size)).trans (hal.mono (by have := hb2.size; have := HB1.out.size; omega)))
  have HO2 := Lib.hid (hO.below hal (Nat.le_refl _))
  have hz2 : W0.heap.size ≤ w2.heap.size := by have := hb2.size; have := HB1.out.size; omega
  clear hb2 hO hal
  go_wp2_with fail
  refine (HPR.out _ (by exact HB2.out) _ _ _ HO2.out).mono ?_
  rintro e3 w3 ⟨rfl, hb3⟩
  have hz3 : w2.heap.size < w3.heap.size := by have := hb3.size; simp at this; omega
  have HX3 := Lib.hid ((hb3.block w2.heap.size (by simp)).trans (heap_alloc_new w2 (.cells #[.int .i64 x.kind, .int .i64 x.num, .string x.nm, .slice A x.len c] 48)))
  have HO3 := Lib.hid (HO2.out.below hb3 (Nat.le_refl _))
  have HB3 := Lib.hid (HB2.out.trans (hb3.mono HB2.out.size))
  clear hb3 HO2
  go_wp2_with fail
  refine (HK.out _ (by exact HB3.out)).mono ?_
  rintro e4 w4 ⟨rfl, hb4⟩
  have hz4 := hb4.size
  have HX4 := Lib.hid ((hb4.block w2.heap.size hz3).trans HX3.out)
  have HO4 := Lib.hid (HO3.out.below hb4 (Nat.le_refl _))
  have HB4 := Lib.hid (HB3.out.trans (hb4.mono HB3.out.size))
  clear hb4 HX3 HO3
  go_wp2_with (go_at_call 23; refine (pick_any _ _ (by decide) (by decide) _).mono ?_; rintro e w' ⟨rfl, rfl⟩)
  refine (HRT.out _ (by exact HB4.out)).mono ?_
  rintro e5 w5 ⟨A', c', q', rfl, hO5, hb5, _, _⟩
  have hz5 := hb5.size
  have HX5 := Lib.hid ((hb5.block w2.heap.size (by omega)).trans HX4.out)
  have HO5 := Lib.hid (HO4.out.below hb5 (Nat.le_refl _))
  have HY5 := Lib.hid hO5
  have HB5 := Lib.hid (HB4.out.trans (hb5.mono HB4.out.size))
  have n25 : w2.heap.size < w5.heap.size := by omega
  clear hb5 hO5 HX4 HO4
  obtain ⟨m0, m1, m2, m3⟩ := ex_facts HX5.out
  have hcall : ∀ (W : World) (g h : Nat), Below w5.heap.size w5 W → W.heap[g]? = some (.cells #[.int .i64 x.kind, .int .i64 x.num, .string x.nm, .slice A x.len c, .int .i64 1, .int .i64 3, .string ⟨#[]⟩, .slice none 0 0] 48 (0, 0)) →
      W.heap[h]? = some (.cells #[.int .i64 kk, .int .i64 0, .string ⟨#[]⟩, .slice (some ⟨g, 0, none⟩) 2 2, .int .i64 1, .int .i64 4, .string ⟨#[]⟩, .slice none 0 0] 48 (0, 0)) →
      Calls Tryd.prog 29 #[.agg #[.int .i64 Y.kind, .int .i64 Y.num, .string Y.nm, .slice A' Y.len c'], .agg #[.int .i64 5, .int .i64 0, .string ⟨#[]⟩, .slice (some ⟨h, 0, none⟩) 2 2]] W fun e w' => e = .returned (.bool true) ∧ Below W0.heap.size W0 w' := by
    intro W g h hW hg hh
    refine (refsame_any Y (.bin 5 (.bin kk x (.leaf 1 3 [])) (.leaf 1 4 [])) _ _ W A' (some ⟨h, 0, none⟩) c' 2 (HY5.out.below hW (Nat.le_refl _)) (of_left (HO5.out.below hW (Nat.le_refl _)) hg hh)).mono fun e w' ⟨he, hb⟩ => ⟨?_, ?_⟩
    · rw [he, HY.out]; simp
    · exact (HB5.out.trans (hW.mono HB5.out.size)).trans (hb.mono (Nat.le_trans HB5.out.size hW.size))
  have HCALL := Lib.hid hcall
  clear hcall
  go_wp2_with fail
  go_region
  all_goals
    go_wp2_with fail
    first | refine (HCALL.out _ (w5.heap.size + 1) (w5.heap.size + 1 + 1 + 1) (by exact four_below) (by exact four_two) (by exact four_four)).mono ?_ | refine (HCALL.out _ (w5.heap.size + 1 + 1) (w5.heap.size + 1 + 1 + 1) (by exact four_below) (by exact four_three) (by exact four_four)).mono ?_
    rintro e6 w6 ⟨rfl, hb6⟩
    have HB6 := Lib.hid hb6
    clear hb6
    go_wp2_with fail
    go_ret
    exact ⟨rfl, HB6.out⟩

theorem exprLeft_walk (W0 : World) (hE : Env W0) (v : Value) (zs : List Int) (hv : IntsAt W0 v zs) (op : Int) (_hop : -9223372036854775808 ≤ op ∧ op ≤ 9223372036854775807) :
    Calls Tryd.prog 11 #[v, .int .i64 op] W0 fun e w' => e = .returned (.bool true) ∧ Below W0.heap.size W0 w' := by
  by_cases h : ∃ ts x r, lexAll (text4B zs).data.toList = .good ts ∧ readF ts = .ok x r
  · obtain ⟨ts, x, r, h1, h2⟩ := h
    have hne : printP x ≠ [] := by
      obtain ⟨ps, hp1, hp2⟩ := text4_raw zs
      rw [hp2] at h1
      exact back_law hp1 h1 h2 (read_keeps _ _ _ (lex_ended h1) h2).ne
    obtain ⟨k, hk⟩ : ∃ k : Nat, op % 5 = k := ⟨(op % 5).toNat, by have := Int.emod_nonneg op (b := 5) (by decide); omega⟩
    have hk5 : k < 5 := by have := Int.emod_lt_of_pos op (b := 5) (by decide); omega
    obtain ⟨L, hL⟩ : ∃ L, L = 40 :: (printF x 0 ++ (41 :: 32 :: ((signP ((4 + k : Nat) : Int)).1 ++ 32 :: [51, 32, 45, 32, 52]))) := ⟨_, rfl⟩
    by_cases hq : ∃ us y r2, lexAll L = .good us ∧ readF us = .ok y r2
    · obtain ⟨us, y, r2, u1, u2⟩ := hq
      rw [hL] at u1
      have hy := left_law hne (4 + k) (by omega) u1 u2
      rw [hy] at u2
      refine exprLeft_yes W0 hE v zs hv op h1 h2 hne (fun k' P O hk' _ hl => ?_)
      obtain rfl : k' = k := by omega
      exact ⟨us, r2, by rw [hl]; exact u1, u2⟩
    · refine exprLeft_deep W0 hE v zs hv op h1 h2 hne (fun k' P O hk' _ hl us y r2 u1 u2 => hq ?_)
      obtain rfl : k' = k := by omega
      exact ⟨us, y, r2, by rw [hL, ← hl]; exact u1, u2⟩
  · exact exprLeft_no W0 hE v zs hv op (fun ts x r h1 h2 => h ⟨ts, x, r, h1, h2⟩)

end Go.Proofs.YtgkfmeccipgnjaaDoor
