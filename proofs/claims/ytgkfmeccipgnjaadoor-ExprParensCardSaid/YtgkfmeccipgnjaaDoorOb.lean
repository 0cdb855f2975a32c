/- ExprBack: the walk. -/
import Derived.Test.YtgkfmeccipgnjaaDoorEm
import Derived.Test.YtgkfmeccipgnjaaDoorEn
namespace Go.Proofs.YtgkfmeccipgnjaaDoor
open Go.RowKit

theorem lexF_len4 : ∀ (f : Nat) (l : List UInt8) (off : Nat) (ts : List Tok), lexF f l off = .good ts → ts.length ≤ l.length + 1 := by
  intro f
  induction f with
  | zero => intro l off ts h; cases h
  | succ f ih =>
    intro l off ts h
    rw [lexF] at h
    have hb := runL_le blankB l
    cases hd : l.drop (runL blankB l) with
    | nil => rw [hd] at h; simp only [LexR.good.injEq] at h; rw [← h]; simp
    | cons c r =>
      rw [hd] at h
      have hlen : (c :: r).length = l.length - runL blankB l := by rw [← hd]; simp
      simp only at h
      by_cases h35 : c.toNat = 35
      · rw [if_pos h35] at h
        have := ih _ _ _ h
        simp only [List.length_drop] at this; omega
      · rw [if_neg h35] at h
        cases ht : tokAt (c :: r) with
        | none => rw [ht] at h; cases h
        | some q =>
          obtain ⟨k, size, n⟩ := q
          rw [ht] at h
          have hsz := tokAt_size ht
          simp only at h
          cases hr : lexF f ((c :: r).drop size) (off + runL blankB l + size) with
          | bad p => rw [hr] at h; cases h
          | good us =>
            rw [hr] at h
            simp only [LexR.pre, LexR.good.injEq, List.singleton_append] at h
            rw [← h]
            have := ih _ _ _ hr
            simp only [List.length_drop] at this
            simp only [List.length_cons]; simp only [List.length_cons] at hlen hsz this; omega
theorem lexAll_len4 {L : List UInt8} {ts : List Tok} (h : lexAll L = .good ts) : ts.length ≤ 6001 := by
  have hs := lexAll_short' h
  rw [lexAll_eq hs] at h
  have := lexF_len4 _ _ _ _ h
  omega

/-- Four facts on a block that holds an expression. -/
theorem ex_facts {W : World} {g : Nat} {x : Ex} {sl : Value} (h : W.heap[g]? = some (.cells #[.int .i64 x.kind, .int .i64 x.num, .string x.nm, sl] 48 (0, 0))) :
    W.cell? ⟨g, 0, none⟩ = some (.int .i64 x.kind) ∧ W.cell? ⟨g, 1, none⟩ = some (.int .i64 x.num) ∧ W.cell? ⟨g, 2, none⟩ = some (.string x.nm) ∧ W.cell? ⟨g, 3, none⟩ = some sl :=
  ⟨cell_of_row _ _ 0 _ 48 (0, 0) h, cell_of_row _ _ 1 _ 48 (0, 0) h, cell_of_row _ _ 2 _ 48 (0, 0) h, cell_of_row _ _ 3 _ 48 (0, 0) h⟩

/-- The law's read, where an expression was read. -/
theorem read24_ok (s : ByteArray) (hs : s.size ≤ maxLen) (w : World) (hE : Env w) {ts : List Tok} {x : Ex} {r : List Tok} (h1 : lexAll s.data.toList = .good ts) (h2 : readF ts = .ok x r) :
    Calls Tryd.prog 24 #[.string s] w fun e w' => ∃ (A : Option Addr) (c q : Nat), e = .returned (.tuple #[.agg #[.int .i64 x.kind, .int .i64 x.num, .string x.nm, .slice A x.len c], .int .i64 q, .bool true, .int .i64 ts.length]) ∧ OfAt (w.heap.size ≤ ·) w' x (.slice A x.len c) ∧ Below w.heap.size w w' ∧ q < ts.length ∧ ts.drop q = r := by
  refine (read24 s hs w hE).mono fun e w' h => ?_
  obtain ⟨y, A, c, q, okb, n, he, hO, hB, hm⟩ := h
  rw [h1] at hm
  obtain ⟨rfl, hq, hm⟩ := hm
  rw [h2] at hm
  obtain ⟨rfl, rfl, hd⟩ := hm
  exact ⟨A, c, q, he, hO, hB, hq, hd⟩
/-- .. where none was. -/
theorem read24_no (s : ByteArray) (hs : s.size ≤ maxLen) (w : World) (hE : Env w) (h : ∀ ts x r, lexAll s.data.toList = .good ts → readF ts ≠ .ok x r) :
    Calls Tryd.prog 24 #[.string s] w fun e w' => ∃ (x : Ex) (A : Option Addr) (c q n : Nat), e = .returned (.tuple #[.agg #[.int .i64 x.kind, .int .i64 x.num, .string x.nm, .slice A x.len c], .int .i64 q, .bool false, .int .i64 n]) ∧ x = Ex.zero ∧ OfAt (w.heap.size ≤ ·) w' x (.slice A x.len c) ∧ Below w.heap.size w w' := by
  refine (read24 s hs w hE).mono fun e w' hh => ?_
  obtain ⟨y, A, c, q, okb, n, he, hO, hB, hm⟩ := hh
  cases hx : lexAll s.data.toList with
  | bad p => rw [hx] at hm; obtain ⟨h1, h2, rfl, h3⟩ := hm; exact ⟨y, A, c, q, n, he, h1, hO, hB⟩
  | good ts =>
    rw [hx] at hm
    obtain ⟨_, _, hm⟩ := hm
    cases hr : readF ts with
    | bad r => rw [hr] at hm; obtain ⟨h1, rfl, _⟩ := hm; exact ⟨y, A, c, q, n, he, h1, hO, hB⟩
    | ok z r => exact absurd hr (h ts z r hx)

set_option maxRecDepth 100000 in
set_option maxHeartbeats 4000000 in
theorem exprBack_no (W0 : World) (hE : Env W0) (v : Value) (zs : List Int) (hv : IntsAt W0 v zs) (h : ∀ ts x r, lexAll (text4B zs).data.toList = .good ts → readF ts ≠ .ok x r) :
    Calls Tryd.prog 9 #[v] W0 fun e w' => e = .returned (.bool true) ∧ Below W0.heap.size W0 w' := by
  have hz := text4_size zs
  have h47 := hv.1
  have hT := text4_any v zs W0 hv
  obtain ⟨S, hS⟩ : ∃ S, S = text4B zs := ⟨_, rfl⟩
  rw [← hS] at hT hz h
  have HT := Lib.hid hT
  have HR := Lib.hid (fun (W : World) (hW : Below W0.heap.size W0 W) => read24_no S (by unfold maxLen; omega) W (hE.below hW hE.size) h)
  have HK := Lib.hid (fun (W : World) (hW : Below W0.heap.size W0 W) => known4 W (hE.below hW hE.size))
  clear hT hS h hE hv
  go_enter Tryd.func9, Tryd.ntmps9
  go_wp2_with fail
  refine HT.out.mono ?_
  rintro e1 w1 ⟨rfl, hb1⟩
  have HB1 := Lib.hid hb1
  clear hb1
  go_wp2_with fail
  refine (HR.out w1 HB1.out).mono ?_
  rintro e2 w2 ⟨x, A, c, q, n, rfl, hx, hO, hb2⟩
  have HB2 := Lib.hid (HB1.out.trans (hb2.mono HB1.out.size))
  clear hb2 hO hx
  have hz2 := HB2.out.size
  go_wp2_with fail
  refine (HK.out _ (by exact HB2.out.alloc HB2.out.size _)).mono ?_
  rintro e3 w3 ⟨rfl, hb3⟩
  have HB3 := Lib.hid ((HB2.out.alloc HB2.out.size (.cells #[.int .i64 x.kind, .int .i64 x.num, .string x.nm, .slice A x.len c] 48)).trans (hb3.mono (by simp; omega)))
  clear hb3
  go_wp2_with fail
  refine (HK.out _ (by exact HB3.out)).mono ?_
  rintro e4 w4 ⟨rfl, hb4⟩
  have HB4 := Lib.hid (HB3.out.trans (hb4.mono HB3.out.size))
  clear hb4
  go_wp2_with fail
  go_ret
  exact ⟨rfl, HB4.out⟩

set_option maxRecDepth 100000 in
set_option maxHeartbeats 4000000 in
theorem exprBack_yes (W0 : World) (hE : Env W0) (v : Value) (zs : List Int) (hv : IntsAt W0 v zs) {ts : List Tok} {x : Ex} {r : List Tok} (h1 : lexAll (text4B zs).data.toList = .good ts) (h2 : readF ts = .ok x r) :
    Calls Tryd.prog 9 #[v] W0 fun e w' => e = .returned (.bool true) ∧ Below W0.heap.size W0 w' := by
  have hz := text4_size zs
  have h47 := hv.1
  have hT := text4_any v zs W0 hv
  -- what the plain law says
  have hne : printP x ≠ [] := by
    obtain ⟨ps, hp1, hp2⟩ := text4_raw zs
    rw [hp2] at h1
    exact back_law hp1 h1 h2 (read_keeps _ _ _ (lex_ended h1) h2).ne
  obtain ⟨hg, hnd, hpl, hpr⟩ := print_some hne
  obtain ⟨us, u1, _, u3, _⟩ := print_good hg hnd hpl
  have hwf := hg.wf
  obtain ⟨P, hP⟩ : ∃ P : ByteArray, P = ⟨(printP x).toArray⟩ := ⟨_, rfl⟩
  have hPl : P.data.toList = printF x 0 := by rw [hP, hpr]
  have hPe : P.toList.isEmpty = false := by
    rw [toList_data, hPl]
    have := printF_ne hg 0
    cases hx : printF x 0 with
    | nil => exact absurd hx this
    | cons a l => rfl
  have hPs : P.size ≤ maxLen := by rw [size_length, hPl]; unfold maxLen; have : plen x 0 = (printF x 0).length := rfl; omega
  rw [← hPl] at u1
  obtain ⟨us2, hus2⟩ : ∃ us2, us2 = us ++ [⟨4, [], 0, plen x 0⟩] := ⟨_, rfl⟩
  rw [← hus2] at u1 u3
  obtain ⟨S, hS⟩ : ∃ S, S = text4B zs := ⟨_, rfl⟩
  rw [← hS] at hT hz h1
  have HT := Lib.hid hT
  have HR := Lib.hid (fun (W : World) (hW : Below W0.heap.size W0 W) => read24_ok S (by unfold maxLen; omega) W (hE.below hW hE.size) h1 h2)
  have HR2 := Lib.hid (fun (W : World) (hW : Below W0.heap.size W0 W) => read24_ok P hPs W (hE.below hW hE.size) u1 u3)
  have HK := Lib.hid (fun (W : World) (hW : Below W0.heap.size W0 W) => known4 W (hE.below hW hE.size))
  have hPR := fun (W : World) (hW : Below W0.heap.size W0 W) (ok : Nat → Prop) (A : Option Addr) (c : Nat) (h : OfAt ok W x (.slice A x.len c)) => print_any x ok A c W ⟨hwf, h, by omega⟩ (hE.below hW hE.size)
  rw [← hP] at hPR
  have HPR := Lib.hid hPR
  have hRT := fun (W : World) (hW : Below W0.heap.size W0 W) (ok : Nat → Prop) (A : Option Addr) (c : Nat) (h : OfAt ok W x (.slice A x.len c)) => right_any x ok A c W ⟨hwf, h, by omega⟩ (hE.below hW hE.size)
  rw [show rightB x = true by rw [rightB]; cases hx : printP x with
    | nil => exact absurd hx hne
    | cons a l => rfl] at hRT
  have HRT := Lib.hid hRT
  have hSM := fun (W : World) (ok ok' : Nat → Prop) (A B : Option Addr) (c c' : Nat) (h : OfAt ok W x (.slice A x.len c)) (h' : OfAt ok' W x (.slice B x.len c')) => refsame_any x x ok ok' W A B c c' h h'
  rw [show decide (x = x) = true by simp] at hSM
  have HSM := Lib.hid hSM
  have hus : us2.length = us.length + 1 := by rw [hus2]; simp
  have hub := lexAll_len4 u1
  have hlb : 1 ≤ us2.length := by omega
  have HUS := Lib.hid hus2
  clear hT hS h1 h2 hE hv hne hg hnd hpl hpr u1 u3 hwf hP hPl hPs hPR hRT hSM hus2 hus
  go_enter Tryd.func9, Tryd.ntmps9
  go_wp2_with fail
  refine HT.out.mono ?_
  rintro e1 w1 ⟨rfl, hb1⟩
  have HB1 := Lib.hid hb1
  clear hb1
  go_wp2_with fail
  refine (HR.out w1 HB1.out).mono ?_
  rintro e2 w2 ⟨A, c, q, rfl, hO, hb2, hq, _⟩
  have HB2 := Lib.hid (HB1.out.trans (hb2.mono HB1.out.size))
  have HO := Lib.hid hO
  clear hb2 hO
  have hz2 := HB2.out.size
  go_wp2_with fail
  refine (HK.out _ (by exact HB2.out.alloc HB2.out.size _)).mono ?_
  rintro e3 w3 ⟨rfl, hb3⟩
  have hal : Below w2.heap.size w2 (w2.alloc (.cells #[.int .i64 x.kind, .int .i64 x.num, .string x.nm, .slice A x.len c] 48)) := (Below.refl _ _).alloc (Nat.le_refl _) _
  have hz3 : w2.heap.size < w3.heap.size := by have := hb3.size; simp at this; omega
  have HX3 := Lib.hid ((hb3.block w2.heap.size (by simp)).trans (heap_alloc_new w2 (.cells #[.int .i64 x.kind, .int .i64 x.num, .string x.nm, .slice A x.len c] 48)))
  have HO3 := Lib.hid ((HO.out.below hal (Nat.le_refl _)).below hb3 (by simp))
  have HB3 := Lib.hid ((HB2.out.trans (hal.mono hz2)).trans (hb3.mono (by simp; omega)))
  clear hb3 hal HB1 HB2 HO
  obtain ⟨m0, m1, m2, m3⟩ := ex_facts HX3.out
  go_wp2_with fail
  refine (HPR.out _ (by exact HB3.out) _ _ _ HO3.out).mono ?_
  rintro e4 w4 ⟨rfl, hb4⟩
  have hz4 := hb4.size
  have HX4 := Lib.hid ((hb4.block w2.heap.size hz3).trans HX3.out)
  have HO4 := Lib.hid (HO3.out.below hb4 (Nat.le_refl _))
  have HB4 := Lib.hid (HB3.out.trans (hb4.mono HB3.out.size))
  clear hb4 m0 m1 m2 m3 HX3 HO3 HB3
  go_wp2_with fail
  refine (HR2.out w4 HB4.out).mono ?_
  rintro e5 w5 ⟨A', c', q', rfl, hO', hb5, hq', hd'⟩
  have hqq : ((q' : Int) == (us2.length : Int) - 1) = true := by
    have h := congrArg List.length hd'
    simp at h
    simp only [beq_iff_eq]; omega
  have hz5 := hb5.size
  have HX5 := Lib.hid ((hb5.block w2.heap.size (by omega)).trans HX4.out)
  have HO5 := Lib.hid (HO4.out.below hb5 (Nat.le_refl _))
  have HY5 := Lib.hid hO'
  have HB5 := Lib.hid (HB4.out.trans (hb5.mono HB4.out.size))
  clear hb5 hO' hd' HX4 HO4 HB4
  obtain ⟨m0, m1, m2, m3⟩ := ex_facts HX5.out
  have n25 : w2.heap.size < w5.heap.size := by omega
  have hqlt : (q : Int) < (ts.length : Int) := by omega
  go_wp2_with fail
  refine (HSM.out _ _ _ _ _ _ _ (HO5.out.below ((Below.refl _ _).alloc (Nat.le_refl _) _) (Nat.le_refl _)) (HY5.out.below ((Below.refl _ _).alloc (Nat.le_refl _) _) (Nat.le_refl _))).mono ?_
  rintro e6 w6 ⟨rfl, hb6⟩
  have hal : Below w5.heap.size w5 (w5.alloc (.cells #[.int .i64 x.kind, .int .i64 x.num, .string x.nm, .slice A' x.len c'] 48)) := (Below.refl _ _).alloc (Nat.le_refl _) _
  have hz6 : w5.heap.size < w6.heap.size := by have := hb6.size; simp at this; omega
  have hb56 : Below w5.heap.size w5 w6 := hal.trans (hb6.mono (by simp))
  have HX6 := Lib.hid ((hb56.block w2.heap.size n25).trans HX5.out)
  have HY6 := Lib.hid ((hb6.block w5.heap.size (by simp)).trans (heap_alloc_new w5 (.cells #[.int .i64 x.kind, .int .i64 x.num, .string x.nm, .slice A' x.len c'] 48)))
  have HO6 := Lib.hid (HO5.out.below hb56 (Nat.le_refl _))
  have HOY6 := Lib.hid (HY5.out.below hb56 (Nat.le_refl _))
  have HB6 := Lib.hid (HB5.out.trans (hb56.mono HB5.out.size))
  clear hb6 hal hb56 HX5 HO5 HY5 HB5 m0 m1 m2 m3
  obtain ⟨m0, m1, m2, m3⟩ := ex_facts HY6.out
  go_wp2_with fail
  refine (HPR.out _ (by exact HB6.out) _ _ _ HOY6.out).mono ?_
  rintro e7 w7 ⟨rfl, hb7⟩
  have hz7 := hb7.size
  have HX7 := Lib.hid ((hb7.block w2.heap.size (by omega)).trans HX6.out)
  have HO7 := Lib.hid (HO6.out.below hb7 (Nat.le_refl _))
  have HB7 := Lib.hid (HB6.out.trans (hb7.mono HB6.out.size))
  clear hb7 HX6 HY6 HO6 HOY6 HB6 m0 m1 m2 m3
  obtain ⟨m0, m1, m2, m3⟩ := ex_facts HX7.out
  go_wp2_with fail
  refine (HRT.out _ (by exact HB7.out) _ _ _ HO7.out).mono ?_
  rintro e8 w8 ⟨rfl, hb8⟩
  have HB8 := Lib.hid (HB7.out.trans (hb8.mono HB7.out.size))
  clear hb8
  go_wp2_with fail
  go_ret
  exact ⟨rfl, HB8.out⟩

theorem exprBack_walk (W0 : World) (hE : Env W0) (v : Value) (zs : List Int) (hv : IntsAt W0 v zs) :
    Calls Tryd.prog 9 #[v] W0 fun e w' => e = .returned (.bool true) ∧ Below W0.heap.size W0 w' := by
  by_cases h : ∃ ts x r, lexAll (text4B zs).data.toList = .good ts ∧ readF ts = .ok x r
  · obtain ⟨ts, x, r, h1, h2⟩ := h
    exact exprBack_yes W0 hE v zs hv h1 h2
  · exact exprBack_no W0 hE v zs hv (fun ts x r h1 h2 => h ⟨ts, x, r, h1, h2⟩)
end Go.Proofs.YtgkfmeccipgnjaaDoor
