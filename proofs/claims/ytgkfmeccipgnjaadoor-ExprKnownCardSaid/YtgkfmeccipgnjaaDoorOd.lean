/- ExprKnown: the walk. -/
import Derived.Test.YtgkfmeccipgnjaaDoorOb
namespace Go.Proofs.YtgkfmeccipgnjaaDoor
open Go.RowKit

/-- Is a text read whole, and printed as it is? -/
def chkE (L : List UInt8) : Bool := match lexAll L with
  | .bad _ => false
  | .good ts => match readF ts with
    | .bad _ => false
    | .ok x r => r.length == 1 && printP x == L && decide (ts.length ≤ 100) && !L.isEmpty
/-- Whether something is read of a text, and where it ends, or does not fit. -/
def rdF (L : List UInt8) : Bool × Nat := match lexAll L with
  | .bad _ => (false, 0)
  | .good ts => match readF ts with
    | .bad r => (false, ts.length - r.length)
    | .ok _ r => (true, ts.length - r.length)

theorem chk_facts {L : List UInt8} (h : chkE L = true) : ∃ ts x r, lexAll L = .good ts ∧ readF ts = .ok x r ∧ r.length = 1 ∧ printP x = L ∧ ts.length ≤ 100 ∧ printP x ≠ [] := by
  unfold chkE at h
  cases hx : lexAll L with
  | bad p => rw [hx] at h; simp at h
  | good ts =>
    rw [hx] at h
    simp only at h
    cases hr : readF ts with
    | bad r => rw [hr] at h; simp at h
    | ok x r =>
      rw [hr] at h
      simp only [Bool.and_eq_true, beq_iff_eq, decide_eq_true_eq, Bool.not_eq_true', List.isEmpty_eq_false_iff] at h
      exact ⟨ts, x, r, rfl, hr, h.1.1.1, h.1.1.2, h.1.2, by rw [h.1.1.2]; exact h.2⟩

/-- The law's read, told by rdF. -/
theorem read24_rd (s : ByteArray) (hs : s.size ≤ maxLen) (w : World) (hE : Env w) {okb : Bool} {q : Nat} (h : rdF s.data.toList = (okb, q)) :
    Calls Tryd.prog 24 #[.string s] w fun e w' => ∃ (x : Ex) (A : Option Addr) (c n : Nat), e = .returned (.tuple #[.agg #[.int .i64 x.kind, .int .i64 x.num, .string x.nm, .slice A x.len c], .int .i64 q, .bool okb, .int .i64 n]) ∧ Below w.heap.size w w' := by
  refine (read24 s hs w hE).mono fun e w' hh => ?_
  obtain ⟨y, A, c, q', okb', n, he, hO, hB, hm⟩ := hh
  unfold rdF at h
  cases hx : lexAll s.data.toList with
  | bad p =>
    rw [hx] at hm h
    obtain ⟨_, rfl, rfl, rfl⟩ := hm
    simp only [Prod.mk.injEq] at h
    obtain ⟨rfl, rfl⟩ := h
    exact ⟨y, A, c, 0, he, hB⟩
  | good ts =>
    rw [hx] at hm h
    obtain ⟨rfl, hq, hm⟩ := hm
    simp only at h
    cases hr : readF ts with
    | bad r =>
      rw [hr] at hm h
      obtain ⟨_, rfl, hd⟩ := hm
      have hl := congrArg List.length hd
      simp only [List.length_drop] at hl
      simp only [Prod.mk.injEq] at h
      obtain ⟨rfl, rfl⟩ := h
      refine ⟨y, A, c, ts.length, ?_, hB⟩
      rw [he, show q' = ts.length - r.length by omega]
    | ok z r =>
      rw [hr] at hm h
      obtain ⟨_, rfl, hd⟩ := hm
      have hl := congrArg List.length hd
      simp only [List.length_drop] at hl
      simp only [Prod.mk.injEq] at h
      obtain ⟨rfl, rfl⟩ := h
      refine ⟨y, A, c, ts.length, ?_, hB⟩
      rw [he, show q' = ts.length - r.length by omega]

theorem chk0 : chkE [49, 32, 45, 32, 40, 50, 32, 45, 32, 51, 41, 32, 45, 32, 120] = true := by decide +kernel
theorem chk1 : chkE [40, 49, 32, 60, 32, 50, 41, 32, 61, 61, 32, 40, 121, 32, 61, 61, 32, 48, 41] = true := by decide +kernel
theorem chk2 : chkE [97, 32, 42, 32, 40, 98, 32, 47, 32, 99, 32, 37, 32, 100, 41, 32, 47, 32, 101] = true := by decide +kernel
theorem chk3 : chkE [45, 45, 120, 32, 42, 32, 45, 40, 49, 32, 43, 32, 50, 41] = true := by decide +kernel
theorem chk4 : chkE [45, 40, 45, 49, 32, 60, 32, 50, 41, 32, 43, 32, 48] = true := by decide +kernel
theorem chk5 : chkE [120] = true := by decide +kernel
theorem chk6 : chkE [49, 32, 45, 32, 50, 32, 42, 32, 40, 51, 32, 43, 32, 52, 41, 32, 60, 32, 53, 32, 37, 32, 54] = true := by decide +kernel
theorem chk7 : chkE [40, 97, 32, 61, 61, 32, 98, 41, 32, 42, 32, 99] = true := by decide +kernel
theorem rd0 : rdF [120, 32, 43, 32, 41] = (false, 2) := by decide +kernel
theorem rd1 : rdF [120, 32, 121] = (true, 1) := by decide +kernel
theorem rd2 : rdF [49, 32, 60, 32, 50, 32, 60, 32, 51] = (true, 3) := by decide +kernel
theorem rd3 : rdF [40, 32, 120] = (false, 2) := by decide +kernel
theorem rd4 : rdF [103, 111] = (false, 0) := by decide +kernel
theorem rd5 : rdF [40, 40, 40, 40, 40, 40, 40, 40, 120, 41, 41, 41, 41, 41, 41, 41, 41] = (true, 17) := by decide +kernel
theorem rd6 : rdF [40, 40, 40, 40, 40, 40, 40, 40, 40, 120, 41, 41, 41, 41, 41, 41, 41, 41, 41] = (false, 8) := by decide +kernel
theorem rd7 : rdF [45, 45, 45, 45, 45, 45, 45, 45, 32, 45, 120] = (false, 8) := by decide +kernel
theorem rd8 : rdF [] = (false, 0) := by decide +kernel

theorem known8 : ∀ j, j < 8 → ∃ s : ByteArray, (∀ Z, (Instr.index 45 (.agg #[.string ⟨#[49, 32, 45, 32, 40, 50, 32, 45, 32, 51, 41, 32, 45, 32, 120]⟩, .string ⟨#[40, 49, 32, 60, 32, 50, 41, 32, 61, 61, 32, 40, 121, 32, 61, 61, 32, 48, 41]⟩, .string ⟨#[97, 32, 42, 32, 40, 98, 32, 47, 32, 99, 32, 37, 32, 100, 41, 32, 47, 32, 101]⟩, .string ⟨#[45, 45, 120, 32, 42, 32, 45, 40, 49, 32, 43, 32, 50, 41]⟩, .string ⟨#[45, 40, 45, 49, 32, 60, 32, 50, 41, 32, 43, 32, 48]⟩, .string ⟨#[120]⟩, .string ⟨#[49, 32, 45, 32, 50, 32, 42, 32, 40, 51, 32, 43, 32, 52, 41, 32, 60, 32, 53, 32, 37, 32, 54]⟩, .string ⟨#[40, 97, 32, 61, 61, 32, 98, 41, 32, 42, 32, 99]⟩]) (.int .i64 (j : Nat))).run Tryd.prog Z = .ok (.string s) Z) ∧ chkE s.data.toList = true ∧ s.size ≤ 100 := by
  intro j hj
  obtain rfl | rfl | rfl | rfl | rfl | rfl | rfl | rfl : j = 0 ∨ j = 1 ∨ j = 2 ∨ j = 3 ∨ j = 4 ∨ j = 5 ∨ j = 6 ∨ j = 7 := by omega
  · exact ⟨⟨#[49, 32, 45, 32, 40, 50, 32, 45, 32, 51, 41, 32, 45, 32, 120]⟩, fun Z => by kernel_rfl, chk0, by decide⟩
  · exact ⟨⟨#[40, 49, 32, 60, 32, 50, 41, 32, 61, 61, 32, 40, 121, 32, 61, 61, 32, 48, 41]⟩, fun Z => by kernel_rfl, chk1, by decide⟩
  · exact ⟨⟨#[97, 32, 42, 32, 40, 98, 32, 47, 32, 99, 32, 37, 32, 100, 41, 32, 47, 32, 101]⟩, fun Z => by kernel_rfl, chk2, by decide⟩
  · exact ⟨⟨#[45, 45, 120, 32, 42, 32, 45, 40, 49, 32, 43, 32, 50, 41]⟩, fun Z => by kernel_rfl, chk3, by decide⟩
  · exact ⟨⟨#[45, 40, 45, 49, 32, 60, 32, 50, 41, 32, 43, 32, 48]⟩, fun Z => by kernel_rfl, chk4, by decide⟩
  · exact ⟨⟨#[120]⟩, fun Z => by kernel_rfl, chk5, by decide⟩
  · exact ⟨⟨#[49, 32, 45, 32, 50, 32, 42, 32, 40, 51, 32, 43, 32, 52, 41, 32, 60, 32, 53, 32, 37, 32, 54]⟩, fun Z => by kernel_rfl, chk6, by decide⟩
  · exact ⟨⟨#[40, 97, 32, 61, 61, 32, 98, 41, 32, 42, 32, 99]⟩, fun Z => by kernel_rfl, chk7, by decide⟩

theorem leafP (k n : Int) (nm : List UInt8) (h1 : -9223372036854775808 ≤ n) (h2 : n ≤ 9223372036854775807) (hp : plen (.leaf k n nm) 0 ≤ 1000000000) (w : World) (hE : Env w) {r : List UInt8} (hr : printP (.leaf k n nm) = r) :
    Calls Tryd.prog 25 #[.agg #[.int .i64 k, .int .i64 n, .string ⟨nm.toArray⟩, .slice none 0 0]] w fun e' w' => e' = .returned (.string ⟨r.toArray⟩) ∧ Below w.heap.size w w' := by
  rw [← hr]
  exact print_any (.leaf k n nm) (fun _ => True) none 0 w ⟨⟨h1, h2⟩, ⟨none, 0, rfl, by decide⟩, hp⟩ hE
theorem leafR (k n : Int) (nm : List UInt8) (h1 : -9223372036854775808 ≤ n) (h2 : n ≤ 9223372036854775807) (hp : plen (.leaf k n nm) 0 ≤ 1000000000) (w : World) (hE : Env w) (hr : rightB (.leaf k n nm) = false) :
    Calls Tryd.prog 27 #[.agg #[.int .i64 k, .int .i64 n, .string ⟨nm.toArray⟩, .slice none 0 0]] w fun e' w' => e' = .returned (.bool false) ∧ Below w.heap.size w w' := by
  rw [← hr]
  exact right_any (.leaf k n nm) (fun _ => True) none 0 w ⟨⟨h1, h2⟩, ⟨none, 0, rfl, by decide⟩, hp⟩ hE
theorem lp0 : printP (.leaf 0 0 []) = [] := by decide +kernel
theorem lp1 : printP (.leaf 1 (-1) []) = [] := by decide +kernel
theorem lr2 : rightB (.leaf 2 0 [103, 111]) = false := by decide +kernel
theorem lr3 : rightB (.leaf 2 0 [120, 32, 121]) = false := by decide +kernel
theorem lr4 : rightB (.leaf 1 0 [120]) = false := by decide +kernel
theorem lr5 : rightB (.leaf 3 0 []) = false := by decide +kernel

set_option maxRecDepth 100000 in
set_option maxHeartbeats 8000000 in
theorem exprKnown_walk (W0 : World) (hE : Env W0) : Calls Tryd.prog 8 #[] W0 fun e w' => e = .returned (.bool true) ∧ Below W0.heap.size W0 w' := by
  have HK := Lib.hid (fun (W : World) (hW : Below W0.heap.size W0 W) => known4 W (hE.below hW hE.size))
  have HE := Lib.hid hE
  clear hE
  go_enter Tryd.func8, Tryd.ntmps8
  go_wp2_with fail
  go_loopg [44] 8 (fun g s44 wr => ∃ j : Nat, j + g = 8 ∧ s44 = .int .i64 j ∧ Below W0.heap.size W0 wr)
  case atStart => exact ⟨0, rfl, rfl, Below.refl _ _⟩
  case round =>
    obtain ⟨j, hj, rfl, hbr⟩ := hrel
    have HBR := Lib.hid hbr
    have HJ := Lib.hid hj
    have hj8 : j ≤ 8 := by omega
    have hsz := hbr.size
    clear hbr hj
    by_cases hlt : j < 8
    · obtain ⟨s, hi, hc, hs⟩ := known8 j hlt
      obtain ⟨ts, x, r, q1, q2, q3, q4, q5, q6⟩ := chk_facts hc
      obtain ⟨hg, _, hpl, _⟩ := print_some q6
      have HR := Lib.hid (read24_ok s (by unfold maxLen; omega) wr (HE.out.below HBR.out HE.out.size) q1 q2)
      have hPR := fun (W : World) (hW : Below W0.heap.size W0 W) (ok : Nat → Prop) (A : Option Addr) (c : Nat) (h : OfAt ok W x (.slice A x.len c)) => print_any x ok A c W ⟨hg.wf, h, by omega⟩ (HE.out.below hW HE.out.size)
      rw [show (⟨(printP x).toArray⟩ : ByteArray) = s by rw [q4]] at hPR
      have HPR := Lib.hid hPR
      have HQ3 := Lib.hid q3
      have hl1 : 1 ≤ ts.length := by
        have := (lex_ended q1).ne
        cases ts with
        | nil => exact absurd rfl this
        | cons a l => simp
      clear hc q1 q2 q3 q4 q6 hg hpl hPR hs
      go_wp2_with fail
      refine HR.out.mono ?_
      rintro e2 w2 ⟨A, c, q, rfl, hO, hb2, hq, hd⟩
      have hqq : ((q : Int) != (ts.length : Int) - 1) = false := by
        have h := congrArg List.length hd
        rw [HQ3.out] at h
        simp only [List.length_drop] at h
        simp only [bne_eq_false_iff_eq]; omega
      have hqq2 : ((q : Int) == (ts.length : Int) - 1) = true := by
        have h := congrArg List.length hd
        rw [HQ3.out] at h
        simp only [List.length_drop] at h
        simp only [beq_iff_eq]; omega
      have hal : Below w2.heap.size w2 (w2.alloc (.cells #[.int .i64 x.kind, .int .i64 x.num, .string x.nm, .slice A x.len c] 48)) := (Below.refl _ _).alloc (Nat.le_refl _) _
      have HB2 := Lib.hid ((HBR.out.trans (hb2.mono HBR.out.size)).trans (hal.mono (by have := hb2.size; omega)))
      have HO2 := Lib.hid (hO.below hal (Nat.le_refl _))
      clear hb2 hO hal hd hq
      go_wp2_with fail
      refine (HPR.out _ (by exact HB2.out) _ _ _ HO2.out).mono ?_
      rintro e3 w3 ⟨rfl, hb3⟩
      have HB3 := Lib.hid (HB2.out.trans (hb3.mono HB2.out.size))
      clear hb3
      go_wp2_with fail
      go_roundg (7 - j)
      case measure => have := HJ.out; omega
      case rel => exact ⟨j + 1, by omega, by go_num, HB3.out⟩
    · obtain rfl : j = 8 := by omega
      have C0 := Lib.hid (fun (W : World) (hW : Below W0.heap.size W0 W) => read24_rd ⟨#[120, 32, 43, 32, 41]⟩ (by unfold maxLen; decide) W (HE.out.below hW HE.out.size) rd0)
      have C1 := Lib.hid (fun (W : World) (hW : Below W0.heap.size W0 W) => read24_rd ⟨#[120, 32, 121]⟩ (by unfold maxLen; decide) W (HE.out.below hW HE.out.size) rd1)
      have C2 := Lib.hid (fun (W : World) (hW : Below W0.heap.size W0 W) => read24_rd ⟨#[49, 32, 60, 32, 50, 32, 60, 32, 51]⟩ (by unfold maxLen; decide) W (HE.out.below hW HE.out.size) rd2)
      have C3 := Lib.hid (fun (W : World) (hW : Below W0.heap.size W0 W) => read24_rd ⟨#[40, 32, 120]⟩ (by unfold maxLen; decide) W (HE.out.below hW HE.out.size) rd3)
      have C4 := Lib.hid (fun (W : World) (hW : Below W0.heap.size W0 W) => read24_rd ⟨#[103, 111]⟩ (by unfold maxLen; decide) W (HE.out.below hW HE.out.size) rd4)
      have C5 := Lib.hid (fun (W : World) (hW : Below W0.heap.size W0 W) => read24_rd ⟨#[40, 40, 40, 40, 40, 40, 40, 40, 120, 41, 41, 41, 41, 41, 41, 41, 41]⟩ (by unfold maxLen; decide) W (HE.out.below hW HE.out.size) rd5)
      have C6 := Lib.hid (fun (W : World) (hW : Below W0.heap.size W0 W) => read24_rd ⟨#[40, 40, 40, 40, 40, 40, 40, 40, 40, 120, 41, 41, 41, 41, 41, 41, 41, 41, 41]⟩ (by unfold maxLen; decide) W (HE.out.below hW HE.out.size) rd6)
      have C7 := Lib.hid (fun (W : World) (hW : Below W0.heap.size W0 W) => read24_rd ⟨#[45, 45, 45, 45, 45, 45, 45, 45, 32, 45, 120]⟩ (by unfold maxLen; decide) W (HE.out.below hW HE.out.size) rd7)
      have C8 := Lib.hid (fun (W : World) (hW : Below W0.heap.size W0 W) => read24_rd ⟨#[]⟩ (by unfold maxLen; decide) W (HE.out.below hW HE.out.size) rd8)
      have P0 := Lib.hid (fun (W : World) (hW : Below W0.heap.size W0 W) => leafP 0 0 [] (by decide) (by decide) (by decide +kernel) W (HE.out.below hW HE.out.size) lp0)
      have P1 := Lib.hid (fun (W : World) (hW : Below W0.heap.size W0 W) => leafP 1 (-1) [] (by decide) (by decide) (by decide +kernel) W (HE.out.below hW HE.out.size) lp1)
      have R2 := Lib.hid (fun (W : World) (hW : Below W0.heap.size W0 W) => leafR 2 0 [103, 111] (by decide) (by decide) (by decide +kernel) W (HE.out.below hW HE.out.size) lr2)
      have R3 := Lib.hid (fun (W : World) (hW : Below W0.heap.size W0 W) => leafR 2 0 [120, 32, 121] (by decide) (by decide) (by decide +kernel) W (HE.out.below hW HE.out.size) lr3)
      have R4 := Lib.hid (fun (W : World) (hW : Below W0.heap.size W0 W) => leafR 1 0 [120] (by decide) (by decide) (by decide +kernel) W (HE.out.below hW HE.out.size) lr4)
      have R5 := Lib.hid (fun (W : World) (hW : Below W0.heap.size W0 W) => leafR 3 0 [] (by decide) (by decide) (by decide +kernel) W (HE.out.below hW HE.out.size) lr5)
      clear hlt hj8 hsz
      have HB := HBR
      go_wp2_with fail
      refine (C0.out _ (by exact HB.out)).mono ?_
      rintro e0 v0 ⟨x0, A0, c0, n0, rfl, hb⟩
      have HB' := Lib.hid ((HB.out.trans (hb.mono HB.out.size)).alloc (by have := HB.out.size; have := hb.size; omega) (.cells #[.int .i64 x0.kind, .int .i64 x0.num, .string x0.nm, .slice A0 x0.len c0] 48))
      clear hb HB
      have HB := HB'
      clear HB'
      go_wp2_with fail
      refine (C1.out _ (by exact HB.out)).mono ?_
      rintro e1 v1 ⟨x1, A1, c1, n1, rfl, hb⟩
      have HB' := Lib.hid ((HB.out.trans (hb.mono HB.out.size)).alloc (by have := HB.out.size; have := hb.size; omega) (.cells #[.int .i64 x1.kind, .int .i64 x1.num, .string x1.nm, .slice A1 x1.len c1] 48))
      clear hb HB
      have HB := HB'
      clear HB'
      go_wp2_with fail
      refine (C2.out _ (by exact HB.out)).mono ?_
      rintro e2 v2 ⟨x2, A2, c2, n2, rfl, hb⟩
      have HB' := Lib.hid ((HB.out.trans (hb.mono HB.out.size)).alloc (by have := HB.out.size; have := hb.size; omega) (.cells #[.int .i64 x2.kind, .int .i64 x2.num, .string x2.nm, .slice A2 x2.len c2] 48))
      clear hb HB
      have HB := HB'
      clear HB'
      go_wp2_with fail
      refine (C3.out _ (by exact HB.out)).mono ?_
      rintro e3 v3 ⟨x3, A3, c3, n3, rfl, hb⟩
      have HB' := Lib.hid ((HB.out.trans (hb.mono HB.out.size)).alloc (by have := HB.out.size; have := hb.size; omega) (.cells #[.int .i64 x3.kind, .int .i64 x3.num, .string x3.nm, .slice A3 x3.len c3] 48))
      clear hb HB
      have HB := HB'
      clear HB'
      go_wp2_with fail
      refine (C4.out _ (by exact HB.out)).mono ?_
      rintro e4 v4 ⟨x4, A4, c4, n4, rfl, hb⟩
      have HB' := Lib.hid ((HB.out.trans (hb.mono HB.out.size)).alloc (by have := HB.out.size; have := hb.size; omega) (.cells #[.int .i64 x4.kind, .int .i64 x4.num, .string x4.nm, .slice A4 x4.len c4] 48))
      clear hb HB
      have HB := HB'
      clear HB'
      go_wp2_with fail
      refine (C5.out _ (by exact HB.out)).mono ?_
      rintro e5 v5 ⟨x5, A5, c5, n5, rfl, hb⟩
      have HB' := Lib.hid ((HB.out.trans (hb.mono HB.out.size)).alloc (by have := HB.out.size; have := hb.size; omega) (.cells #[.int .i64 x5.kind, .int .i64 x5.num, .string x5.nm, .slice A5 x5.len c5] 48))
      clear hb HB
      have HB := HB'
      clear HB'
      go_wp2_with fail
      refine (C6.out _ (by exact HB.out)).mono ?_
      rintro e6 v6 ⟨x6, A6, c6, n6, rfl, hb⟩
      have HB' := Lib.hid ((HB.out.trans (hb.mono HB.out.size)).alloc (by have := HB.out.size; have := hb.size; omega) (.cells #[.int .i64 x6.kind, .int .i64 x6.num, .string x6.nm, .slice A6 x6.len c6] 48))
      clear hb HB
      have HB := HB'
      clear HB'
      go_wp2_with fail
      refine (C7.out _ (by exact HB.out)).mono ?_
      rintro e7 v7 ⟨x7, A7, c7, n7, rfl, hb⟩
      have HB' := Lib.hid ((HB.out.trans (hb.mono HB.out.size)).alloc (by have := HB.out.size; have := hb.size; omega) (.cells #[.int .i64 x7.kind, .int .i64 x7.num, .string x7.nm, .slice A7 x7.len c7] 48))
      clear hb HB
      have HB := HB'
      clear HB'
      go_wp2_with fail
      refine (C8.out _ (by exact HB.out)).mono ?_
      rintro e8 v8 ⟨x8, A8, c8, n8, rfl, hb⟩
      have HB' := Lib.hid ((HB.out.trans (hb.mono HB.out.size)).alloc (by have := HB.out.size; have := hb.size; omega) (.cells #[.int .i64 x8.kind, .int .i64 x8.num, .string x8.nm, .slice A8 x8.len c8] 48))
      clear hb HB
      have HB := HB'
      clear HB'
      go_wp2_with fail
      refine (HK.out _ (by exact HB.out)).mono ?_
      rintro ek vk ⟨rfl, hb⟩
      have HB' := Lib.hid (HB.out.trans (hb.mono HB.out.size))
      clear hb HB
      have HB := HB'
      clear HB'
      go_wp2_with fail
      refine (P0.out _ (by exact HB.out)).mono ?_
      rintro eP0 vP0 ⟨rfl, hb⟩
      have HB' := Lib.hid (HB.out.trans (hb.mono HB.out.size))
      clear hb HB
      have HB := HB'
      clear HB'
      go_wp2_with fail
      refine (P1.out _ (by exact HB.out)).mono ?_
      rintro eP1 vP1 ⟨rfl, hb⟩
      have HB' := Lib.hid (HB.out.trans (hb.mono HB.out.size))
      clear hb HB
      have HB := HB'
      clear HB'
      go_wp2_with fail
      refine (R2.out _ (by exact HB.out)).mono ?_
      rintro eR2 vR2 ⟨rfl, hb⟩
      have HB' := Lib.hid (HB.out.trans (hb.mono HB.out.size))
      clear hb HB
      have HB := HB'
      clear HB'
      go_wp2_with fail
      refine (R3.out _ (by exact HB.out)).mono ?_
      rintro eR3 vR3 ⟨rfl, hb⟩
      have HB' := Lib.hid (HB.out.trans (hb.mono HB.out.size))
      clear hb HB
      have HB := HB'
      clear HB'
      go_wp2_with fail
      refine (R4.out _ (by exact HB.out)).mono ?_
      rintro eR4 vR4 ⟨rfl, hb⟩
      have HB' := Lib.hid (HB.out.trans (hb.mono HB.out.size))
      clear hb HB
      have HB := HB'
      clear HB'
      go_wp2_with fail
      refine (R5.out _ (by exact HB.out)).mono ?_
      rintro eR5 vR5 ⟨rfl, hb⟩
      have HB' := Lib.hid (HB.out.trans (hb.mono HB.out.size))
      clear hb HB
      have HB := HB'
      clear HB'
      go_wp2_with fail
      go_ret
      exact ⟨rfl, HB.out⟩
end Go.Proofs.YtgkfmeccipgnjaaDoor
