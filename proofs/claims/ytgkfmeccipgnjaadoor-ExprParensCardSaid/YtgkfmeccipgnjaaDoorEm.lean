/- Contracts of expr.Right, of the law's read, known. -/
import Derived.Test.YtgkfmeccipgnjaaDoorEl
namespace Go.Proofs.YtgkfmeccipgnjaaDoor
open Go.RowKit

def rightB (e : Ex) : Bool := !(printP e).isEmpty
set_option maxRecDepth 100000 in
set_option maxHeartbeats 2000000 in
theorem right_any (e : Ex) (ok : Nat → Prop) (A : Option Addr) (c : Nat) (w : World) (hO : PrOk ok w e A c) (hE : Env w) :
    Calls Tryd.prog 27 #[.agg #[.int .i64 e.kind, .int .i64 e.num, .string e.nm, .slice A e.len c]] w fun e' w' => e' = .returned (.bool (rightB e)) ∧ Below w.heap.size w w' := by
  obtain ⟨S, hS⟩ : ∃ S : ByteArray, S = ⟨(printP e).toArray⟩ := ⟨_, rfl⟩
  have P1 := fun (W : World) (hW : Below w.heap.size w W) => print_any e ok A c W ⟨hO.wf, hO.at_.below hW (Nat.le_refl _), hO.size⟩ (hE.below hW hE.size)
  rw [← hS] at P1
  have HP1 := Lib.hid P1
  have hb : S.toList.isEmpty = !rightB e := by rw [toList_data, hS]; simp [rightB]
  obtain ⟨v, hv⟩ : ∃ v, v = rightB e := ⟨_, rfl⟩
  rw [← hv] at hb ⊢
  clear P1 hS hO hE hv
  go_enter Tryd.func27, Tryd.ntmps27
  go_wp2_with fail
  refine (HP1.out _ (by exact (Below.refl _ _).alloc (Nat.le_refl _) _)).mono ?_
  rintro e1 w1 ⟨rfl, hb1⟩
  have HB1 := Lib.hid ((Below.refl w.heap.size w).alloc (Nat.le_refl _) (.cells #[.int .i64 e.kind, .int .i64 e.num, .string e.nm, .slice A e.len c] 48) |>.trans (hb1.mono (by simp)))
  clear hb1
  go_wp2_with fail
  go_ret
  exact ⟨ret_bool (by simp), HB1.out⟩

theorem results_cell_tmp3 {fn : Func} {p u v x : Tmp} {ty : TypeId} (h : fn.results = #[.cell p ty, .tmp u, .tmp v, .tmp x]) (tmps : Array Value) (P : Program) (w : World) :
    (results fn tmps).run P w = ((asAddr (tmps.getD p undef)).run P w).andThen fun a w₁ => ((loadVar ty a).run P w₁).andThen fun y w₂ => .ok (.tuple #[y, tmps.getD u undef, tmps.getD v undef, tmps.getD x undef]) w₂ := by
  simp only [results, h]
  simp [Sem.run_bind, Result.andThen]
theorem ret24 {fn : Func} (hfn : fn.results = #[.cell 2 48, .tmp 3, .tmp 4, .tmp 5]) (tmps : Array Value) (W : World) (g : Nat) (cs : Array Value) (hcs : cs.size = 4) (m n : Int) (ob : Bool) (hg : W.heap[g]? = some (.cells cs 48 (0, 0))) (h2 : tmps.getD 2 undef = .pointer (some ⟨g, 0, none⟩)) (h3 : tmps.getD 3 undef = .int .i64 m) (h4 : tmps.getD 4 undef = .bool ob) (h5 : tmps.getD 5 undef = .int .i64 n) :
    (results fn tmps).run Tryd.prog W = .ok (.tuple #[.agg cs, .int .i64 m, .bool ob, .int .i64 n]) W := by
  rw [results_cell_tmp3 hfn, h2, h3, h4, h5]
  simp [asAddr, Result.andThen, run_loadVar_row (P := Tryd.prog) W g 48 48 cs (0, 0) _ hg Tryd.underlying48 rfl (by rw [hcs]; exact info48s)]

/-- What the law's read answers. -/
def RPost (L : List UInt8) (w : World) (e : Ending) (w' : World) : Prop :=
  ∃ (x : Ex) (A : Option Addr) (c q : Nat) (okb : Bool) (n : Nat), e = .returned (.tuple #[.agg #[.int .i64 x.kind, .int .i64 x.num, .string x.nm, .slice A x.len c], .int .i64 q, .bool okb, .int .i64 n]) ∧ OfAt (w.heap.size ≤ ·) w' x (.slice A x.len c) ∧ Below w.heap.size w w' ∧
    (match lexAll L with
    | .bad _ => x = Ex.zero ∧ q = 0 ∧ okb = false ∧ n = 0
    | .good ts => n = ts.length ∧ q < n ∧ (match readF ts with
      | .ok y r => x = y ∧ okb = true ∧ ts.drop q = r
      | .bad r => x = Ex.zero ∧ okb = false ∧ ts.drop q = r))

set_option maxRecDepth 100000 in
set_option maxHeartbeats 2000000 in
theorem read24 (s : ByteArray) (hs : s.size ≤ maxLen) (w : World) (hE : Env w) : Calls Tryd.prog 24 #[.string s] w fun e w' => RPost s.data.toList w e w' := by
  cases hx : lexAll s.data.toList with
  | bad p =>
    have HL := Lib.hid (lex_none s hs hx _ (hE.below ((Below.refl _ w).alloc (Nat.le_refl _) (.cells zeroEx 48)) hE.size))
    have HX := Lib.hid hx
    clear hx hE
    go_enter Tryd.func24, Tryd.ntmps24
    go_wp2_with fail
    refine HL.out.mono ?_
    rintro e1 w1 ⟨X, Y, rfl, hb1⟩
    have HB1 := Lib.hid ((Below.refl w.heap.size w).alloc (Nat.le_refl _) (.cells zeroEx 48) |>.trans (hb1.mono (by simp)))
    have hrow := Lib.hid ((hb1.block w.heap.size (by simp)).trans (heap_alloc_new w (.cells zeroEx 48)))
    clear hb1
    obtain ⟨⟨g0, g1, g2, g3⟩, j0, j1, j2, j3⟩ := row_facts hrow.out
    go_wp2_with fail
    refine bodyPost_ret (ret24 rfl _ _ w.heap.size (exC Ex.zero (.slice none 0 0)) rfl 0 0 false (set4 hrow.out rfl _ _ _ _) rfl rfl rfl rfl) rfl ⟨Ex.zero, none, 0, 0, false, 0, rfl, ⟨none, 0, rfl, by decide⟩, ?_, by rw [HX.out]; exact ⟨rfl, rfl, rfl, rfl⟩⟩
    exact (((HB1.out.setCell (p := ⟨w.heap.size, 0, none⟩) (Nat.le_refl _) _).setCell (p := ⟨w.heap.size, 1, none⟩) (Nat.le_refl _) _).setCell (p := ⟨w.heap.size, 2, none⟩) (Nat.le_refl _) _).setCell (p := ⟨w.heap.size, 3, none⟩) (Nat.le_refl _) _
  | good ts =>
    have HL := Lib.hid (lex_good s hx _ (hE.below ((Below.refl _ w).alloc (Nat.le_refl _) (.cells zeroEx 48)) hE.size))
    have HX := Lib.hid hx
    obtain ⟨hEnd, pre, pp, hts, _⟩ := lex_endok hx
    have hlen : 0 < ts.length := by rw [hts]; simp
    have hlen0 : ((ts.length : Int) == 0) = false := by simp only [beq_eq_false_iff_ne]; omega
    have HEnd := Lib.hid hEnd
    clear hx hE hEnd hts
    go_enter Tryd.func24, Tryd.ntmps24
    go_wp2_with fail
    refine HL.out.mono ?_
    rintro e1 w1 ⟨b, off, c, rfl, hT, hb1, hz1⟩
    have HB1 := Lib.hid ((Below.refl w.heap.size w).alloc (Nat.le_refl _) (.cells zeroEx 48) |>.trans (hb1.mono (by simp)))
    have HROW1 := Lib.hid ((hb1.block w.heap.size (by simp)).trans (heap_alloc_new w (.cells zeroEx 48)))
    have hz2 : w.heap.size < w1.heap.size := by simp at hz1; omega
    have HT := Lib.hid hT
    clear hb1 hT
    go_wp2_with fail
    refine (read_any w1 b off c s ts HT.out HEnd.out 0 hlen).mono ?_
    rintro e2 w2 ⟨x, sl, q, okb, rfl, hO2, hB2, hq, hres⟩
    rw [List.drop_zero] at hres
    obtain ⟨A, cc, rfl, hc1, hc2⟩ := hO2.slice
    have HO2 := Lib.hid hO2
    have HRES := Lib.hid hres
    have HROW2 := Lib.hid ((hB2.block _ hz2).trans HROW1.out)
    have hz3 := hB2.size
    have hz4 : w.heap.size < w2.heap.size := by omega
    have hz5 : ¬ w2.heap.size = w.heap.size := by omega
    have HB2 := Lib.hid (HB1.out.trans (hB2.mono (by omega)))
    clear hO2 hres hB2
    obtain ⟨⟨g0, g1, g2, g3⟩, j0, j1, j2, j3⟩ := row_facts HROW2.out
    go_wp2_with fail
    refine bodyPost_ret (ret24 rfl _ _ w.heap.size (exC x (.slice A x.len cc)) rfl q ts.length okb ((heap_alloc_old _ _ (by simp; omega)).trans (set4 HROW2.out rfl _ _ _ _)) rfl rfl rfl rfl) rfl ⟨x, A, cc, q, okb, ts.length, rfl, ?_, ?_, ?_⟩
    · refine (HO2.out.keep (by simp) (fun k h1 h2 => ?_)).low (fun k _ h => by omega)
      exact (heap_alloc_old _ _ (by simp; omega)).trans (hk4 (by omega) _ _ _ _)
    · exact ((((HB2.out.setCell (p := ⟨w.heap.size, 0, none⟩) (Nat.le_refl _) _).setCell (p := ⟨w.heap.size, 1, none⟩) (Nat.le_refl _) _).setCell (p := ⟨w.heap.size, 2, none⟩) (Nat.le_refl _) _).setCell (p := ⟨w.heap.size, 3, none⟩) (Nat.le_refl _) _).alloc (by simp; omega) _
    · rw [HX.out]; exact ⟨rfl, hq, HRES.out⟩

/-- Chapter 4's example. -/
def exK : Ex := .bin 6 (.bin 4 (.leaf 2 0 [120]) (.leaf 1 1 [])) (.un 3 (.leaf 1 2 []))
theorem exK_lex : lexAll [40, 120, 43, 49, 41, 42, 40, 45, 40, 50, 41, 41] = .good [⟨3, [40], 0, 0⟩, ⟨1, [120], 0, 1⟩, ⟨3, [43], 0, 2⟩, ⟨2, [49], 1, 3⟩, ⟨3, [41], 0, 4⟩, ⟨3, [42], 0, 5⟩, ⟨3, [40], 0, 6⟩, ⟨3, [45], 0, 7⟩, ⟨3, [40], 0, 8⟩, ⟨2, [50], 2, 9⟩, ⟨3, [41], 0, 10⟩, ⟨3, [41], 0, 11⟩, ⟨4, [], 0, 12⟩] := by decide +kernel
theorem exK_read : readF [⟨3, [40], 0, 0⟩, ⟨1, [120], 0, 1⟩, ⟨3, [43], 0, 2⟩, ⟨2, [49], 1, 3⟩, ⟨3, [41], 0, 4⟩, ⟨3, [42], 0, 5⟩, ⟨3, [40], 0, 6⟩, ⟨3, [45], 0, 7⟩, ⟨3, [40], 0, 8⟩, ⟨2, [50], 2, 9⟩, ⟨3, [41], 0, 10⟩, ⟨3, [41], 0, 11⟩, ⟨4, [], 0, 12⟩] = .ok exK [⟨4, [], 0, 12⟩] := by decide +kernel
theorem exK_print : printP exK = [40, 120, 32, 43, 32, 49, 41, 32, 42, 32, 45, 50] := by decide +kernel
theorem exK_size : plen exK 0 ≤ 1000000000 := by decide +kernel
theorem exK_wf : wfE exK := by simp [wfE, exK]

set_option maxRecDepth 100000 in
set_option maxHeartbeats 2000000 in
theorem known4 (w : World) (hE : Env w) : Calls Tryd.prog 26 #[] w fun e w' => e = .returned (.bool true) ∧ Below w.heap.size w w' := by
  have C24 : Calls Tryd.prog 24 #[.string ⟨#[40, 120, 43, 49, 41, 42, 40, 45, 40, 50, 41, 41]⟩] w fun e w' => ∃ A c, e = .returned (.tuple #[.agg #[.int .i64 exK.kind, .int .i64 exK.num, .string exK.nm, .slice A exK.len c], .int .i64 12, .bool true, .int .i64 13]) ∧ OfAt (w.heap.size ≤ ·) w' exK (.slice A exK.len c) ∧ Below w.heap.size w w' := by
    refine (read24 ⟨#[40, 120, 43, 49, 41, 42, 40, 45, 40, 50, 41, 41]⟩ (by decide) w hE).mono fun e w' h => ?_
    obtain ⟨x, A, c, q, okb, n, he, hO, hB, hm⟩ := h
    rw [show (⟨#[40, 120, 43, 49, 41, 42, 40, 45, 40, 50, 41, 41]⟩ : ByteArray).data.toList = [40, 120, 43, 49, 41, 42, 40, 45, 40, 50, 41, 41] from rfl, exK_lex] at hm
    obtain ⟨hn, hq, hm⟩ := hm
    rw [exK_read] at hm
    obtain ⟨rfl, rfl, hd⟩ := hm
    have hl := congrArg List.length hd
    simp at hl hn
    obtain rfl : q = 12 := by omega
    subst hn
    exact ⟨A, c, he, hO, hB⟩
  have H24 := Lib.hid C24
  clear C24
  have hkd : exK.len = 2 := rfl
  go_enter Tryd.func26, Tryd.ntmps26
  go_wp2_with fail
  refine H24.out.mono ?_
  rintro e1 w1 ⟨A, c, rfl, hO, hB⟩
  have HP := fun (W : World) (hW : Below w1.heap.size w1 W) => print_any exK _ A c W ⟨exK_wf, hO.below hW (Nat.le_refl _), exK_size⟩ ((hE.below hB hE.size).below hW (hE.below hB hE.size).size)
  rw [exK_print] at HP
  have HP := Lib.hid HP
  have HR := fun (W : World) (hW : Below w1.heap.size w1 W) => right_any exK _ A c W ⟨exK_wf, hO.below hW (Nat.le_refl _), exK_size⟩ ((hE.below hB hE.size).below hW (hE.below hB hE.size).size)
  rw [show rightB exK = true by rw [rightB, exK_print]; rfl] at HR
  have HR := Lib.hid HR
  have HB := Lib.hid hB
  clear hO hB hE hkd
  go_wp2_with fail
  refine (HP.out _ (by exact (Below.refl _ _).alloc (Nat.le_refl _) _)).mono ?_
  rintro e2 w2 ⟨rfl, hb2⟩
  have hz2 : w1.heap.size < w2.heap.size := by have := hb2.size; simp at this; omega
  have HB2 := Lib.hid ((Below.refl w1.heap.size w1).alloc (Nat.le_refl _) (.cells #[.int .i64 exK.kind, .int .i64 exK.num, .string exK.nm, .slice A exK.len c] 48) |>.trans (hb2.mono (by simp)))
  have hrow := (hb2.block w1.heap.size (by simp)).trans (heap_alloc_new w1 (.cells #[.int .i64 exK.kind, .int .i64 exK.num, .string exK.nm, .slice A exK.len c] 48))
  have m0 : w2.cell? ⟨w1.heap.size, 0, none⟩ = some (.int .i64 exK.kind) := cell_of_row _ _ 0 _ 48 (0, 0) hrow
  have m1 : w2.cell? ⟨w1.heap.size, 1, none⟩ = some (.int .i64 exK.num) := cell_of_row _ _ 1 _ 48 (0, 0) hrow
  have m2 : w2.cell? ⟨w1.heap.size, 2, none⟩ = some (.string exK.nm) := cell_of_row _ _ 2 _ 48 (0, 0) hrow
  have m3 : w2.cell? ⟨w1.heap.size, 3, none⟩ = some (.slice A exK.len c) := cell_of_row _ _ 3 _ 48 (0, 0) hrow
  clear hrow hb2
  go_wp2_with fail
  refine (HR.out _ (by exact HB2.out)).mono ?_
  rintro e3 w3 ⟨rfl, hb3⟩
  have HB3 := Lib.hid (HB.out.trans ((HB2.out.trans (hb3.mono (by omega))).mono HB.out.size))
  clear hb3
  go_wp2_with fail
  go_ret
  exact ⟨rfl, HB3.out⟩

-- the raw text

def parts4B : List ByteArray := parts4.map fun l => ⟨l.toArray⟩
theorem info97 : (Tryd.prog.info? 97).map (·.size) = some 24 := by kernel_rfl
theorem parts4_one : ((parts4B.map Value.string).toArray).all (·.oneCell') = true := by decide +kernel
theorem parts4_len : parts4B.length = 24 := rfl
theorem parts4_small : ∀ k, k < 24 → (parts4B.getD k ByteArray.empty).size ≤ 2 := by decide +kernel
def piece4 (z : Int) : ByteArray := parts4B.getD (z % 24).toNat ByteArray.empty ++ ⟨#[32]⟩
def text4B (zs : List Int) : ByteArray := zs.foldl (fun s z => s ++ piece4 z) ByteArray.empty
theorem text4_snoc (zs : List Int) (z : Int) : text4B (zs ++ [z]) = text4B zs ++ piece4 z := by simp [text4B]
theorem piece4_small (z : Int) : (piece4 z).size ≤ 3 := by
  have h0 := Int.emod_nonneg z (b := 24) (by decide)
  have h1 := Int.emod_lt_of_pos z (b := 24) (by decide)
  have := parts4_small (z % 24).toNat (by omega)
  simp only [piece4, ByteArray.size_append]
  have e : (⟨#[32]⟩ : ByteArray).size = 1 := rfl
  omega
theorem text4_size (zs : List Int) : (text4B zs).size ≤ 3 * zs.length := by
  have gen : ∀ (zs : List Int) (s : ByteArray), (zs.foldl (fun s z => s ++ piece4 z) s).size ≤ s.size + 3 * zs.length := by
    intro zs
    induction zs with
    | nil => intro s; simp
    | cons z zs ih =>
      intro s
      have := ih (s ++ piece4 z)
      have h := piece4_small z
      simp only [List.foldl_cons, List.length_cons, ByteArray.size_append] at this ⊢
      omega
  have := gen zs ByteArray.empty
  simpa [text4B] using this
theorem parts4_same : ∀ k, k < 24 → (parts4B.getD k ByteArray.empty).data.toList = parts4.getD k [] ∧ parts4.getD k [] ∈ parts4 := by decide +kernel
theorem text4_raw (zs : List Int) : ∃ ps, (∀ p ∈ ps, p ∈ parts4) ∧ (text4B zs).data.toList = rawText ps := by
  have gen : ∀ (zs : List Int) (s : ByteArray), ∃ ps, (∀ p ∈ ps, p ∈ parts4) ∧ (zs.foldl (fun s z => s ++ piece4 z) s).data.toList = s.data.toList ++ rawText ps := by
    intro zs
    induction zs with
    | nil => intro s; exact ⟨[], by simp, by simp [rawText]⟩
    | cons z zs ih =>
      intro s
      obtain ⟨ps, h1, h2⟩ := ih (s ++ piece4 z)
      have h0 := Int.emod_nonneg z (b := 24) (by decide)
      have h24 := Int.emod_lt_of_pos z (b := 24) (by decide)
      have hk : (z % 24).toNat < 24 := by omega
      refine ⟨parts4.getD (z % 24).toNat [] :: ps, ?_, ?_⟩
      · intro p hp
        rcases List.mem_cons.mp hp with rfl | hp
        · exact (parts4_same _ hk).2
        · exact h1 p hp
      · rw [List.foldl_cons, h2, ByteArray.data_append, piece4, ByteArray.data_append]
        simp only [Array.toList_append]
        rw [(parts4_same _ hk).1]
        simp [rawText]
  obtain ⟨ps, h1, h2⟩ := gen zs ByteArray.empty
  exact ⟨ps, h1, by rw [text4B, h2]; rfl⟩

set_option maxRecDepth 100000 in
set_option maxHeartbeats 1000000 in
theorem text4_any (v : Value) (zs : List Int) (w : World) (hv : IntsAt w v zs) :
    Calls Tryd.prog 28 #[v] w fun e w' => e = .returned (.string (text4B zs)) ∧ Below w.heap.size w w' := by
  obtain ⟨h47, hzb, A, c, rfl, hc, hcell⟩ := hv
  have HZB := Lib.hid hzb
  clear hzb
  obtain ⟨n, hn⟩ : ∃ n, n = zs.length := ⟨_, rfl⟩
  rw [← hn] at h47 hc hcell ⊢
  have HN := Lib.hid hn
  clear hn
  go_enter Tryd.func28, Tryd.ntmps28
  go_wp2_with (refine store_fresh rfl 97 _ _ rfl (parts4B.map Value.string).toArray rfl rfl 97 _ info97 rfl parts4_one ?_)
  have hb : Below w.heap.size w (w.alloc (.cells (parts4B.map Value.string).toArray 97)) := (Below.refl _ _).alloc (Nat.le_refl _) _
  have hp : ∀ k, k < 24 → (w.alloc (.cells (parts4B.map Value.string).toArray 97)).cell? ⟨w.heap.size, k, none⟩ = some (.string (parts4B.getD k ByteArray.empty)) := by
    intro k hk
    have hk' : k < parts4B.length := by rw [parts4_len]; exact hk
    rw [World.cell?_alloc_new]
    simp [hk']
  have hcell' : n = 0 ∨ ∃ b off, A = some ⟨b, off, none⟩ ∧ ∀ j, j < n → (w.alloc (.cells (parts4B.map Value.string).toArray 97)).cell? ⟨b, off + j, none⟩ = some (.int .i64 (zs.getD j 0)) := by
    rcases hcell with h | ⟨b, off, hA, hblt, h⟩
    · exact .inl h
    · exact .inr ⟨b, off, hA, fun j hj => (hb.cell (p := ⟨b, off + j, none⟩) hblt).trans (h j hj)⟩
  clear hcell
  obtain ⟨w1, hw1⟩ : ∃ w1, w1 = w.alloc (.cells (parts4B.map Value.string).toArray 97) := ⟨_, rfl⟩
  rw [← hw1] at hb hp hcell' ⊢
  have HP := Lib.hid hp
  have HC := Lib.hid hcell'
  clear hp hcell' hw1
  go_loop [4, 10] (fun s i => ∃ j : Nat, j ≤ n ∧ i = .int .i64 j ∧ s = .string (text4B (zs.take j))) (fun _ i => n - (intOf i).toNat)
  case atStart => exact ⟨0, Nat.zero_le _, rfl, rfl⟩
  case round =>
    obtain ⟨j, hj, rfl, rfl⟩ := hrel
    have hsz := text4_size (zs.take j)
    have hlen : (zs.take j).length ≤ j := List.length_take_le _ _
    by_cases hlt : j < n
    · rcases HC.out with h0 | ⟨b, off, rfl, hcl⟩
      · omega
      · have hx := hcl j hlt
        have hT := Lib.hid (take_snocI zs j (by rw [← HN.out]; exact hlt))
        have hzb := HZB.out j
        clear hcl
        generalize zs.getD j 0 = z at hx hT hzb
        obtain ⟨hz1, hz2⟩ := hzb
        have h0 := Int.emod_nonneg z (b := 24) (by decide)
        have h1 := Int.emod_lt_of_pos z (b := 24) (by decide)
        obtain ⟨k, hk2⟩ : ∃ k : Nat, z % 24 = k := ⟨(z % 24).toNat, by omega⟩
        have hpc := HP.out k (by omega)
        have hps := parts4_small k (by omega)
        have hps' : (parts4B[k]?.getD ByteArray.empty).size ≤ 2 := by simpa using hps
        have HT2 := Lib.hid (show text4B (zs.take (j + 1)) = text4B (zs.take j) ++ parts4B[k]?.getD ByteArray.empty ++ ⟨#[32]⟩ by rw [hT.out, text4_snoc, piece4, hk2]; simp [ByteArray.append_assoc])
        clear hT hps
        go_wp2_with (go_at_call 23; refine (pick_any _ _ (by decide) (by decide) _).mono ?_; rintro e w' ⟨rfl, rfl⟩)
        go_round
        case rel => exact ⟨j + 1, by omega, by go_num, by rw [HT2.out]⟩
        case measure => simp [intOf]; omega
    · have hz : Hid (j = n) := by unfold Hid; omega
      go_wp2
      go_ret
      exact ⟨ret_str (by rw [hz.out, HN.out, List.take_length]), hb⟩
end Go.Proofs.YtgkfmeccipgnjaaDoor
