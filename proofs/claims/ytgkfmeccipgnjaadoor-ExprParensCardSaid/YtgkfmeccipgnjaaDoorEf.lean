/- Contract of expr's factor: where no parenthesis and no minus is read. -/
import Derived.Test.YtgkfmeccipgnjaaDoorEe
import Derived.BigRegion
import Derived.Outline
namespace Go.Proofs.YtgkfmeccipgnjaaDoor
open Go.RowKit

theorem run_store_cx {P : Program} {w : World} (a : Addr) (m : Mode) (k : FloatKind) (x y : Nat) : (store a (.complex k x y) m).run P w = stored P w a (.complex k x y) m := run_store P w a _ m rfl

theorem is_here {w W : World} {R b off c : Nat} {s : ByteArray} {ts : List Tok} {p : Nat} (hp : p < ts.length) (hT : ToksAt w b off c s ts) (hR : RdAt w R b off c ts.length p false) (hb : Below w.heap.size w W) {tx : ByteArray} {v : Bool} (hv : tokIs ts p 3 tx.data.toList = v) :
    Calls Tryd.prog 104 #[.pointer (some ⟨R, 0, none⟩), .string tx] W fun e w' => e = .returned (.bool v) ∧ ∃ k, W.drewN k = w' := by
  refine (is_any W R b off c s ts p false tx hp (hT.below hb hT.lt) (hR.below hb hR.lt)).mono fun e w' ⟨he, k, hk⟩ => ⟨?_, k, hk.symm⟩
  rw [he, hv]; rfl

theorem name_here {tx : List UInt8} (h : tx.length ≤ 6000) {v : Bool} (hv : nameL tx = v) (W : World) : Calls Tryd.prog 19 #[.string ⟨tx.toArray⟩] W fun e w' => e = .returned (.bool v) ∧ Below W.heap.size W w' := by
  refine (isName_any ⟨tx.toArray⟩ ?_ W).mono fun e w' ⟨he, hb⟩ => ⟨?_, hb⟩
  · rw [size_length]; unfold maxLen; simp; omega
  · rw [he, ← hv]; rfl
theorem set4 {V : World} {g : Nat} {cs : Array Value} {T : TypeId} (hg : V.heap[g]? = some (.cells cs T (0, 0))) (h4 : cs.size = 4) (v0 v1 v2 v3 : Value) :
    ((((V.setCell ⟨g, 0, none⟩ v0).setCell ⟨g, 1, none⟩ v1).setCell ⟨g, 2, none⟩ v2).setCell ⟨g, 3, none⟩ v3).heap[g]? = some (.cells #[v0, v1, v2, v3] T (0, 0)) := by
  have h0 := heap_setCell_same V g 0 cs T v0 hg
  have h1 := heap_setCell_same _ g 1 _ T v1 h0
  have h2 := heap_setCell_same _ g 2 _ T v2 h1
  have h3 := heap_setCell_same _ g 3 _ T v3 h2
  rw [h3]
  match cs, h4 with
  | ⟨[a, b, c, d]⟩, _ => rfl
theorem But.below {R : Nat} {w V W : World} {B : Nat} (h : But R w V) (hb : Below B V W) (hB : w.heap.size ≤ B) : But R w W :=
  ⟨hb.os.trans h.os, hb.tape.trans h.tape, hb.output.trans h.output, Nat.le_trans h.size hb.size, fun k hk hr => (hb.block k (by omega)).trans (h.block k hk hr)⟩
theorem row_facts {W : World} {g : Nat} (h : W.heap[g]? = some (.cells zeroEx 48 (0, 0))) :
    (W.cell? ⟨g, 0, none⟩ = some (.int .i64 0) ∧ W.cell? ⟨g, 1, none⟩ = some (.int .i64 0) ∧ W.cell? ⟨g, 2, none⟩ = some (.string ⟨#[]⟩) ∧ W.cell? ⟨g, 3, none⟩ = some (.slice none 0 0)) ∧
    (W.frozen? ⟨g, 0, none⟩ = false ∧ W.frozen? ⟨g, 1, none⟩ = false ∧ W.frozen? ⟨g, 2, none⟩ = false ∧ W.frozen? ⟨g, 3, none⟩ = false) :=
  ⟨⟨cell_of_row W g 0 _ 48 (0, 0) h, cell_of_row W g 1 _ 48 (0, 0) h, cell_of_row W g 2 _ 48 (0, 0) h, cell_of_row W g 3 _ 48 (0, 0) h⟩, by simp [World.frozen?, h]⟩
theorem two_old {w : World} {o1 o2 : Obj} {k : Nat} : (((w.alloc o1).alloc o2).drewN k).heap[w.heap.size]? = some o1 := (heap_alloc_old _ _ (by simp)).trans (heap_alloc_new _ _)
theorem two_new {w : World} {o1 o2 : Obj} {k : Nat} : (((w.alloc o1).alloc o2).drewN k).heap[w.heap.size + 1]? = some o2 := by
  have := heap_alloc_new (w.alloc o1) o2
  simpa using this
theorem fail_here {V : World} {R b off c n p : Nat} {bad : Bool} (hR : RdAt V R b off c n p bad) : Calls Tryd.prog 105 #[.pointer (some ⟨R, 0, none⟩)] V fun e w' => e = .returned (.agg #[.int .i64 0, .int .i64 0, .string ⟨#[]⟩, .slice none 0 0]) ∧ RdAt w' R b off c n p true ∧ But R V w' :=
  fail_any V R b off c n p bad hR
theorem is_now {W : World} {R b off c q : Nat} {s : ByteArray} {ts : List Tok} {bad : Bool} (hq : q < ts.length) (hT : ToksAt W b off c s ts) (hR : RdAt W R b off c ts.length q bad) {tx : ByteArray} {v : Bool} (hv : (!bad && tokIs ts q 3 tx.data.toList) = v) :
    Calls Tryd.prog 104 #[.pointer (some ⟨R, 0, none⟩), .string tx] W fun e w' => e = .returned (.bool v) ∧ ∃ k, W.drewN k = w' :=
  (is_any W R b off c s ts q bad tx hq hT hR).mono fun e w' ⟨he, k, hk⟩ => ⟨by rw [he, hv], k, hk.symm⟩
/-- The operand in a new block, behind it whatever leaves the elder blocks alone. -/
theorem of_un {ok : Nat → Prop} {w4 W : World} {x : Ex} {sl : Value} (h : OfAt ok w4 x sl) (hlo : ok w4.heap.size) (hs : w4.heap.size < W.heap.size) (hb : ∀ k, ok k → k < w4.heap.size → W.heap[k]? = w4.heap[k]?)
    (hn : W.heap[w4.heap.size]? = some (.cells #[.int .i64 x.kind, .int .i64 x.num, .string x.nm, sl] 48 (0, 0))) : OfAt ok W (.un 3 x) (.slice (some ⟨w4.heap.size, 0, none⟩) 1 1) :=
  ⟨_, 0, 1, sl, rfl, by omega, by omega, hlo, hs, ⟨cell_of_row _ _ 0 _ 48 (0, 0) hn, cell_of_row _ _ 1 _ 48 (0, 0) hn, cell_of_row _ _ 2 _ 48 (0, 0) hn, cell_of_row _ _ 3 _ 48 (0, 0) hn⟩, h.keep (by omega) hb⟩
/-- Four cells of the result, stored last. -/
theorem fin4 {w V : World} {R b off c n q : Nat} {bad : Bool} {cs : Array Value} (hR : RdAt V R b off c n q bad) (hB : But R w V) (hg : V.heap[w.heap.size]? = some (.cells cs 48 (0, 0))) (h4 : cs.size = 4) (hlt : R < w.heap.size) (v0 v1 v2 v3 : Value) :
    ((((V.setCell ⟨w.heap.size, 0, none⟩ v0).setCell ⟨w.heap.size, 1, none⟩ v1).setCell ⟨w.heap.size, 2, none⟩ v2).setCell ⟨w.heap.size, 3, none⟩ v3).heap[w.heap.size]? = some (.cells #[v0, v1, v2, v3] 48 (0, 0)) ∧
    RdAt ((((V.setCell ⟨w.heap.size, 0, none⟩ v0).setCell ⟨w.heap.size, 1, none⟩ v1).setCell ⟨w.heap.size, 2, none⟩ v2).setCell ⟨w.heap.size, 3, none⟩ v3) R b off c n q bad ∧
    But R w ((((V.setCell ⟨w.heap.size, 0, none⟩ v0).setCell ⟨w.heap.size, 1, none⟩ v1).setCell ⟨w.heap.size, 2, none⟩ v2).setCell ⟨w.heap.size, 3, none⟩ v3) := by
  have hb : Below w.heap.size V ((((V.setCell ⟨w.heap.size, 0, none⟩ v0).setCell ⟨w.heap.size, 1, none⟩ v1).setCell ⟨w.heap.size, 2, none⟩ v2).setCell ⟨w.heap.size, 3, none⟩ v3) :=
    ((((Below.refl _ _).setCell (p := ⟨w.heap.size, 0, none⟩) (Nat.le_refl _) v0).setCell (p := ⟨w.heap.size, 1, none⟩) (Nat.le_refl _) v1).setCell (p := ⟨w.heap.size, 2, none⟩) (Nat.le_refl _) v2).setCell (p := ⟨w.heap.size, 3, none⟩) (Nat.le_refl _) v3
  exact ⟨set4 hg h4 v0 v1 v2 v3, hR.below hb hlt, hB.below hb (Nat.le_refl _)⟩


set_option maxRecDepth 100000 in
set_option maxHeartbeats 4000000 in
theorem factor_num (w : World) (R b off c : Nat) (s : ByteArray) (ts : List Tok) (p : Nat) (hT : ToksAt w b off c s ts) (hR : RdAt w R b off c ts.length p false) (hE : EndOk ts) (t : Tok) (ht : ts[p]? = some t) (deep : Int)
    (hk : t.kind = 2) : Calls Tryd.prog 87 #[.pointer (some ⟨R, 0, none⟩), .int .i64 deep] w fun e w' => EPost R b off c ts w (.ok (.leaf 1 t.n []) (ts.drop (p + 1))) e w' := by
  obtain ⟨hp, _⟩ := List.getElem?_eq_some_iff.mp ht
  have hp1 := hE.more p t ht (by omega)
  have a0 := (hT.tok p t ht).kind
  have a1 := (hT.tok p t ht).text
  have a2 := (hT.tok p t ht).num
  have a3 := (hT.tok p t ht).pos
  obtain ⟨X, Y, hXY⟩ : ∃ X Y, plc (spotL (s.data.toList.take t.pos)) = .complex .f64 X Y := ⟨_, _, rfl⟩
  rw [hXY] at a3
  obtain ⟨n, hn⟩ : ∃ n, n = ts.length := ⟨_, rfl⟩
  have c0 : w.cell? ⟨R, 0, none⟩ = some (.slice (some ⟨b, off, none⟩) n c) := by rw [hn]; exact hR.cell 0
  have c1 : w.cell? ⟨R, 1, none⟩ = some (.int .i64 p) := hR.cell 1
  have c2 : w.cell? ⟨R, 2, none⟩ = some (.bool false) := hR.cell 2
  have l1 := hT.lt
  have l2 := hR.lt
  have hnc := hT.le
  have hcc := hT.cap
  rw [← hn] at hnc
  have hvm : tokIs ts p 3 (⟨#[45]⟩ : ByteArray).data.toList = false := by simp [tokIs, ht, hk]
  have hvp : tokIs ts p 3 (⟨#[40]⟩ : ByteArray).data.toList = false := by simp [tokIs, ht, hk]
  have ISM := Lib.hid (fun (W : World) (hb : Below w.heap.size w W) => is_here (by omega) hT hR hb hvm)
  have ISP := Lib.hid (fun (W : World) (hb : Below w.heap.size w W) => is_here (by omega) hT hR hb hvp)
  have f1 := hR.frozen 1
  have f2 := hR.frozen 2
  rw [← hn] at hp hp1
  have i1 : (0 : Int) ≤ (p : Int) := by omega
  have i2 : (p : Int) < (n : Int) := by omega
  have hwp : IntKind.i64.wrap (p : Int) = (p : Int) := IntWalk.i64_in _ (by omega)
  have hne1 : ¬ w.heap.size + 1 = R := by omega
  have hne0 : ¬ w.heap.size = R := by omega
  rw [hk] at a0
  have hcx := @run_store_cx Tryd.prog
  have HT := Lib.hid hT
  have HR := Lib.hid hR
  have HN := Lib.hid hn
  have HTt := Lib.hid ht
  clear hT hR hn ht hXY hk hvm hvp hE
  go_enter Tryd.func87, Tryd.ntmps87
  go_wp2_with fail
  go_region
  go_wp2_with fail
  refine (ISM.out _ (by exact below_drewN (((Below.refl _ _).alloc (Nat.le_refl _) _).alloc (by simp) _) _)).mono ?_
  rintro e w2 ⟨rfl, k1, rfl⟩
  go_wp2_with fail
  refine (ISP.out _ (by exact below_drewN (((Below.refl _ _).alloc (Nat.le_refl _) _).alloc (by simp) _) _)).mono ?_
  rintro e w3 ⟨rfl, k2, rfl⟩
  go_wp2_with fail
  have hV : Below w.heap.size w (((w.alloc (.cells zeroEx 48)).alloc (.cells #[.int .i64 2, .string ⟨t.text.toArray⟩, .int .i64 t.n, .complex .f64 X Y] 31)).drewN (1 + k1 + k2)) := below_drewN (((Below.refl _ _).alloc (Nat.le_refl _) _).alloc (by simp) _) _
  have hg : (((w.alloc (.cells zeroEx 48)).alloc (.cells #[.int .i64 2, .string ⟨t.text.toArray⟩, .int .i64 t.n, .complex .f64 X Y] 31)).drewN (1 + k1 + k2)).heap[w.heap.size]? = some (.cells zeroEx 48 (0, 0)) := (heap_alloc_old _ _ (by simp)).trans (heap_alloc_new _ _)
  obtain ⟨r1, r2, r3⟩ := fin4 ((HR.out.below hV l2).move (p + 1)) ((But.of_below hV).set 1 (.int .i64 (p + 1))) ((Go.Deep.blk_setCell_other _ ⟨R, 1, none⟩ _ _ hne0).trans hg) rfl l2 (.int .i64 1) (.int .i64 t.n) (.string ⟨#[]⟩) (.slice none 0 0)
  refine bodyPost_ret (res_row48 rfl _ _ w.heap.size (exC (.leaf 1 t.n []) (.slice none 0 0)) rfl rfl r1) rfl ⟨_, .slice none 0 0, p + 1, false, rfl, ⟨none, 0, rfl, by decide⟩, r2, r3, by rw [← HN.out]; omega, rfl, rfl, rfl⟩

set_option maxRecDepth 100000 in
set_option maxHeartbeats 4000000 in
theorem factor_name (w : World) (R b off c : Nat) (s : ByteArray) (ts : List Tok) (p : Nat) (hT : ToksAt w b off c s ts) (hR : RdAt w R b off c ts.length p false) (hE : EndOk ts) (t : Tok) (ht : ts[p]? = some t) (deep : Int)
    (hk : t.kind = 1) (hnm : nameL t.text = true) : Calls Tryd.prog 87 #[.pointer (some ⟨R, 0, none⟩), .int .i64 deep] w fun e w' => EPost R b off c ts w (.ok (.leaf 2 0 t.text) (ts.drop (p + 1))) e w' := by
  have IN := Lib.hid (fun (W : World) => name_here (hE.small p t ht) hnm W)
  obtain ⟨hp, _⟩ := List.getElem?_eq_some_iff.mp ht
  have hp1 := hE.more p t ht (by omega)
  have a0 := (hT.tok p t ht).kind
  have a1 := (hT.tok p t ht).text
  have a2 := (hT.tok p t ht).num
  have a3 := (hT.tok p t ht).pos
  obtain ⟨X, Y, hXY⟩ : ∃ X Y, plc (spotL (s.data.toList.take t.pos)) = .complex .f64 X Y := ⟨_, _, rfl⟩
  rw [hXY] at a3
  obtain ⟨n, hn⟩ : ∃ n, n = ts.length := ⟨_, rfl⟩
  have c0 : w.cell? ⟨R, 0, none⟩ = some (.slice (some ⟨b, off, none⟩) n c) := by rw [hn]; exact hR.cell 0
  have c1 : w.cell? ⟨R, 1, none⟩ = some (.int .i64 p) := hR.cell 1
  have c2 : w.cell? ⟨R, 2, none⟩ = some (.bool false) := hR.cell 2
  have l1 := hT.lt
  have l2 := hR.lt
  have hnc := hT.le
  have hcc := hT.cap
  rw [← hn] at hnc
  have hvm : tokIs ts p 3 (⟨#[45]⟩ : ByteArray).data.toList = false := by simp [tokIs, ht, hk]
  have hvp : tokIs ts p 3 (⟨#[40]⟩ : ByteArray).data.toList = false := by simp [tokIs, ht, hk]
  have ISM := Lib.hid (fun (W : World) (hb : Below w.heap.size w W) => is_here (by omega) hT hR hb hvm)
  have ISP := Lib.hid (fun (W : World) (hb : Below w.heap.size w W) => is_here (by omega) hT hR hb hvp)
  have f1 := hR.frozen 1
  have f2 := hR.frozen 2
  rw [← hn] at hp hp1
  have i1 : (0 : Int) ≤ (p : Int) := by omega
  have i2 : (p : Int) < (n : Int) := by omega
  have hwp : IntKind.i64.wrap (p : Int) = (p : Int) := IntWalk.i64_in _ (by omega)
  have hne1 : ¬ w.heap.size + 1 = R := by omega
  have hne0 : ¬ w.heap.size = R := by omega
  rw [hk] at a0
  have hcx := @run_store_cx Tryd.prog
  have HT := Lib.hid hT
  have HR := Lib.hid hR
  have HN := Lib.hid hn
  have HTt := Lib.hid ht
  clear hT hR hn ht hXY hk hvm hvp hE hnm
  go_enter Tryd.func87, Tryd.ntmps87
  go_wp2_with fail
  go_region
  go_wp2_with fail
  refine (ISM.out _ (by exact below_drewN (((Below.refl _ _).alloc (Nat.le_refl _) _).alloc (by simp) _) _)).mono ?_
  rintro e w2 ⟨rfl, k1, rfl⟩
  go_wp2_with fail
  refine (ISP.out _ (by exact below_drewN (((Below.refl _ _).alloc (Nat.le_refl _) _).alloc (by simp) _) _)).mono ?_
  rintro e w3 ⟨rfl, k2, rfl⟩
  go_wp2_with (go_at_call 19; refine (IN.out _).mono ?_; rintro e w4 ⟨rfl, hb4⟩; have HB4 := Lib.hid hb4; clear hb4; obtain ⟨⟨g0, g1, g2, g3⟩, j0, j1, j2, j3⟩ := row_facts ((HB4.out.block _ (by simp; omega)).trans two_old); have e1 := (cell_of_block (HB4.out.block (w.heap.size + 1) (by simp)) 1).trans (cell_of_row _ _ 1 _ 31 (0, 0) two_new); have d1 : w4.cell? ⟨R, 1, none⟩ = some (.int .i64 p) := ((HR.out.below (below_drewN (((Below.refl _ _).alloc (Nat.le_refl _) _).alloc (by simp) _) _) l2).below HB4.out (by simp; omega)).cell 1; have d2 : w4.frozen? ⟨R, 1, none⟩ = false := ((HR.out.below (below_drewN (((Below.refl _ _).alloc (Nat.le_refl _) _).alloc (by simp) _) _) l2).below HB4.out (by simp; omega)).frozen 1)
  have hV : Below w.heap.size w w4 := (below_drewN (((Below.refl _ _).alloc (Nat.le_refl _) _).alloc (by simp) _) _).trans (HB4.out.mono (by simp; omega))
  obtain ⟨r1, r2, r3⟩ := fin4 ((HR.out.below hV l2).move (p + 1)) ((But.of_below hV).set 1 (.int .i64 (p + 1))) ((Go.Deep.blk_setCell_other _ ⟨R, 1, none⟩ _ _ hne0).trans ((HB4.out.block _ (by simp; omega)).trans two_old)) rfl l2 (.int .i64 2) (.int .i64 0) (.string ⟨t.text.toArray⟩) (.slice none 0 0)
  refine bodyPost_ret (res_row48 rfl _ _ w.heap.size (exC (.leaf 2 0 t.text) (.slice none 0 0)) rfl rfl r1) rfl ⟨_, .slice none 0 0, p + 1, false, rfl, ⟨none, 0, rfl, by decide⟩, r2, r3, by rw [← HN.out]; omega, rfl, rfl, rfl⟩

set_option maxRecDepth 100000 in
set_option maxHeartbeats 4000000 in
theorem factor_other (w : World) (R b off c : Nat) (s : ByteArray) (ts : List Tok) (p : Nat) (hT : ToksAt w b off c s ts) (hR : RdAt w R b off c ts.length p false) (t : Tok) (ht : ts[p]? = some t) (deep : Int)
    (hk1 : t.kind ≠ 1) (hk2 : t.kind ≠ 2) (hm : tokIs ts p 3 [45] = false) (hq : tokIs ts p 3 [40] = false) : Calls Tryd.prog 87 #[.pointer (some ⟨R, 0, none⟩), .int .i64 deep] w fun e w' => EPost R b off c ts w (.bad (ts.drop p)) e w' := by
  obtain ⟨hp, _⟩ := List.getElem?_eq_some_iff.mp ht

  have a0 := (hT.tok p t ht).kind
  have a1 := (hT.tok p t ht).text
  have a2 := (hT.tok p t ht).num
  have a3 := (hT.tok p t ht).pos
  obtain ⟨X, Y, hXY⟩ : ∃ X Y, plc (spotL (s.data.toList.take t.pos)) = .complex .f64 X Y := ⟨_, _, rfl⟩
  rw [hXY] at a3
  obtain ⟨n, hn⟩ : ∃ n, n = ts.length := ⟨_, rfl⟩
  have c0 : w.cell? ⟨R, 0, none⟩ = some (.slice (some ⟨b, off, none⟩) n c) := by rw [hn]; exact hR.cell 0
  have c1 : w.cell? ⟨R, 1, none⟩ = some (.int .i64 p) := hR.cell 1
  have c2 : w.cell? ⟨R, 2, none⟩ = some (.bool false) := hR.cell 2
  have l1 := hT.lt
  have l2 := hR.lt
  have hnc := hT.le
  have hcc := hT.cap
  rw [← hn] at hnc
  have hvm : tokIs ts p 3 (⟨#[45]⟩ : ByteArray).data.toList = false := hm
  have hvp : tokIs ts p 3 (⟨#[40]⟩ : ByteArray).data.toList = false := hq
  have ISM := Lib.hid (fun (W : World) (hb : Below w.heap.size w W) => is_here (by omega) hT hR hb hvm)
  have ISP := Lib.hid (fun (W : World) (hb : Below w.heap.size w W) => is_here (by omega) hT hR hb hvp)
  have f1 := hR.frozen 1
  have f2 := hR.frozen 2
  rw [← hn] at hp
  have i1 : (0 : Int) ≤ (p : Int) := by omega
  have i2 : (p : Int) < (n : Int) := by omega
  have hwp : IntKind.i64.wrap (p : Int) = (p : Int) := IntWalk.i64_in _ (by omega)
  have hne1 : ¬ w.heap.size + 1 = R := by omega
  have hne0 : ¬ w.heap.size = R := by omega
  have gk1 : ((t.kind : Int) == 1) = false := by simp only [beq_eq_false_iff_ne]; omega
  have gk2 : ((t.kind : Int) == 2) = false := by simp only [beq_eq_false_iff_ne]; omega
  have hcx := @run_store_cx Tryd.prog
  have HT := Lib.hid hT
  have HR := Lib.hid hR
  have HN := Lib.hid hn
  have HTt := Lib.hid ht
  clear hT hR hn ht hXY hvm hvp hm hq hk1 hk2
  go_enter Tryd.func87, Tryd.ntmps87
  go_wp2_with fail
  go_region
  go_wp2_with fail
  refine (ISM.out _ (by exact below_drewN (((Below.refl _ _).alloc (Nat.le_refl _) _).alloc (by simp) _) _)).mono ?_
  rintro e w2 ⟨rfl, k1, rfl⟩
  go_wp2_with fail
  refine (ISP.out _ (by exact below_drewN (((Below.refl _ _).alloc (Nat.le_refl _) _).alloc (by simp) _) _)).mono ?_
  rintro e w3 ⟨rfl, k2, rfl⟩
  have HRF := Lib.hid (HR.out.below (w' := (((w.alloc (.cells zeroEx 48)).alloc (.cells #[.int .i64 t.kind, .string ⟨t.text.toArray⟩, .int .i64 t.n, .complex .f64 X Y] 31)).drewN (1 + k1 + k2))) (below_drewN (((Below.refl _ _).alloc (Nat.le_refl _) _).alloc (by simp) _) (1 + k1 + k2)) l2)
  have HBF := Lib.hid (But.of_below (R := R) (w := w) (w' := (((w.alloc (.cells zeroEx 48)).alloc (.cells #[.int .i64 t.kind, .string ⟨t.text.toArray⟩, .int .i64 t.n, .complex .f64 X Y] 31)).drewN (1 + k1 + k2))) (below_drewN (((Below.refl _ _).alloc (Nat.le_refl _) _).alloc (by simp) _) (1 + k1 + k2)))
  have HROW := Lib.hid (two_old (w := w) (o1 := .cells zeroEx 48) (o2 := .cells #[.int .i64 t.kind, .string ⟨t.text.toArray⟩, .int .i64 t.n, .complex .f64 X Y] 31) (k := 1 + k1 + k2))
  have HSZ := Lib.hid (show w.heap.size < (((w.alloc (.cells zeroEx 48)).alloc (.cells #[.int .i64 t.kind, .string ⟨t.text.toArray⟩, .int .i64 t.n, .complex .f64 X Y] 31)).drewN (1 + k1 + k2)).heap.size by simp; omega)
  go_wp2_with (go_at_call 105; refine (fail_here (HRF.out)).mono ?_; rintro e w5 ⟨rfl, hR5, hB5⟩; have HR5 := Lib.hid hR5; have HB5 := Lib.hid hB5; clear hR5 hB5; have hrow := Lib.hid ((HB5.out.block w.heap.size HSZ.out (by omega)).trans HROW.out); obtain ⟨⟨g0, g1, g2, g3⟩, j0, j1, j2, j3⟩ := row_facts hrow.out)
  obtain ⟨r1, r2, r3⟩ := fin4 HR5.out (HBF.out.trans HB5.out) hrow.out rfl l2 (.int .i64 0) (.int .i64 0) (.string ⟨#[]⟩) (.slice none 0 0)
  refine bodyPost_ret (res_row48 rfl _ _ w.heap.size (exC Ex.zero (.slice none 0 0)) rfl rfl r1) rfl ⟨Ex.zero, .slice none 0 0, p, true, rfl, ⟨none, 0, rfl, by decide⟩, r2, r3, by rw [← HN.out]; omega, rfl, rfl⟩

set_option maxRecDepth 100000 in
set_option maxHeartbeats 4000000 in
theorem factor_key (w : World) (R b off c : Nat) (s : ByteArray) (ts : List Tok) (p : Nat) (hT : ToksAt w b off c s ts) (hR : RdAt w R b off c ts.length p false) (hE : EndOk ts) (t : Tok) (ht : ts[p]? = some t) (deep : Int)
    (hk : t.kind = 1) (hnm : nameL t.text = false) : Calls Tryd.prog 87 #[.pointer (some ⟨R, 0, none⟩), .int .i64 deep] w fun e w' => EPost R b off c ts w (.bad (ts.drop p)) e w' := by
  have IN := Lib.hid (fun (W : World) => name_here (hE.small p t ht) hnm W)
  obtain ⟨hp, _⟩ := List.getElem?_eq_some_iff.mp ht

  have a0 := (hT.tok p t ht).kind
  have a1 := (hT.tok p t ht).text
  have a2 := (hT.tok p t ht).num
  have a3 := (hT.tok p t ht).pos
  obtain ⟨X, Y, hXY⟩ : ∃ X Y, plc (spotL (s.data.toList.take t.pos)) = .complex .f64 X Y := ⟨_, _, rfl⟩
  rw [hXY] at a3
  obtain ⟨n, hn⟩ : ∃ n, n = ts.length := ⟨_, rfl⟩
  have c0 : w.cell? ⟨R, 0, none⟩ = some (.slice (some ⟨b, off, none⟩) n c) := by rw [hn]; exact hR.cell 0
  have c1 : w.cell? ⟨R, 1, none⟩ = some (.int .i64 p) := hR.cell 1
  have c2 : w.cell? ⟨R, 2, none⟩ = some (.bool false) := hR.cell 2
  have l1 := hT.lt
  have l2 := hR.lt
  have hnc := hT.le
  have hcc := hT.cap
  rw [← hn] at hnc
  have hvm : tokIs ts p 3 (⟨#[45]⟩ : ByteArray).data.toList = false := by simp [tokIs, ht, hk]
  have hvp : tokIs ts p 3 (⟨#[40]⟩ : ByteArray).data.toList = false := by simp [tokIs, ht, hk]
  have ISM := Lib.hid (fun (W : World) (hb : Below w.heap.size w W) => is_here (by omega) hT hR hb hvm)
  have ISP := Lib.hid (fun (W : World) (hb : Below w.heap.size w W) => is_here (by omega) hT hR hb hvp)
  have f1 := hR.frozen 1
  have f2 := hR.frozen 2
  rw [← hn] at hp
  have i1 : (0 : Int) ≤ (p : Int) := by omega
  have i2 : (p : Int) < (n : Int) := by omega
  have hwp : IntKind.i64.wrap (p : Int) = (p : Int) := IntWalk.i64_in _ (by omega)
  have hne1 : ¬ w.heap.size + 1 = R := by omega
  have hne0 : ¬ w.heap.size = R := by omega
  rw [hk] at a0
  have hcx := @run_store_cx Tryd.prog
  have HT := Lib.hid hT
  have HR := Lib.hid hR
  have HN := Lib.hid hn
  have HTt := Lib.hid ht
  clear hT hR hn ht hXY hk hvm hvp hE hnm
  go_enter Tryd.func87, Tryd.ntmps87
  go_wp2_with fail
  go_region
  go_wp2_with fail
  refine (ISM.out _ (by exact below_drewN (((Below.refl _ _).alloc (Nat.le_refl _) _).alloc (by simp) _) _)).mono ?_
  rintro e w2 ⟨rfl, k1, rfl⟩
  go_wp2_with fail
  refine (ISP.out _ (by exact below_drewN (((Below.refl _ _).alloc (Nat.le_refl _) _).alloc (by simp) _) _)).mono ?_
  rintro e w3 ⟨rfl, k2, rfl⟩
  go_wp2_with (go_at_call 19; refine (IN.out _).mono ?_; rintro e w4 ⟨rfl, hb4⟩; have HB4 := Lib.hid hb4; clear hb4; have d0 : w4.cell? ⟨w.heap.size + 1, 0, none⟩ = some (.int .i64 1) := (cell_of_block (HB4.out.block (w.heap.size + 1) (by simp)) 0).trans (cell_of_row _ _ 0 _ 31 (0, 0) two_new); have hV : Below w.heap.size w w4 := (below_drewN (((Below.refl _ _).alloc (Nat.le_refl _) _).alloc (by simp) _) _).trans (HB4.out.mono (by simp; omega)); have HRF := Lib.hid (HR.out.below hV l2); have HBF := Lib.hid (But.of_below (R := R) hV); have HROW := Lib.hid ((HB4.out.block _ (by simp; omega)).trans two_old); have HSZ := Lib.hid (show w.heap.size < w4.heap.size by have := HB4.out.size; simp at this; omega); clear hV)
  go_wp2_with (go_at_call 105; refine (fail_here (HRF.out)).mono ?_; rintro e w5 ⟨rfl, hR5, hB5⟩; have HR5 := Lib.hid hR5; have HB5 := Lib.hid hB5; clear hR5 hB5; have hrow := Lib.hid ((HB5.out.block w.heap.size HSZ.out (by omega)).trans HROW.out); obtain ⟨⟨g0, g1, g2, g3⟩, j0, j1, j2, j3⟩ := row_facts hrow.out)
  obtain ⟨r1, r2, r3⟩ := fin4 HR5.out (HBF.out.trans HB5.out) hrow.out rfl l2 (.int .i64 0) (.int .i64 0) (.string ⟨#[]⟩) (.slice none 0 0)
  refine bodyPost_ret (res_row48 rfl _ _ w.heap.size (exC Ex.zero (.slice none 0 0)) rfl rfl r1) rfl ⟨Ex.zero, .slice none 0 0, p, true, rfl, ⟨none, 0, rfl, by decide⟩, r2, r3, by rw [← HN.out]; omega, rfl, rfl⟩

set_option maxRecDepth 100000 in
set_option maxHeartbeats 4000000 in
theorem factor_deepM (w : World) (R b off c : Nat) (s : ByteArray) (ts : List Tok) (p : Nat) (hT : ToksAt w b off c s ts) (hR : RdAt w R b off c ts.length p false) (t : Tok) (ht : ts[p]? = some t)
    (hk : t.kind = 3) (hm : tokIs ts p 3 [45] = true) (hq : tokIs ts p 3 [40] = false) : Calls Tryd.prog 87 #[.pointer (some ⟨R, 0, none⟩), .int .i64 8] w fun e w' => EPost R b off c ts w (.bad (ts.drop p)) e w' := by
  obtain ⟨hp, _⟩ := List.getElem?_eq_some_iff.mp ht

  have a0 := (hT.tok p t ht).kind
  have a1 := (hT.tok p t ht).text
  have a2 := (hT.tok p t ht).num
  have a3 := (hT.tok p t ht).pos
  obtain ⟨X, Y, hXY⟩ : ∃ X Y, plc (spotL (s.data.toList.take t.pos)) = .complex .f64 X Y := ⟨_, _, rfl⟩
  rw [hXY] at a3
  obtain ⟨n, hn⟩ : ∃ n, n = ts.length := ⟨_, rfl⟩
  have c0 : w.cell? ⟨R, 0, none⟩ = some (.slice (some ⟨b, off, none⟩) n c) := by rw [hn]; exact hR.cell 0
  have c1 : w.cell? ⟨R, 1, none⟩ = some (.int .i64 p) := hR.cell 1
  have c2 : w.cell? ⟨R, 2, none⟩ = some (.bool false) := hR.cell 2
  have l1 := hT.lt
  have l2 := hR.lt
  have hnc := hT.le
  have hcc := hT.cap
  rw [← hn] at hnc
  have hvm : tokIs ts p 3 (⟨#[45]⟩ : ByteArray).data.toList = true := hm
  have hvp : tokIs ts p 3 (⟨#[40]⟩ : ByteArray).data.toList = false := hq
  have ISM := Lib.hid (fun (W : World) (hb : Below w.heap.size w W) => is_here (by omega) hT hR hb hvm)
  have ISP := Lib.hid (fun (W : World) (hb : Below w.heap.size w W) => is_here (by omega) hT hR hb hvp)
  have f1 := hR.frozen 1
  have f2 := hR.frozen 2
  rw [← hn] at hp
  have i1 : (0 : Int) ≤ (p : Int) := by omega
  have i2 : (p : Int) < (n : Int) := by omega
  have hwp : IntKind.i64.wrap (p : Int) = (p : Int) := IntWalk.i64_in _ (by omega)
  have hne1 : ¬ w.heap.size + 1 = R := by omega
  have hne0 : ¬ w.heap.size = R := by omega
  rw [hk] at a0
  have hcx := @run_store_cx Tryd.prog
  have HT := Lib.hid hT
  have HR := Lib.hid hR
  have HN := Lib.hid hn
  have HTt := Lib.hid ht
  clear hT hR hn ht hXY hk hvm hvp hm hq
  go_enter Tryd.func87, Tryd.ntmps87
  go_wp2_with fail
  go_region
  go_wp2_with fail
  refine (ISM.out _ (by exact below_drewN (((Below.refl _ _).alloc (Nat.le_refl _) _).alloc (by simp) _) _)).mono ?_
  rintro e w2 ⟨rfl, k1, rfl⟩
  go_wp2_with fail
  refine (ISP.out _ (by exact below_drewN (((Below.refl _ _).alloc (Nat.le_refl _) _).alloc (by simp) _) _)).mono ?_
  rintro e w3 ⟨rfl, k2, rfl⟩
  have HRF := Lib.hid (HR.out.below (w' := (((w.alloc (.cells zeroEx 48)).alloc (.cells #[.int .i64 3, .string ⟨t.text.toArray⟩, .int .i64 t.n, .complex .f64 X Y] 31)).drewN (1 + k1 + k2))) (below_drewN (((Below.refl _ _).alloc (Nat.le_refl _) _).alloc (by simp) _) (1 + k1 + k2)) l2)
  have HBF := Lib.hid (But.of_below (R := R) (w := w) (w' := (((w.alloc (.cells zeroEx 48)).alloc (.cells #[.int .i64 3, .string ⟨t.text.toArray⟩, .int .i64 t.n, .complex .f64 X Y] 31)).drewN (1 + k1 + k2))) (below_drewN (((Below.refl _ _).alloc (Nat.le_refl _) _).alloc (by simp) _) (1 + k1 + k2)))
  have HROW := Lib.hid (two_old (w := w) (o1 := .cells zeroEx 48) (o2 := .cells #[.int .i64 3, .string ⟨t.text.toArray⟩, .int .i64 t.n, .complex .f64 X Y] 31) (k := 1 + k1 + k2))
  have HSZ := Lib.hid (show w.heap.size < (((w.alloc (.cells zeroEx 48)).alloc (.cells #[.int .i64 3, .string ⟨t.text.toArray⟩, .int .i64 t.n, .complex .f64 X Y] 31)).drewN (1 + k1 + k2)).heap.size by simp; omega)
  go_wp2_with (go_at_call 105; refine (fail_here (HRF.out)).mono ?_; rintro e w5 ⟨rfl, hR5, hB5⟩; have HR5 := Lib.hid hR5; have HB5 := Lib.hid hB5; clear hR5 hB5; have hrow := Lib.hid ((HB5.out.block w.heap.size HSZ.out (by omega)).trans HROW.out); obtain ⟨⟨g0, g1, g2, g3⟩, j0, j1, j2, j3⟩ := row_facts hrow.out)
  obtain ⟨r1, r2, r3⟩ := fin4 HR5.out (HBF.out.trans HB5.out) hrow.out rfl l2 (.int .i64 0) (.int .i64 0) (.string ⟨#[]⟩) (.slice none 0 0)
  refine bodyPost_ret (res_row48 rfl _ _ w.heap.size (exC Ex.zero (.slice none 0 0)) rfl rfl r1) rfl ⟨Ex.zero, .slice none 0 0, p, true, rfl, ⟨none, 0, rfl, by decide⟩, r2, r3, by rw [← HN.out]; omega, rfl, rfl⟩

set_option maxRecDepth 100000 in
set_option maxHeartbeats 4000000 in
theorem factor_deepP (w : World) (R b off c : Nat) (s : ByteArray) (ts : List Tok) (p : Nat) (hT : ToksAt w b off c s ts) (hR : RdAt w R b off c ts.length p false) (t : Tok) (ht : ts[p]? = some t)
    (hk : t.kind = 3) (hm : tokIs ts p 3 [45] = false) (hq : tokIs ts p 3 [40] = true) : Calls Tryd.prog 87 #[.pointer (some ⟨R, 0, none⟩), .int .i64 8] w fun e w' => EPost R b off c ts w (.bad (ts.drop p)) e w' := by
  obtain ⟨hp, _⟩ := List.getElem?_eq_some_iff.mp ht

  have a0 := (hT.tok p t ht).kind
  have a1 := (hT.tok p t ht).text
  have a2 := (hT.tok p t ht).num
  have a3 := (hT.tok p t ht).pos
  obtain ⟨X, Y, hXY⟩ : ∃ X Y, plc (spotL (s.data.toList.take t.pos)) = .complex .f64 X Y := ⟨_, _, rfl⟩
  rw [hXY] at a3
  obtain ⟨n, hn⟩ : ∃ n, n = ts.length := ⟨_, rfl⟩
  have c0 : w.cell? ⟨R, 0, none⟩ = some (.slice (some ⟨b, off, none⟩) n c) := by rw [hn]; exact hR.cell 0
  have c1 : w.cell? ⟨R, 1, none⟩ = some (.int .i64 p) := hR.cell 1
  have c2 : w.cell? ⟨R, 2, none⟩ = some (.bool false) := hR.cell 2
  have l1 := hT.lt
  have l2 := hR.lt
  have hnc := hT.le
  have hcc := hT.cap
  rw [← hn] at hnc
  have hvm : tokIs ts p 3 (⟨#[45]⟩ : ByteArray).data.toList = false := hm
  have hvp : tokIs ts p 3 (⟨#[40]⟩ : ByteArray).data.toList = true := hq
  have ISM := Lib.hid (fun (W : World) (hb : Below w.heap.size w W) => is_here (by omega) hT hR hb hvm)
  have ISP := Lib.hid (fun (W : World) (hb : Below w.heap.size w W) => is_here (by omega) hT hR hb hvp)
  have f1 := hR.frozen 1
  have f2 := hR.frozen 2
  rw [← hn] at hp
  have i1 : (0 : Int) ≤ (p : Int) := by omega
  have i2 : (p : Int) < (n : Int) := by omega
  have hwp : IntKind.i64.wrap (p : Int) = (p : Int) := IntWalk.i64_in _ (by omega)
  have hne1 : ¬ w.heap.size + 1 = R := by omega
  have hne0 : ¬ w.heap.size = R := by omega
  rw [hk] at a0
  have hcx := @run_store_cx Tryd.prog
  have HT := Lib.hid hT
  have HR := Lib.hid hR
  have HN := Lib.hid hn
  have HTt := Lib.hid ht
  clear hT hR hn ht hXY hk hvm hvp hm hq
  go_enter Tryd.func87, Tryd.ntmps87
  go_wp2_with fail
  go_region
  go_wp2_with fail
  refine (ISM.out _ (by exact below_drewN (((Below.refl _ _).alloc (Nat.le_refl _) _).alloc (by simp) _) _)).mono ?_
  rintro e w2 ⟨rfl, k1, rfl⟩
  go_wp2_with fail
  refine (ISP.out _ (by exact below_drewN (((Below.refl _ _).alloc (Nat.le_refl _) _).alloc (by simp) _) _)).mono ?_
  rintro e w3 ⟨rfl, k2, rfl⟩
  have HRF := Lib.hid (HR.out.below (w' := (((w.alloc (.cells zeroEx 48)).alloc (.cells #[.int .i64 3, .string ⟨t.text.toArray⟩, .int .i64 t.n, .complex .f64 X Y] 31)).drewN (1 + k1 + k2))) (below_drewN (((Below.refl _ _).alloc (Nat.le_refl _) _).alloc (by simp) _) (1 + k1 + k2)) l2)
  have HBF := Lib.hid (But.of_below (R := R) (w := w) (w' := (((w.alloc (.cells zeroEx 48)).alloc (.cells #[.int .i64 3, .string ⟨t.text.toArray⟩, .int .i64 t.n, .complex .f64 X Y] 31)).drewN (1 + k1 + k2))) (below_drewN (((Below.refl _ _).alloc (Nat.le_refl _) _).alloc (by simp) _) (1 + k1 + k2)))
  have HROW := Lib.hid (two_old (w := w) (o1 := .cells zeroEx 48) (o2 := .cells #[.int .i64 3, .string ⟨t.text.toArray⟩, .int .i64 t.n, .complex .f64 X Y] 31) (k := 1 + k1 + k2))
  have HSZ := Lib.hid (show w.heap.size < (((w.alloc (.cells zeroEx 48)).alloc (.cells #[.int .i64 3, .string ⟨t.text.toArray⟩, .int .i64 t.n, .complex .f64 X Y] 31)).drewN (1 + k1 + k2)).heap.size by simp; omega)
  go_wp2_with (go_at_call 105; refine (fail_here (HRF.out)).mono ?_; rintro e w5 ⟨rfl, hR5, hB5⟩; have HR5 := Lib.hid hR5; have HB5 := Lib.hid hB5; clear hR5 hB5; have hrow := Lib.hid ((HB5.out.block w.heap.size HSZ.out (by omega)).trans HROW.out); obtain ⟨⟨g0, g1, g2, g3⟩, j0, j1, j2, j3⟩ := row_facts hrow.out)
  obtain ⟨r1, r2, r3⟩ := fin4 HR5.out (HBF.out.trans HB5.out) hrow.out rfl l2 (.int .i64 0) (.int .i64 0) (.string ⟨#[]⟩) (.slice none 0 0)
  refine bodyPost_ret (res_row48 rfl _ _ w.heap.size (exC Ex.zero (.slice none 0 0)) rfl rfl r1) rfl ⟨Ex.zero, .slice none 0 0, p, true, rfl, ⟨none, 0, rfl, by decide⟩, r2, r3, by rw [← HN.out]; omega, rfl, rfl⟩

end Go.Proofs.YtgkfmeccipgnjaaDoor
