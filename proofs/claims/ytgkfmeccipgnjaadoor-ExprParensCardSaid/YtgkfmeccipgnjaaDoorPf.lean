/- Contracts of expr's reader: is, fail. -/
import Derived.Test.YtgkfmeccipgnjaaDoorEc
import Derived.Test.YtgkfmeccipgnjaaDoorLu
import Derived.BigQuiet
import Derived.Deep.Heap
namespace Go.Proofs.YtgkfmeccipgnjaaDoor
open Go.RowKit

def tokIs (ts : List Tok) (p : Nat) (kind : Nat) (text : List UInt8) : Bool := match ts[p]? with
  | some t => t.kind == kind && t.text == text
  | none => false

/-- The tokens at their place in memory. -/
structure ToksAt (w : World) (b off c : Nat) (s : ByteArray) (ts : List Tok) : Prop where
  le : ts.length ≤ c
  cap : c ≤ 9223372036854775807
  lt : b < w.heap.size
  tok : ∀ i t, ts[i]? = some t → TokIs w b (off + i * 4) s t
theorem ToksAt.below {w w' : World} {b off c : Nat} {s : ByteArray} {ts : List Tok} (h : ToksAt w b off c s ts) {B : Nat} (hb : Below B w w') (hB : b < B) : ToksAt w' b off c s ts :=
  ⟨h.le, h.cap, by have := h.lt; have := hb.size; omega, fun i t ht => (h.tok i t ht).below hb hB⟩

/-- The reader at its place in memory. -/
structure RdAt (w : World) (R b off c n : Nat) (p : Nat) (bad : Bool) : Prop where
  blk : w.heap[R]? = some (.cells #[.slice (some ⟨b, off, none⟩) n c, .int .i64 p, .bool bad] 110 (0, 0))

theorem RdAt.cell {w : World} {R b off c n p : Nat} {bad : Bool} (h : RdAt w R b off c n p bad) (k : Nat) : w.cell? ⟨R, k, none⟩ = (#[.slice (some ⟨b, off, none⟩) n c, .int .i64 p, .bool bad] : Array Value)[k]? := cell_of_row w R k _ 110 (0, 0) h.blk
theorem RdAt.lt {w : World} {R b off c n p : Nat} {bad : Bool} (h : RdAt w R b off c n p bad) : R < w.heap.size := by
  have := h.blk
  rcases Nat.lt_or_ge R w.heap.size with hlt | hge
  · exact hlt
  · rw [Array.getElem?_eq_none hge] at this; cases this

set_option maxRecDepth 100000 in
set_option maxHeartbeats 2000000 in
theorem is_any (w : World) (R b off c : Nat) (s : ByteArray) (ts : List Tok) (p : Nat) (bad : Bool) (tx : ByteArray) (hp : p < ts.length) (hT : ToksAt w b off c s ts) (hR : RdAt w R b off c ts.length p bad) :
    Calls Tryd.prog 104 #[.pointer (some ⟨R, 0, none⟩), .string tx] w fun e w' => e = .returned (.bool (!bad && tokIs ts p 3 tx.data.toList)) ∧ ∃ k, w' = w.drewN k := by
  obtain ⟨t, ht⟩ : ∃ t, ts[p]? = some t := ⟨ts[p], List.getElem?_eq_getElem hp⟩
  have HIs := Lib.hid (show tokIs ts p 3 tx.data.toList = (t.kind == 3 && t.text == tx.data.toList) by unfold tokIs; rw [ht])
  obtain ⟨a0, a1, a2, a3⟩ := hT.tok p t ht
  obtain ⟨n, hn⟩ : ∃ n, n = ts.length := ⟨_, rfl⟩
  rw [← hn] at hR hp
  have c0 : w.cell? ⟨R, 0, none⟩ = some (.slice (some ⟨b, off, none⟩) n c) := hR.cell 0
  have c1 : w.cell? ⟨R, 1, none⟩ = some (.int .i64 p) := hR.cell 1
  have c2 : w.cell? ⟨R, 2, none⟩ = some (.bool bad) := hR.cell 2
  have l1 := hT.lt
  have l2 := hR.lt
  have hnc := hT.le
  have hcc := hT.cap
  rw [← hn] at hnc
  have i1 : (0 : Int) ≤ (p : Int) := by omega
  have i2 : (p : Int) < (n : Int) := by omega
  have hwp : IntKind.i64.wrap (p : Int) = (p : Int) := IntWalk.i64_in _ (by omega)
  clear hT hR hn ht a2 a3
  cases bad with
  | true =>
    go_enter Tryd.func104, Tryd.ntmps104
    go_wp2_with fail
    go_quiet (fail)
    go_wp2_with fail
    go_ret
    exact ⟨rfl, _, rfl⟩
  | false =>
    by_cases hk : t.kind = 3
    · have gk : ((t.kind : Int) == 3) = true := by simp [hk]
      have HK := Lib.hid hk
      clear hk
      go_enter Tryd.func104, Tryd.ntmps104
      go_wp2_with fail
      go_quiet (fail)
      go_wp2_with fail
      go_ret
      refine ⟨ret_bool ?_, _, rfl⟩
      rw [HIs.out, HK.out, ← toList_data]
      simp
    · have gk : ((t.kind : Int) == 3) = false := by simp only [beq_eq_false_iff_ne]; omega
      have HK := Lib.hid hk
      clear hk
      go_enter Tryd.func104, Tryd.ntmps104
      go_wp2_with fail
      go_quiet (fail)
      go_wp2_with fail
      go_ret
      refine ⟨ret_bool ?_, _, rfl⟩
      rw [HIs.out]
      simp [HK.out]


theorem RdAt.set {w : World} {R b off c n p : Nat} {bad : Bool} (h : RdAt w R b off c n p bad) : RdAt (w.setCell ⟨R, 2, none⟩ (.bool true)) R b off c n p true := by
  refine ⟨?_⟩
  rw [heap_setCell_same w R 2 _ 110 _ h.blk]; rfl
theorem RdAt.move {w : World} {R b off c n p : Nat} {bad : Bool} (h : RdAt w R b off c n p bad) (q : Nat) : RdAt (w.setCell ⟨R, 1, none⟩ (.int .i64 q)) R b off c n q bad := by
  refine ⟨?_⟩
  rw [heap_setCell_same w R 1 _ 110 _ h.blk]; rfl
theorem RdAt.frozen {w : World} {R b off c n p : Nat} {bad : Bool} (h : RdAt w R b off c n p bad) (k : Nat) : w.frozen? ⟨R, k, none⟩ = false := by
  simp [World.frozen?, h.blk]

/-- Nothing old has turned, but for one block. -/
structure But (R : Nat) (w w' : World) : Prop where
  os : w'.os = w.os
  tape : w'.tape = w.tape
  output : w'.output = w.output
  size : w.heap.size ≤ w'.heap.size
  block : ∀ k, k < w.heap.size → k ≠ R → w'.heap[k]? = w.heap[k]?
theorem But.refl (R : Nat) (w : World) : But R w w := ⟨rfl, rfl, rfl, Nat.le_refl _, fun _ _ _ => rfl⟩
theorem But.trans {R : Nat} {a b c : World} (h : But R a b) (k : But R b c) : But R a c :=
  ⟨k.os.trans h.os, k.tape.trans h.tape, k.output.trans h.output, Nat.le_trans h.size k.size, fun i hi hr => (k.block i (Nat.lt_of_lt_of_le hi h.size) hr).trans (h.block i hi hr)⟩
theorem But.of_below {R : Nat} {w w' : World} (h : Below w.heap.size w w') : But R w w' := ⟨h.os, h.tape, h.output, h.size, fun k hk _ => h.block k hk⟩
theorem But.set {R : Nat} {w w' : World} (h : But R w w') (k : Nat) (v : Value) : But R w (w'.setCell ⟨R, k, none⟩ v) := by
  have hb : Below R w' (w'.setCell ⟨R, k, none⟩ v) := (Below.refl R w').setCell (p := ⟨R, k, none⟩) (Nat.le_refl _) v
  refine ⟨hb.os.trans h.os, hb.tape.trans h.tape, hb.output.trans h.output, Nat.le_trans h.size hb.size, fun i hi hr => ?_⟩
  rw [← h.block i hi hr]
  exact Go.Deep.blk_setCell_other w' ⟨R, k, none⟩ v i hr

theorem info48 : (Tryd.prog.info? 48).map (fun i => (i.zero, i.size, i.bytes)) = some (some (.agg #[.int .i64 0, .int .i64 0, .string ⟨#[]⟩, .slice none 0 0]), 4, 56) := by kernel_rfl
theorem info48s : (Tryd.prog.info? 48).map (·.size) = some 4 := by kernel_rfl
def zeroEx : Array Value := #[.int .i64 0, .int .i64 0, .string ⟨#[]⟩, .slice none 0 0]
theorem res_row48 {fn : Func} {p : Tmp} (h : fn.results = #[.cell p 48]) (tmps : Array Value) (W : World) (g : Nat) (cs : Array Value) (hcs : cs.size = 4)
    (hp : tmps.getD p undef = .pointer (some ⟨g, 0, none⟩)) (hg : W.heap[g]? = some (.cells cs 48 (0, 0))) : (results fn tmps).run Tryd.prog W = .ok (.agg cs) W :=
  results_cell_row h tmps W g 48 cs (0, 0) _ hp hg Tryd.underlying48 rfl (by rw [hcs]; exact info48s)

set_option maxRecDepth 100000 in
set_option maxHeartbeats 1000000 in
theorem fail_any (w : World) (R b off c n : Nat) (p : Nat) (bad : Bool) (hR : RdAt w R b off c n p bad) :
    Calls Tryd.prog 105 #[.pointer (some ⟨R, 0, none⟩)] w fun e w' => e = .returned (.agg zeroEx) ∧ RdAt w' R b off c n p true ∧ But R w w' := by
  have l2 := hR.lt
  have HR := Lib.hid hR
  have c2 : w.cell? ⟨R, 2, none⟩ = some (.bool bad) := hR.cell 2
  have f2 := hR.frozen 2
  clear hR
  go_enter Tryd.func105, Tryd.ntmps105
  go_wp2
  have hs : (w.setCell ⟨R, 2, none⟩ (.bool true)).heap.size = w.heap.size := by simp
  have hb := (Below.refl (w.setCell ⟨R, 2, none⟩ (.bool true)).heap.size (w.setCell ⟨R, 2, none⟩ (.bool true))).alloc (Nat.le_refl _) (.cells zeroEx 48)
  (try simp only [Exit.inBlock, Exit.then])
  refine bodyPost_ret (res_row48 rfl _ _ w.heap.size zeroEx rfl rfl (by rw [← hs]; exact heap_alloc_new _ _)) rfl ⟨rfl, ⟨?_⟩, ((But.refl R w).set 2 (.bool true)).trans (But.of_below hb)⟩
  exact (hb.block R (by rw [hs]; exact l2)).trans HR.out.set.blk
end Go.Proofs.YtgkfmeccipgnjaaDoor
