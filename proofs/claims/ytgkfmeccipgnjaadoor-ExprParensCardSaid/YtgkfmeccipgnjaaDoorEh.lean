/- Contract of expr's level. -/
import Derived.Test.YtgkfmeccipgnjaaDoorEg
import Derived.Deep.LoopGhost
import Derived.Deep.RegionWith
import Derived.Lib.QuietBelow
namespace Go.Proofs.YtgkfmeccipgnjaaDoor
open Go.RowKit

set_option maxRecDepth 100000 in
set_option maxHeartbeats 4000000 in
theorem level_fac {R b off c : Nat} {s : ByteArray} {ts : List Tok} (d : Nat) (F : FacC R b off c s ts d) : LevC R b off c s ts d 0 := by
  intro w p deep lv hT hR hp hdeep hlv
  obtain rfl : lv = 3 := by omega
  have l2 := hR.lt
  have hT0 := hT.below ((Below.refl _ _).alloc (Nat.le_refl _) (.cells zeroEx 48)) hT.lt
  have hR0 := hR.below ((Below.refl _ _).alloc (Nat.le_refl _) (.cells zeroEx 48)) hR.lt
  have FH := Lib.hid (F _ p deep hT0 hR0 hp hdeep)
  have hne0 : ¬ w.heap.size = R := by omega
  have HROWV := Lib.hid (heap_alloc_new w (.cells zeroEx 48))
  have HBV := Lib.hid (But.of_below (R := R) ((Below.refl _ w).alloc (Nat.le_refl _) (.cells zeroEx 48)))
  clear F hT hR hT0 hR0 hdeep hlv
  go_enter Tryd.func68, Tryd.ntmps68
  go_wp2_with fail
  refine FH.out.mono ?_
  rintro e w4 ⟨x, sl, q, bad, rfl, hO, hR4, hB4, hq4, hres⟩
  obtain ⟨A, cc, rfl, hc1, hc2⟩ := hO.slice
  have HO := Lib.hid hO
  have HR4 := Lib.hid hR4
  have HB4 := Lib.hid hB4
  have HRES := Lib.hid hres
  clear hO hR4 hB4 hres
  have HROW := Lib.hid ((HB4.out.block w.heap.size (by simp) hne0).trans HROWV.out)
  have hsz2 : w.heap.size < w4.heap.size := by have := HB4.out.size; simp at this; omega
  obtain ⟨⟨g0, g1, g2, g3⟩, j0, j1, j2, j3⟩ := row_facts HROW.out
  go_wp2_with fail
  obtain ⟨r1, r2, r3⟩ := fin4 HR4.out (HBV.out.trans HB4.out) HROW.out rfl l2 (.int .i64 x.kind) (.int .i64 x.num) (.string x.nm) (.slice A x.len cc)
  refine bodyPost_ret (res_row48 rfl _ _ w.heap.size (exC x (.slice A x.len cc)) rfl rfl r1) rfl ⟨x, _, q, bad, rfl, ?_, r2, r3, hq4, HRES.out⟩
  refine (HO.out.keep (by simp) (fun k h1 h2 => ?_)).low (fun k _ h => by simp at h; omega)
  simp only [World.size_alloc] at h1
  have hk : k ≠ w.heap.size := by omega
  rw [Go.Deep.blk_setCell_other _ ⟨w.heap.size, 3, none⟩ _ _ hk, Go.Deep.blk_setCell_other _ ⟨w.heap.size, 2, none⟩ _ _ hk, Go.Deep.blk_setCell_other _ ⟨w.heap.size, 1, none⟩ _ _ hk, Go.Deep.blk_setCell_other _ ⟨w.heap.size, 0, none⟩ _ _ hk]


/-- What holds at the head of level's loop. -/
def LInv (R b off c : Nat) (ts : List Tok) (w : World) (H7 lvn d up : Nat) (Z : ERes) (g : Nat) (wr : World) : Prop :=
  ∃ (x : Ex) (A : Option Addr) (cc q : Nat) (bad : Bool), wr.heap[H7]? = some (.cells #[.int .i64 x.kind, .int .i64 x.num, .string x.nm, .slice A x.len cc] 48 (0, 0)) ∧ wr.heap[w.heap.size]? = some (.cells zeroEx 48 (0, 0)) ∧
    x.len ≤ cc ∧ cc ≤ 9223372036854775807 ∧ OfAt (fun k => w.heap.size ≤ k ∧ k ≠ w.heap.size ∧ k ≠ H7) wr x (.slice A x.len cc) ∧ RdAt wr R b off c ts.length q bad ∧ But R w wr ∧ H7 < wr.heap.size ∧ q < ts.length ∧
    (bad = true → Z = .bad (ts.drop q)) ∧ (bad = false → ts.length - q ≤ g ∧ loopF lvn (levF (facF d) up) (ts.drop q).length x (ts.drop q) = Z)

theorem lev_ok {F : List Tok → ERes} {up : Nat} {l r : List Tok} {y : Ex} (h : levF F up l = .ok y r) : levF F (up + 1) l = loopF (2 - up) (levF F up) r.length y r := by rw [levF, h]
theorem lev_bad {F : List Tok → ERes} {up : Nat} {l r : List Tok} (h : levF F up l = .bad r) : levF F (up + 1) l = .bad r := by rw [levF, h]
theorem loop_bad {level : Nat} {next : List Tok → ERes} {e : Ex} {t : Tok} {more r : List Tok} (h : opP level t ≠ 0) (hn : next more = .bad r) : loopF level next (t :: more).length e (t :: more) = .bad r := by
  rw [List.length_cons, loopF, if_neg h, hn]
theorem loop_once {next : List Tok → ERes} {e e2 : Ex} {t : Tok} {more r : List Tok} (h : opP 0 t ≠ 0) (hn : next more = .ok e2 r) : loopF 0 next (t :: more).length e (t :: more) = .ok (.bin (opP 0 t) e e2) r := by
  rw [List.length_cons, loopF, if_neg h, hn]
  simp
theorem LInv.start {R b off c : Nat} {ts : List Tok} {w w4 : World} {lvn d up p q : Nat} {bad : Bool} {x : Ex} {A : Option Addr} {cc : Nat} (hup : up + lvn = 2) (hl : R < w.heap.size) (hs : w.heap.size < w4.heap.size) (hc1 : x.len ≤ cc) (hc2 : cc ≤ 9223372036854775807)
    (hO : OfAt ((w.alloc (.cells zeroEx 48)).heap.size ≤ ·) w4 x (.slice A x.len cc)) (hR : RdAt w4 R b off c ts.length q bad) (hB : But R w w4) (hrow : w4.heap[w.heap.size]? = some (.cells zeroEx 48 (0, 0))) (hq : q < ts.length)
    (hres : match levF (facF d) up (ts.drop p) with | .ok y r => x = y ∧ bad = false ∧ ts.drop q = r | .bad r => bad = true ∧ ts.drop q = r) :
    LInv R b off c ts w w4.heap.size lvn d up (levF (facF d) (up + 1) (ts.drop p)) ts.length (w4.alloc (.cells #[.int .i64 x.kind, .int .i64 x.num, .string x.nm, .slice A x.len cc] 48)) := by
  have hal : Below w4.heap.size w4 (w4.alloc (.cells #[.int .i64 x.kind, .int .i64 x.num, .string x.nm, .slice A x.len cc] 48)) := (Below.refl _ _).alloc (Nat.le_refl _) _
  refine ⟨x, A, cc, q, bad, heap_alloc_new _ _, (hal.block _ hs).trans hrow, hc1, hc2, ?_, hR.below hal (by omega), hB.below hal (by omega), by simp, hq, fun hb => ?_, fun hb => ⟨by omega, ?_⟩⟩
  · exact (hO.low (fun k hk h => by simp at h; omega)).below hal (Nat.le_refl _)
  · cases hx : levF (facF d) up (ts.drop p) with
    | bad r => rw [hx] at hres; rw [lev_bad hx, hres.2]
    | ok y r => rw [hx] at hres; rw [hb] at hres; cases hres.2.1
  · cases hx : levF (facF d) up (ts.drop p) with
    | bad r => rw [hx] at hres; rw [hb] at hres; cases hres.1
    | ok y r => rw [hx] at hres; rw [lev_ok hx, hres.1, hres.2.2, show 2 - up = lvn by omega]

theorem hk4 {V : World} {g k : Nat} (h : k ≠ g) (v0 v1 v2 v3 : Value) : ((((V.setCell ⟨g, 0, none⟩ v0).setCell ⟨g, 1, none⟩ v1).setCell ⟨g, 2, none⟩ v2).setCell ⟨g, 3, none⟩ v3).heap[k]? = V.heap[k]? := by
  rw [Go.Deep.blk_setCell_other _ ⟨g, 3, none⟩ _ _ h, Go.Deep.blk_setCell_other _ ⟨g, 2, none⟩ _ _ h, Go.Deep.blk_setCell_other _ ⟨g, 1, none⟩ _ _ h, Go.Deep.blk_setCell_other _ ⟨g, 0, none⟩ _ _ h]
theorem level_end {R b off c : Nat} {ts : List Tok} {w V : World} {Z : ERes} {x : Ex} {A : Option Addr} {cc q : Nat} {bad : Bool} {ok : Nat → Prop} (hrow : V.heap[w.heap.size]? = some (.cells zeroEx 48 (0, 0))) (hok : ∀ k, ok k → w.heap.size ≤ k ∧ k ≠ w.heap.size)
    (hO : OfAt ok V x (.slice A x.len cc)) (hR : RdAt V R b off c ts.length q bad) (hB : But R w V) (l2 : R < w.heap.size) (hq : q < ts.length)
    (hZ : match Z with | .ok y r => x = y ∧ bad = false ∧ ts.drop q = r | .bad r => bad = true ∧ ts.drop q = r) :
    ((((V.setCell ⟨w.heap.size, 0, none⟩ (.int .i64 x.kind)).setCell ⟨w.heap.size, 1, none⟩ (.int .i64 x.num)).setCell ⟨w.heap.size, 2, none⟩ (.string x.nm)).setCell ⟨w.heap.size, 3, none⟩ (.slice A x.len cc)).heap[w.heap.size]? = some (.cells (exC x (.slice A x.len cc)) 48 (0, 0)) ∧
    EPost R b off c ts w Z (.returned (.agg (exC x (.slice A x.len cc)))) ((((V.setCell ⟨w.heap.size, 0, none⟩ (.int .i64 x.kind)).setCell ⟨w.heap.size, 1, none⟩ (.int .i64 x.num)).setCell ⟨w.heap.size, 2, none⟩ (.string x.nm)).setCell ⟨w.heap.size, 3, none⟩ (.slice A x.len cc)) := by
  obtain ⟨r1, r2, r3⟩ := fin4 hR hB hrow rfl l2 (.int .i64 x.kind) (.int .i64 x.num) (.string x.nm) (.slice A x.len cc)
  refine ⟨r1, x, _, q, bad, rfl, (hO.keep (by simp) (fun k h1 _ => hk4 (hok k h1).2 _ _ _ _)).low (fun k _ h => (hok k h).1), r2, r3, hq, hZ⟩

theorem Stops_at {ts : List Tok} {q lvn : Nat} {t : Tok} (h : ts.drop q = t :: ts.drop (q + 1)) (ho : opP lvn t = 0) {next : List Tok → ERes} {f : Nat} {x : Ex} : loopF lvn next f x (ts.drop q) = .ok x (ts.drop q) := by
  rw [h]; exact loopF_stop ho

theorem EPost.back {R b off c : Nat} {ts : List Tok} {S V : World} {res : ERes} {e : Ending} {w' : World} (hb : Below S.heap.size S V) (h : EPost R b off c ts V res e w') : EPost R b off c ts S res e w' := by
  obtain ⟨x, sl, q, bad, he, hO, hR, hB, hq, hr⟩ := h
  exact ⟨x, sl, q, bad, he, hO.low (fun k _ h => Nat.le_trans hb.size h), hR, (But.of_below hb).trans hB, hq, hr⟩
theorem frozen4 {W : World} {g : Nat} {cs : Array Value} (h : W.heap[g]? = some (.cells cs 48 (0, 0))) : W.frozen? ⟨g, 0, none⟩ = false ∧ W.frozen? ⟨g, 1, none⟩ = false ∧ W.frozen? ⟨g, 2, none⟩ = false ∧ W.frozen? ⟨g, 3, none⟩ = false := by simp [World.frozen?, h]
/-- A binary operator in a new block. -/
theorem of_bin {ok : Nat → Prop} {w6 W : World} {x y : Ex} {sx sy : Value} (k : Int) (hx : OfAt ok w6 x sx) (hy : OfAt ok w6 y sy) (hlo : ok w6.heap.size) (hs : w6.heap.size < W.heap.size) (hb : ∀ k, ok k → k < w6.heap.size → W.heap[k]? = w6.heap[k]?)
    (hn : W.heap[w6.heap.size]? = some (.cells #[.int .i64 x.kind, .int .i64 x.num, .string x.nm, sx, .int .i64 y.kind, .int .i64 y.num, .string y.nm, sy] 48 (0, 0))) : OfAt ok W (.bin k x y) (.slice (some ⟨w6.heap.size, 0, none⟩) 2 2) :=
  ⟨_, 0, 2, sx, sy, rfl, by omega, by omega, hlo, hs, ⟨cell_of_row _ _ 0 _ 48 (0, 0) hn, cell_of_row _ _ 1 _ 48 (0, 0) hn, cell_of_row _ _ 2 _ 48 (0, 0) hn, cell_of_row _ _ 3 _ 48 (0, 0) hn⟩,
    ⟨cell_of_row _ _ 4 _ 48 (0, 0) hn, cell_of_row _ _ 5 _ 48 (0, 0) hn, cell_of_row _ _ 6 _ 48 (0, 0) hn, cell_of_row _ _ 7 _ 48 (0, 0) hn⟩, hx.keep (by omega) hb, hy.keep (by omega) hb⟩

/-- The world behind a binary operator. -/
theorem bin_world {R b off c n q2 H7 S : Nat} {w w6 : World} {bad2 : Bool} {x x2 : Ex} {A A2 : Option Addr} {cc cc2 : Nat} {cs : Array Value} (k : Nat) (l2 : R < w.heap.size) (h07 : w.heap.size < H7) (hS : H7 < S) (hS6 : S ≤ w6.heap.size)
    (hx : OfAt (fun k => w.heap.size ≤ k ∧ k ≠ w.heap.size ∧ k ≠ H7) w6 x (.slice A x.len cc)) (hy : OfAt (S ≤ ·) w6 x2 (.slice A2 x2.len cc2)) (hR : RdAt w6 R b off c n q2 bad2) (hB : But R w w6)
    (h7 : w6.heap[H7]? = some (.cells cs 48 (0, 0))) (h4 : cs.size = 4) (h0 : w6.heap[w.heap.size]? = some (.cells zeroEx 48 (0, 0))) (W : World)
    (hW : W = ((((w6.setCell ⟨H7, 0, none⟩ (.int .i64 k)).setCell ⟨H7, 1, none⟩ (.int .i64 0)).setCell ⟨H7, 2, none⟩ (.string ⟨#[]⟩)).setCell ⟨H7, 3, none⟩ (.slice (some ⟨w6.heap.size, 0, none⟩) 2 2)).alloc (.cells #[.int .i64 x.kind, .int .i64 x.num, .string x.nm, .slice A x.len cc, .int .i64 x2.kind, .int .i64 x2.num, .string x2.nm, .slice A2 x2.len cc2] 48)) :
    W.heap[H7]? = some (.cells #[.int .i64 (Ex.bin k x x2).kind, .int .i64 (Ex.bin k x x2).num, .string (Ex.bin k x x2).nm, .slice (some ⟨w6.heap.size, 0, none⟩) (Ex.bin k x x2).len 2] 48 (0, 0)) ∧ W.heap[w.heap.size]? = some (.cells zeroEx 48 (0, 0)) ∧
    OfAt (fun k => w.heap.size ≤ k ∧ k ≠ w.heap.size ∧ k ≠ H7) W (.bin k x x2) (.slice (some ⟨w6.heap.size, 0, none⟩) (Ex.bin k x x2).len 2) ∧ RdAt W R b off c n q2 bad2 ∧ But R w W ∧ H7 < W.heap.size := by
  subst hW
  have hb6 : Below H7 w6 ((((w6.setCell ⟨H7, 0, none⟩ (.int .i64 k)).setCell ⟨H7, 1, none⟩ (.int .i64 0)).setCell ⟨H7, 2, none⟩ (.string ⟨#[]⟩)).setCell ⟨H7, 3, none⟩ (.slice (some ⟨w6.heap.size, 0, none⟩) 2 2)) :=
    ((((Below.refl _ _).setCell (p := ⟨H7, 0, none⟩) (Nat.le_refl _) _).setCell (p := ⟨H7, 1, none⟩) (Nat.le_refl _) _).setCell (p := ⟨H7, 2, none⟩) (Nat.le_refl _) _).setCell (p := ⟨H7, 3, none⟩) (Nat.le_refl _) _
  have hbW := hb6.alloc (by simp; omega) (.cells #[.int .i64 x.kind, .int .i64 x.num, .string x.nm, .slice A x.len cc, .int .i64 x2.kind, .int .i64 x2.num, .string x2.nm, .slice A2 x2.len cc2] 48)
  refine ⟨(heap_alloc_old _ _ (by simp; omega)).trans (set4 h7 h4 _ _ _ _), (hbW.block _ h07).trans h0, ?_, hR.below hbW (by omega), hB.below hbW (by omega), by simp; omega⟩
  refine of_bin k hx (hy.low (fun j hj h => ⟨by omega, by omega, by omega⟩)) ⟨by omega, by omega, by omega⟩ (by simp) (fun j h1 h2 => (heap_alloc_old _ _ (by simp; omega)).trans (hk4 h1.2.2 _ _ _ _)) (heap_alloc_newE _ _ (by simp))

/-- One round more. -/
theorem LInv.next {R b off c : Nat} {ts : List Tok} {w W : World} {H7 lvn d up q q2 gk k : Nat} {Z : ERes} {t : Tok} {bad2 : Bool} {x x2 : Ex} {A : Option Addr} (hl0 : lvn ≠ 0) (hk : k = opP lvn t) (hk0 : ¬ k = 0) (hg : ts.length - q ≤ gk) (hq : q < ts.length)
    (hZ : loopF lvn (levF (facF d) up) (t :: ts.drop (q + 1)).length x (t :: ts.drop (q + 1)) = Z)
    (hres : match levF (facF d) up (ts.drop (q + 1)) with | .ok y r => x2 = y ∧ bad2 = false ∧ ts.drop q2 = r | .bad r => bad2 = true ∧ ts.drop q2 = r) (hq2 : q2 < ts.length)
    (h : W.heap[H7]? = some (.cells #[.int .i64 (Ex.bin k x x2).kind, .int .i64 (Ex.bin k x x2).num, .string (Ex.bin k x x2).nm, .slice A (Ex.bin k x x2).len 2] 48 (0, 0)) ∧ W.heap[w.heap.size]? = some (.cells zeroEx 48 (0, 0)) ∧
      OfAt (fun k => w.heap.size ≤ k ∧ k ≠ w.heap.size ∧ k ≠ H7) W (.bin k x x2) (.slice A (Ex.bin k x x2).len 2) ∧ RdAt W R b off c ts.length q2 bad2 ∧ But R w W ∧ H7 < W.heap.size) :
    ∃ g', g' < gk ∧ LInv R b off c ts w H7 lvn d up Z g' W := by
  obtain ⟨h1, h2, h3, h4, h5, h6⟩ := h
  have ho : opP lvn t ≠ 0 := by omega
  cases hx : levF (facF d) up (ts.drop (q + 1)) with
  | bad r =>
    rw [hx] at hres
    rw [loop_bad ho hx] at hZ
    exact ⟨0, by omega, _, _, _, _, _, h1, h2, by simp [Ex.len], by omega, h3, h4, h5, h6, hq2, fun _ => by rw [← hZ, hres.2], fun hb => by rw [hb] at hres; cases hres.1⟩
  | ok y r =>
    rw [hx] at hres
    have hs := levF_shr (facF_shr d) up _ _ _ hx
    rw [← hres.2.2] at hs
    simp only [List.length_drop] at hs
    rw [loopF_step (levF_shr (facF_shr d) up) ho hl0 hx] at hZ
    exact ⟨ts.length - q2, by omega, _, _, _, _, _, h1, h2, by simp [Ex.len], by omega, h3, h4, h5, h6, hq2, (fun hb => by rw [hb] at hres; cases hres.2.1), fun _ => ⟨Nat.le_refl _, by rw [hk, hres.1, hres.2.2]; exact hZ⟩⟩

set_option maxRecDepth 100000 in
set_option maxHeartbeats 4000000 in
theorem level_more {R b off c : Nat} {s : ByteArray} {ts : List Tok} (hE : EndOk ts) (hbR : b ≠ R) (d up lvn : Nat) (hup : up + lvn = 2) (hl0 : lvn ≠ 0) (L : LevC R b off c s ts d up)
    (w : World) (p : Nat) (deep : Int) (hT : ToksAt w b off c s ts) (hR : RdAt w R b off c ts.length p false) (hp : p < ts.length) (hdeep : deep + d = 8) :
    Calls Tryd.prog 68 #[.pointer (some ⟨R, 0, none⟩), .int .i64 lvn, .int .i64 deep] w fun e w' => EPost R b off c ts w (levF (facF d) (up + 1) (ts.drop p)) e w' := by
  have l2 := hR.lt
  have l1 := hT.lt
  have hnc := hT.le
  have hcc := hT.cap
  have hT0 := hT.below ((Below.refl _ _).alloc (Nat.le_refl _) (.cells zeroEx 48)) hT.lt
  have hR0 := hR.below ((Below.refl _ _).alloc (Nat.le_refl _) (.cells zeroEx 48)) hR.lt
  have LH := Lib.hid (L _ p deep ((lvn : Int) + 1) hT0 hR0 hp hdeep (by omega))
  have hne0 : ¬ w.heap.size = R := by omega
  have g3 : ((lvn : Int) == 3) = false := by simp only [beq_eq_false_iff_ne]; omega
  have gz : ((lvn : Int) == 0) = false := by simp only [beq_eq_false_iff_ne]; omega
  have hl2 : lvn ≤ 2 := by omega
  have HROWV := Lib.hid (heap_alloc_new w (.cells zeroEx 48))
  have HBV := Lib.hid (But.of_below (R := R) ((Below.refl _ w).alloc (Nat.le_refl _) (.cells zeroEx 48)))
  have HT := Lib.hid hT
  have HL := Lib.hid L
  have HD := Lib.hid hdeep
  obtain ⟨Z, hZ⟩ : ∃ Z, Z = levF (facF d) (up + 1) (ts.drop p) := ⟨_, rfl⟩
  rw [← hZ]
  have HZ := Lib.hid hZ
  have HL0 := Lib.hid hl0
  have HUP := Lib.hid hup
  clear L hT hR hT0 hR0 hdeep hZ hl0 hup
  go_enter Tryd.func68, Tryd.ntmps68
  go_wp2_with fail
  refine LH.out.mono ?_
  rintro e w4 ⟨x0, sl, q0, bad0, rfl, hO, hR4, hB4, hq4, hres⟩
  obtain ⟨A0, cc0, rfl, hc1, hc2⟩ := hO.slice
  have HO := Lib.hid hO
  have HR4 := Lib.hid hR4
  have HB4 := Lib.hid hB4
  have HRES := Lib.hid hres
  clear hO hR4 hB4 hres
  have HROW := Lib.hid ((HB4.out.block w.heap.size (by simp) hne0).trans HROWV.out)
  have hsz2 : w.heap.size < w4.heap.size := by have := HB4.out.size; simp at this; omega
  go_wp2_with fail
  obtain ⟨H7, hH7⟩ : ∃ H7, H7 = w4.heap.size := ⟨_, rfl⟩
  simp only [← hH7]
  have h07 : w.heap.size < H7 := by omega
  have HH7 := Lib.hid hH7
  clear hH7
  go_loopg [] (ts.length) (fun g wr => LInv R b off c ts w H7 lvn d up Z g wr)
  case atStart =>
    rw [HZ.out, HH7.out]
    exact LInv.start HUP.out l2 hsz2 hc1 hc2 HO.out HR4.out (HBV.out.trans HB4.out) HROW.out hq4 HRES.out
  case round =>
    clear HH7 hsz2 HO HR4 HB4 HRES HROW HBV HROWV LH HZ hc1 hc2 hq4
    obtain ⟨x, A, cc, q, bad, hrow7, hrow0, hc1, hc2, hO, hRr, hBr, h7s, hq, hz1, hz2⟩ := hrel
    have e0 : wr.cell? ⟨H7, 0, none⟩ = some (.int .i64 x.kind) := cell_of_row _ _ 0 _ 48 (0, 0) hrow7
    have e1 : wr.cell? ⟨H7, 1, none⟩ = some (.int .i64 x.num) := cell_of_row _ _ 1 _ 48 (0, 0) hrow7
    have e2 : wr.cell? ⟨H7, 2, none⟩ = some (.string x.nm) := cell_of_row _ _ 2 _ 48 (0, 0) hrow7
    have e3 : wr.cell? ⟨H7, 3, none⟩ = some (.slice A x.len cc) := cell_of_row _ _ 3 _ 48 (0, 0) hrow7
    have k2 : wr.cell? ⟨R, 2, none⟩ = some (.bool bad) := hRr.cell 2
    have HO := Lib.hid hO
    have HRr := Lib.hid hRr
    have HBr := Lib.hid hBr
    have HR7 := Lib.hid hrow7
    have HR0 := Lib.hid hrow0
    have HZ1 := Lib.hid hz1
    have HZ2 := Lib.hid hz2
    have h0s : w.heap.size < wr.heap.size := by omega
    clear hO hRr hBr hrow7 hrow0 hz1 hz2
    cases bad with
    | true =>
      obtain ⟨⟨g0, g1, g2, g3'⟩, j0, j1, j2, j3⟩ := row_facts HR0.out
      go_wp2_with fail
      obtain ⟨r1, r2⟩ := level_end (w := w) (V := wr) (Z := Z) HR0.out (fun k h => ⟨h.1, h.2.1⟩) HO.out HRr.out HBr.out l2 hq (by rw [HZ1.out (by simp)]; exact ⟨rfl, rfl⟩)
      exact bodyPost_ret (res_row48 rfl _ _ w.heap.size (exC x (.slice A x.len cc)) rfl rfl r1) rfl r2
    | false =>
      obtain ⟨t, ht⟩ : ∃ t, ts[q]? = some t := ⟨ts[q], List.getElem?_eq_getElem hq⟩
      have hdr := drop_at ht
      have hTr := HT.out.but HBr.out hbR
      obtain ⟨a0, a1, a2, a3⟩ := hTr.tok q t ht
      obtain ⟨X, Y, hXY⟩ : ∃ X Y, plc (spotL (s.data.toList.take t.pos)) = .complex .f64 X Y := ⟨_, _, rfl⟩
      rw [hXY] at a3
      obtain ⟨hz2g, hz2⟩ := HZ2.out rfl
      rw [hdr] at hz2
      obtain ⟨n, hn⟩ : ∃ n, n = ts.length := ⟨_, rfl⟩
      have c0 : wr.cell? ⟨R, 0, none⟩ = some (.slice (some ⟨b, off, none⟩) n c) := by rw [hn]; exact HRr.out.cell 0
      have c1 : wr.cell? ⟨R, 1, none⟩ = some (.int .i64 q) := HRr.out.cell 1
      have lr1 : b < wr.heap.size := by omega
      have i1 : (0 : Int) ≤ (q : Int) := by omega
      have i2 : (q : Int) < (n : Int) := by omega
      have hnc' : n ≤ c := by omega
      have hwp : IntKind.i64.wrap (q : Int) = (q : Int) := IntWalk.i64_in _ (by omega)
      have OPC := fun dd os => Go.Calls.regrown_of (operator_any t (.complex .f64 X Y) rfl lvn (by omega) (Go.Sort.grow (Go.redrawn wr dd) os))
      obtain ⟨k, hk⟩ : ∃ k, k = opP lvn t := ⟨_, rfl⟩
      rw [← hk] at OPC
      have HK := Lib.hid hk
      have HTt := Lib.hid ht
      have HDR := Lib.hid hdr
      have HZL := Lib.hid hz2
      have HN := Lib.hid hn
      have HG := Lib.hid hz2g
      clear hk ht hdr hz2 hn hXY hTr hz2g
      by_cases hk0 : k = 0
      · have gk : ((k : Int) == 0) = true := by simp [hk0]
        have HK0 := Lib.hid hk0
        clear hk0
        go_wp2_with fail
        have k0 := Go.cell_regrown c0
        have k1 := Go.cell_regrown c1
        have m0 := Go.cell_regrown a0
        have m1 := Go.cell_regrown a1
        have m2 := Go.cell_regrown a2
        have m3 := Go.cell_regrown a3
        refine Go.wp_region_quiet_below (by kernel_rfl) (by kernel_rfl) ?_
        repeat (quiet_step (with_reducible exact OPC _ _))
        refine wpQuiet_nil ?_
        intro _ hw'
        obtain ⟨⟨dq, osq⟩, hw''⟩ := hw'
        subst hw''
        have hbq := Go.below_regrown wr dq osq
        obtain ⟨W5, hW5⟩ : ∃ W5, W5 = Go.Sort.grow (Go.redrawn wr dq) osq := ⟨_, rfl⟩
        rw [← hW5] at hbq ⊢
        clear k0 k1 m0 m1 m2 m3 OPC a0 a1 a2 a3 c0 c1 hW5 e0 e1 e2 e3 k2
        have HBQ := Lib.hid hbq
        clear hbq
        have HR05 := Lib.hid ((HBQ.out.block _ h0s).trans HR0.out)
        have HR75 := (HBQ.out.block _ h7s).trans HR7.out
        have e0 : W5.cell? ⟨H7, 0, none⟩ = some (.int .i64 x.kind) := cell_of_row _ _ 0 _ 48 (0, 0) HR75
        have e1 : W5.cell? ⟨H7, 1, none⟩ = some (.int .i64 x.num) := cell_of_row _ _ 1 _ 48 (0, 0) HR75
        have e2 : W5.cell? ⟨H7, 2, none⟩ = some (.string x.nm) := cell_of_row _ _ 2 _ 48 (0, 0) HR75
        have e3 : W5.cell? ⟨H7, 3, none⟩ = some (.slice A x.len cc) := cell_of_row _ _ 3 _ 48 (0, 0) HR75
        clear HR75
        obtain ⟨⟨g0, g1, g2, g3'⟩, j0, j1, j2, j3⟩ := row_facts HR05.out
        go_wp2_with fail
        obtain ⟨r1, r2⟩ := level_end (w := w) (V := W5) (Z := Z) HR05.out (fun k h => ⟨h.1, h.2.1⟩) (HO.out.below HBQ.out (Nat.le_refl _)) (HRr.out.below HBQ.out (by omega)) (HBr.out.below HBQ.out (by omega)) l2 hq (by
          have h := HZL.out
          rw [← HDR.out, Stops_at HDR.out (by rw [← HK.out]; exact HK0.out)] at h
          rw [← h]; exact ⟨rfl, rfl, rfl⟩)
        exact bodyPost_ret (res_row48 rfl _ _ w.heap.size (exC x (.slice A x.len cc)) rfl rfl r1) rfl r2
      · have gk : ((k : Int) == 0) = false := by simp only [beq_eq_false_iff_ne]; omega
        have HK0 := Lib.hid hk0
        clear hk0
        go_wp2_with fail
        have k0 := Go.cell_regrown c0
        have k1 := Go.cell_regrown c1
        have m0 := Go.cell_regrown a0
        have m1 := Go.cell_regrown a1
        have m2 := Go.cell_regrown a2
        have m3 := Go.cell_regrown a3
        refine Go.wp_region_quiet_below (by kernel_rfl) (by kernel_rfl) ?_
        repeat (quiet_step (with_reducible exact OPC _ _))
        refine wpQuiet_nil ?_
        intro _ hw'
        obtain ⟨⟨dq, osq⟩, hw''⟩ := hw'
        subst hw''
        have hbq := Go.below_regrown wr dq osq
        obtain ⟨W5, hW5⟩ : ∃ W5, W5 = Go.Sort.grow (Go.redrawn wr dq) osq := ⟨_, rfl⟩
        rw [← hW5] at hbq ⊢
        clear k0 k1 m0 m1 m2 m3 OPC a0 a1 a2 a3 c0 c1 hW5 e0 e1 e2 e3 k2
        have HBQ := Lib.hid hbq
        clear hbq
        have HR05 := Lib.hid ((HBQ.out.block _ h0s).trans HR0.out)
        have HR75 := (HBQ.out.block _ h7s).trans HR7.out
        have e0 : W5.cell? ⟨H7, 0, none⟩ = some (.int .i64 x.kind) := cell_of_row _ _ 0 _ 48 (0, 0) HR75
        have e1 : W5.cell? ⟨H7, 1, none⟩ = some (.int .i64 x.num) := cell_of_row _ _ 1 _ 48 (0, 0) HR75
        have e2 : W5.cell? ⟨H7, 2, none⟩ = some (.string x.nm) := cell_of_row _ _ 2 _ 48 (0, 0) HR75
        have e3 : W5.cell? ⟨H7, 3, none⟩ = some (.slice A x.len cc) := cell_of_row _ _ 3 _ 48 (0, 0) HR75
        have HR7' := Lib.hid HR75
        clear HR75
        have h1 : W5.cell? ⟨R, 1, none⟩ = some (.int .i64 q) := (HRr.out.below HBQ.out (by omega)).cell 1
        have h2 : W5.frozen? ⟨R, 1, none⟩ = false := (HRr.out.below HBQ.out (by omega)).frozen 1
        have hsq := HBQ.out.size
        have hR5 : R < W5.heap.size := by omega
        have h75 : H7 < W5.heap.size := by omega
        have n7R : ¬ H7 = R := by omega
        have nR7 : ¬ R = H7 := by omega
        have hq1 : q + 1 < ts.length := hE.more q t HTt.out (by
          have h := HK0.out
          rw [HK.out] at h
          have := (sign_of_op h).2.2.1
          omega)
        have HB5 := Lib.hid ((HBr.out.below HBQ.out (by omega)).set 1 (.int .i64 (q + 1)))
        have HR5 := Lib.hid ((HRr.out.below HBQ.out (by omega)).move (q + 1))
        have hdw : Below (W5.setCell ⟨R, 1, none⟩ (.int .i64 (q + 1))).heap.size (W5.setCell ⟨R, 1, none⟩ (.int .i64 (q + 1))) (W5.setCell ⟨R, 1, none⟩ (.int .i64 (q + 1))).drew := below_drewN (Below.refl _ _) 1
        have CALL := Lib.hid ((HL.out _ (q + 1) deep ((lvn : Int) + 1) ((HT.out.but HB5.out hbR).below hdw (by simp; omega)) (HR5.out.below hdw (by simp; omega)) hq1 HD.out (by have := HUP.out; omega)).mono fun e w' h => EPost.back hdw h)
        clear hdw
        have HR7R := Lib.hid ((Go.Deep.blk_setCell_other W5 ⟨R, 1, none⟩ (.int .i64 (q + 1)) _ n7R).trans HR7'.out)
        have HR0R := Lib.hid ((Go.Deep.blk_setCell_other W5 ⟨R, 1, none⟩ (.int .i64 (q + 1)) _ hne0).trans HR05.out)
        have f0 : (W5.setCell ⟨R, 1, none⟩ (.int .i64 (q + 1))).cell? ⟨H7, 0, none⟩ = some (.int .i64 x.kind) := cell_of_row _ _ 0 _ 48 (0, 0) HR7R.out
        go_wp2_with fail
        have hwl : IntKind.i64.wrap ((lvn : Int) + 1) = (lvn : Int) + 1 := IntWalk.i64_in _ (by omega)
        go_region_with (go_at_call 68; (with_reducible refine CALL.out.mono ?_); rintro e w6 ⟨x2, sl2, q2, bad2, rfl, hO6, hR6, hB6, hq6, hres6⟩; obtain ⟨A2, cc2, rfl, hd1, hd2⟩ := hO6.slice; have HO6 := Lib.hid hO6; have HR6 := Lib.hid hR6; have HB6 := Lib.hid hB6; have HRES6 := Lib.hid hres6; clear hO6 hR6 hB6 hres6; have HR76 := Lib.hid ((HB6.out.block _ (by simp; omega) n7R).trans HR7R.out); have e0' : w6.cell? ⟨H7, 0, none⟩ = some (.int .i64 x.kind) := cell_of_row _ _ 0 _ 48 (0, 0) HR76.out; have e1' : w6.cell? ⟨H7, 1, none⟩ = some (.int .i64 x.num) := cell_of_row _ _ 1 _ 48 (0, 0) HR76.out; have e2' : w6.cell? ⟨H7, 2, none⟩ = some (.string x.nm) := cell_of_row _ _ 2 _ 48 (0, 0) HR76.out; have e3' : w6.cell? ⟨H7, 3, none⟩ = some (.slice A x.len cc) := cell_of_row _ _ 3 _ 48 (0, 0) HR76.out; have hj := frozen4 HR76.out; obtain ⟨j0, j1, j2, j3⟩ := hj; have hs6 : H7 < w6.heap.size := (by have := HB6.out.size; simp at this; omega); have hs6n : ¬ w6.heap.size = H7 := (by omega))
        all_goals
          go_wp2_with fail
          obtain ⟨W8, hW8⟩ : ∃ W8, W8 = ((((w6.setCell ⟨H7, 0, none⟩ (.int .i64 k)).setCell ⟨H7, 1, none⟩ (.int .i64 0)).setCell ⟨H7, 2, none⟩ (.string ⟨#[]⟩)).setCell ⟨H7, 3, none⟩ (.slice (some ⟨w6.heap.size, 0, none⟩) 2 2)).alloc (.cells #[.int .i64 x.kind, .int .i64 x.num, .string x.nm, .slice A x.len cc, .int .i64 x2.kind, .int .i64 x2.num, .string x2.nm, .slice A2 x2.len cc2] 48) := ⟨_, rfl⟩
          have hbw := bin_world (S := (W5.setCell ⟨R, 1, none⟩ (.int .i64 (q + 1))).heap.size) k l2 h07 (by simp; omega) HB6.out.size (((HO.out.below HBQ.out (Nat.le_refl _)).keep (by simp) (fun j h1 _ => Go.Deep.blk_setCell_other W5 ⟨R, 1, none⟩ (.int .i64 (q + 1)) j (show j ≠ R by omega))).keep HB6.out.size (fun j h1 h2 => HB6.out.block j h2 (by omega))) HO6.out HR6.out (HB5.out.trans HB6.out) HR76.out rfl ((HB6.out.block _ (by simp; omega) hne0).trans HR0R.out) W8 hW8
          obtain ⟨g', hg1, hg2⟩ := LInv.next (w := w) HL0.out HK.out HK0.out HG.out hq HZL.out HRES6.out hq6 hbw
          go_roundg g'
          case measure => exact hg1
          case rel => rw [← hW8]; exact hg2

set_option maxRecDepth 100000 in
set_option maxHeartbeats 4000000 in
theorem level_zero {R b off c : Nat} {s : ByteArray} {ts : List Tok} (hE : EndOk ts) (hbR : b ≠ R) (d up lvn : Nat) (hup : up + lvn = 2) (hl0 : lvn = 0) (L : LevC R b off c s ts d up)
    (w : World) (p : Nat) (deep : Int) (hT : ToksAt w b off c s ts) (hR : RdAt w R b off c ts.length p false) (hp : p < ts.length) (hdeep : deep + d = 8) :
    Calls Tryd.prog 68 #[.pointer (some ⟨R, 0, none⟩), .int .i64 lvn, .int .i64 deep] w fun e w' => EPost R b off c ts w (levF (facF d) (up + 1) (ts.drop p)) e w' := by
  have l2 := hR.lt
  have l1 := hT.lt
  have hnc := hT.le
  have hcc := hT.cap
  have hT0 := hT.below ((Below.refl _ _).alloc (Nat.le_refl _) (.cells zeroEx 48)) hT.lt
  have hR0 := hR.below ((Below.refl _ _).alloc (Nat.le_refl _) (.cells zeroEx 48)) hR.lt
  have LH := Lib.hid (L _ p deep ((lvn : Int) + 1) hT0 hR0 hp hdeep (by omega))
  have hne0 : ¬ w.heap.size = R := by omega
  have g3 : ((lvn : Int) == 3) = false := by simp only [beq_eq_false_iff_ne]; omega
  have gz : ((lvn : Int) == 0) = true := by simp [hl0]
  have hl2 : lvn ≤ 2 := by omega
  have HROWV := Lib.hid (heap_alloc_new w (.cells zeroEx 48))
  have HBV := Lib.hid (But.of_below (R := R) ((Below.refl _ w).alloc (Nat.le_refl _) (.cells zeroEx 48)))
  have HT := Lib.hid hT
  have HL := Lib.hid L
  have HD := Lib.hid hdeep
  obtain ⟨Z, hZ⟩ : ∃ Z, Z = levF (facF d) (up + 1) (ts.drop p) := ⟨_, rfl⟩
  rw [← hZ]
  have HZ := Lib.hid hZ
  have HL0 := Lib.hid hl0
  have HUP := Lib.hid hup
  clear L hT hR hT0 hR0 hdeep hZ hl0 hup
  go_enter Tryd.func68, Tryd.ntmps68
  go_wp2_with fail
  refine LH.out.mono ?_
  rintro e w4 ⟨x0, sl, q0, bad0, rfl, hO, hR4, hB4, hq4, hres⟩
  obtain ⟨A0, cc0, rfl, hc1, hc2⟩ := hO.slice
  have HO := Lib.hid hO
  have HR4 := Lib.hid hR4
  have HB4 := Lib.hid hB4
  have HRES := Lib.hid hres
  clear hO hR4 hB4 hres
  have HROW := Lib.hid ((HB4.out.block w.heap.size (by simp) hne0).trans HROWV.out)
  have hsz2 : w.heap.size < w4.heap.size := by have := HB4.out.size; simp at this; omega
  go_wp2_with fail
  obtain ⟨H7, hH7⟩ : ∃ H7, H7 = w4.heap.size := ⟨_, rfl⟩
  simp only [← hH7]
  have h07 : w.heap.size < H7 := by omega
  have HH7 := Lib.hid hH7
  clear hH7
  go_loopg [] (ts.length) (fun g wr => LInv R b off c ts w H7 lvn d up Z g wr)
  case atStart =>
    rw [HZ.out, HH7.out]
    exact LInv.start HUP.out l2 hsz2 hc1 hc2 HO.out HR4.out (HBV.out.trans HB4.out) HROW.out hq4 HRES.out
  case round =>
    clear HH7 hsz2 HO HR4 HB4 HRES HROW HBV HROWV LH HZ hc1 hc2 hq4
    obtain ⟨x, A, cc, q, bad, hrow7, hrow0, hc1, hc2, hO, hRr, hBr, h7s, hq, hz1, hz2⟩ := hrel
    have e0 : wr.cell? ⟨H7, 0, none⟩ = some (.int .i64 x.kind) := cell_of_row _ _ 0 _ 48 (0, 0) hrow7
    have e1 : wr.cell? ⟨H7, 1, none⟩ = some (.int .i64 x.num) := cell_of_row _ _ 1 _ 48 (0, 0) hrow7
    have e2 : wr.cell? ⟨H7, 2, none⟩ = some (.string x.nm) := cell_of_row _ _ 2 _ 48 (0, 0) hrow7
    have e3 : wr.cell? ⟨H7, 3, none⟩ = some (.slice A x.len cc) := cell_of_row _ _ 3 _ 48 (0, 0) hrow7
    have k2 : wr.cell? ⟨R, 2, none⟩ = some (.bool bad) := hRr.cell 2
    have HO := Lib.hid hO
    have HRr := Lib.hid hRr
    have HBr := Lib.hid hBr
    have HR7 := Lib.hid hrow7
    have HR0 := Lib.hid hrow0
    have HZ1 := Lib.hid hz1
    have HZ2 := Lib.hid hz2
    have h0s : w.heap.size < wr.heap.size := by omega
    clear hO hRr hBr hrow7 hrow0 hz1 hz2
    cases bad with
    | true =>
      obtain ⟨⟨g0, g1, g2, g3'⟩, j0, j1, j2, j3⟩ := row_facts HR0.out
      go_wp2_with fail
      obtain ⟨r1, r2⟩ := level_end (w := w) (V := wr) (Z := Z) HR0.out (fun k h => ⟨h.1, h.2.1⟩) HO.out HRr.out HBr.out l2 hq (by rw [HZ1.out (by simp)]; exact ⟨rfl, rfl⟩)
      exact bodyPost_ret (res_row48 rfl _ _ w.heap.size (exC x (.slice A x.len cc)) rfl rfl r1) rfl r2
    | false =>
      obtain ⟨t, ht⟩ : ∃ t, ts[q]? = some t := ⟨ts[q], List.getElem?_eq_getElem hq⟩
      have hdr := drop_at ht
      have hTr := HT.out.but HBr.out hbR
      obtain ⟨a0, a1, a2, a3⟩ := hTr.tok q t ht
      obtain ⟨X, Y, hXY⟩ : ∃ X Y, plc (spotL (s.data.toList.take t.pos)) = .complex .f64 X Y := ⟨_, _, rfl⟩
      rw [hXY] at a3
      obtain ⟨hz2g, hz2⟩ := HZ2.out rfl
      rw [hdr] at hz2
      obtain ⟨n, hn⟩ : ∃ n, n = ts.length := ⟨_, rfl⟩
      have c0 : wr.cell? ⟨R, 0, none⟩ = some (.slice (some ⟨b, off, none⟩) n c) := by rw [hn]; exact HRr.out.cell 0
      have c1 : wr.cell? ⟨R, 1, none⟩ = some (.int .i64 q) := HRr.out.cell 1
      have lr1 : b < wr.heap.size := by omega
      have i1 : (0 : Int) ≤ (q : Int) := by omega
      have i2 : (q : Int) < (n : Int) := by omega
      have hnc' : n ≤ c := by omega
      have hwp : IntKind.i64.wrap (q : Int) = (q : Int) := IntWalk.i64_in _ (by omega)
      have OPC := fun dd os => Go.Calls.regrown_of (operator_any t (.complex .f64 X Y) rfl lvn (by omega) (Go.Sort.grow (Go.redrawn wr dd) os))
      obtain ⟨k, hk⟩ : ∃ k, k = opP lvn t := ⟨_, rfl⟩
      rw [← hk] at OPC
      have HK := Lib.hid hk
      have HTt := Lib.hid ht
      have HDR := Lib.hid hdr
      have HZL := Lib.hid hz2
      have HN := Lib.hid hn
      have HG := Lib.hid hz2g
      clear hk ht hdr hz2 hn hXY hTr hz2g
      by_cases hk0 : k = 0
      · have gk : ((k : Int) == 0) = true := by simp [hk0]
        have HK0 := Lib.hid hk0
        clear hk0
        go_wp2_with fail
        have k0 := Go.cell_regrown c0
        have k1 := Go.cell_regrown c1
        have m0 := Go.cell_regrown a0
        have m1 := Go.cell_regrown a1
        have m2 := Go.cell_regrown a2
        have m3 := Go.cell_regrown a3
        refine Go.wp_region_quiet_below (by kernel_rfl) (by kernel_rfl) ?_
        repeat (quiet_step (with_reducible exact OPC _ _))
        refine wpQuiet_nil ?_
        intro _ hw'
        obtain ⟨⟨dq, osq⟩, hw''⟩ := hw'
        subst hw''
        have hbq := Go.below_regrown wr dq osq
        obtain ⟨W5, hW5⟩ : ∃ W5, W5 = Go.Sort.grow (Go.redrawn wr dq) osq := ⟨_, rfl⟩
        rw [← hW5] at hbq ⊢
        clear k0 k1 m0 m1 m2 m3 OPC a0 a1 a2 a3 c0 c1 hW5 e0 e1 e2 e3 k2
        have HBQ := Lib.hid hbq
        clear hbq
        have HR05 := Lib.hid ((HBQ.out.block _ h0s).trans HR0.out)
        have HR75 := (HBQ.out.block _ h7s).trans HR7.out
        have e0 : W5.cell? ⟨H7, 0, none⟩ = some (.int .i64 x.kind) := cell_of_row _ _ 0 _ 48 (0, 0) HR75
        have e1 : W5.cell? ⟨H7, 1, none⟩ = some (.int .i64 x.num) := cell_of_row _ _ 1 _ 48 (0, 0) HR75
        have e2 : W5.cell? ⟨H7, 2, none⟩ = some (.string x.nm) := cell_of_row _ _ 2 _ 48 (0, 0) HR75
        have e3 : W5.cell? ⟨H7, 3, none⟩ = some (.slice A x.len cc) := cell_of_row _ _ 3 _ 48 (0, 0) HR75
        clear HR75
        obtain ⟨⟨g0, g1, g2, g3'⟩, j0, j1, j2, j3⟩ := row_facts HR05.out
        go_wp2_with fail
        obtain ⟨r1, r2⟩ := level_end (w := w) (V := W5) (Z := Z) HR05.out (fun k h => ⟨h.1, h.2.1⟩) (HO.out.below HBQ.out (Nat.le_refl _)) (HRr.out.below HBQ.out (by omega)) (HBr.out.below HBQ.out (by omega)) l2 hq (by
          have h := HZL.out
          rw [← HDR.out, Stops_at HDR.out (by rw [← HK.out]; exact HK0.out)] at h
          rw [← h]; exact ⟨rfl, rfl, rfl⟩)
        exact bodyPost_ret (res_row48 rfl _ _ w.heap.size (exC x (.slice A x.len cc)) rfl rfl r1) rfl r2
      · have gk : ((k : Int) == 0) = false := by simp only [beq_eq_false_iff_ne]; omega
        have HK0 := Lib.hid hk0
        clear hk0
        go_wp2_with fail
        have k0 := Go.cell_regrown c0
        have k1 := Go.cell_regrown c1
        have m0 := Go.cell_regrown a0
        have m1 := Go.cell_regrown a1
        have m2 := Go.cell_regrown a2
        have m3 := Go.cell_regrown a3
        refine Go.wp_region_quiet_below (by kernel_rfl) (by kernel_rfl) ?_
        repeat (quiet_step (with_reducible exact OPC _ _))
        refine wpQuiet_nil ?_
        intro _ hw'
        obtain ⟨⟨dq, osq⟩, hw''⟩ := hw'
        subst hw''
        have hbq := Go.below_regrown wr dq osq
        obtain ⟨W5, hW5⟩ : ∃ W5, W5 = Go.Sort.grow (Go.redrawn wr dq) osq := ⟨_, rfl⟩
        rw [← hW5] at hbq ⊢
        clear k0 k1 m0 m1 m2 m3 OPC a0 a1 a2 a3 c0 c1 hW5 e0 e1 e2 e3 k2
        have HBQ := Lib.hid hbq
        clear hbq
        have HR05 := Lib.hid ((HBQ.out.block _ h0s).trans HR0.out)
        have HR75 := (HBQ.out.block _ h7s).trans HR7.out
        have e0 : W5.cell? ⟨H7, 0, none⟩ = some (.int .i64 x.kind) := cell_of_row _ _ 0 _ 48 (0, 0) HR75
        have e1 : W5.cell? ⟨H7, 1, none⟩ = some (.int .i64 x.num) := cell_of_row _ _ 1 _ 48 (0, 0) HR75
        have e2 : W5.cell? ⟨H7, 2, none⟩ = some (.string x.nm) := cell_of_row _ _ 2 _ 48 (0, 0) HR75
        have e3 : W5.cell? ⟨H7, 3, none⟩ = some (.slice A x.len cc) := cell_of_row _ _ 3 _ 48 (0, 0) HR75
        have HR7' := Lib.hid HR75
        clear HR75
        have h1 : W5.cell? ⟨R, 1, none⟩ = some (.int .i64 q) := (HRr.out.below HBQ.out (by omega)).cell 1
        have h2 : W5.frozen? ⟨R, 1, none⟩ = false := (HRr.out.below HBQ.out (by omega)).frozen 1
        have hsq := HBQ.out.size
        have hR5 : R < W5.heap.size := by omega
        have h75 : H7 < W5.heap.size := by omega
        have n7R : ¬ H7 = R := by omega
        have nR7 : ¬ R = H7 := by omega
        have hq1 : q + 1 < ts.length := hE.more q t HTt.out (by
          have h := HK0.out
          rw [HK.out] at h
          have := (sign_of_op h).2.2.1
          omega)
        have HB5 := Lib.hid ((HBr.out.below HBQ.out (by omega)).set 1 (.int .i64 (q + 1)))
        have HR5 := Lib.hid ((HRr.out.below HBQ.out (by omega)).move (q + 1))
        have hdw : Below (W5.setCell ⟨R, 1, none⟩ (.int .i64 (q + 1))).heap.size (W5.setCell ⟨R, 1, none⟩ (.int .i64 (q + 1))) (W5.setCell ⟨R, 1, none⟩ (.int .i64 (q + 1))).drew := below_drewN (Below.refl _ _) 1
        have CALL := Lib.hid ((HL.out _ (q + 1) deep ((lvn : Int) + 1) ((HT.out.but HB5.out hbR).below hdw (by simp; omega)) (HR5.out.below hdw (by simp; omega)) hq1 HD.out (by have := HUP.out; omega)).mono fun e w' h => EPost.back hdw h)
        clear hdw
        have HR7R := Lib.hid ((Go.Deep.blk_setCell_other W5 ⟨R, 1, none⟩ (.int .i64 (q + 1)) _ n7R).trans HR7'.out)
        have HR0R := Lib.hid ((Go.Deep.blk_setCell_other W5 ⟨R, 1, none⟩ (.int .i64 (q + 1)) _ hne0).trans HR05.out)
        have f0 : (W5.setCell ⟨R, 1, none⟩ (.int .i64 (q + 1))).cell? ⟨H7, 0, none⟩ = some (.int .i64 x.kind) := cell_of_row _ _ 0 _ 48 (0, 0) HR7R.out
        go_wp2_with fail
        have hwl : IntKind.i64.wrap ((lvn : Int) + 1) = (lvn : Int) + 1 := IntWalk.i64_in _ (by omega)
        go_region_with (go_at_call 68; (with_reducible refine CALL.out.mono ?_); rintro e w6 ⟨x2, sl2, q2, bad2, rfl, hO6, hR6, hB6, hq6, hres6⟩; obtain ⟨A2, cc2, rfl, hd1, hd2⟩ := hO6.slice; have HO6 := Lib.hid hO6; have HR6 := Lib.hid hR6; have HB6 := Lib.hid hB6; have HRES6 := Lib.hid hres6; clear hO6 hR6 hB6 hres6; have HR76 := Lib.hid ((HB6.out.block _ (by simp; omega) n7R).trans HR7R.out); have e0' : w6.cell? ⟨H7, 0, none⟩ = some (.int .i64 x.kind) := cell_of_row _ _ 0 _ 48 (0, 0) HR76.out; have e1' : w6.cell? ⟨H7, 1, none⟩ = some (.int .i64 x.num) := cell_of_row _ _ 1 _ 48 (0, 0) HR76.out; have e2' : w6.cell? ⟨H7, 2, none⟩ = some (.string x.nm) := cell_of_row _ _ 2 _ 48 (0, 0) HR76.out; have e3' : w6.cell? ⟨H7, 3, none⟩ = some (.slice A x.len cc) := cell_of_row _ _ 3 _ 48 (0, 0) HR76.out; have hj := frozen4 HR76.out; obtain ⟨j0, j1, j2, j3⟩ := hj; have hs6 : H7 < w6.heap.size := (by have := HB6.out.size; simp at this; omega); have hs6n : ¬ w6.heap.size = H7 := (by omega); have HR06 := Lib.hid ((HB6.out.block _ (by simp; omega) hne0).trans HR0R.out); have hx := row_facts HR06.out; obtain ⟨⟨y0, y1, y2, y3⟩, z0, z1, z2, z3⟩ := hx; have h07a : ¬ H7 = w.heap.size := (by omega); have h07b : w.heap.size < w6.heap.size := (by omega); have h07c : ¬ w6.heap.size = w.heap.size := (by omega))
        all_goals
          go_wp2_with fail
          obtain ⟨W8, hW8⟩ : ∃ W8, W8 = ((((w6.setCell ⟨H7, 0, none⟩ (.int .i64 k)).setCell ⟨H7, 1, none⟩ (.int .i64 0)).setCell ⟨H7, 2, none⟩ (.string ⟨#[]⟩)).setCell ⟨H7, 3, none⟩ (.slice (some ⟨w6.heap.size, 0, none⟩) 2 2)).alloc (.cells #[.int .i64 x.kind, .int .i64 x.num, .string x.nm, .slice A x.len cc, .int .i64 x2.kind, .int .i64 x2.num, .string x2.nm, .slice A2 x2.len cc2] 48) := ⟨_, rfl⟩
          have hbw := bin_world (S := (W5.setCell ⟨R, 1, none⟩ (.int .i64 (q + 1))).heap.size) k l2 h07 (by simp; omega) HB6.out.size (((HO.out.below HBQ.out (Nat.le_refl _)).keep (by simp) (fun j h1 _ => Go.Deep.blk_setCell_other W5 ⟨R, 1, none⟩ (.int .i64 (q + 1)) j (show j ≠ R by omega))).keep HB6.out.size (fun j h1 h2 => HB6.out.block j h2 (by omega))) HO6.out HR6.out (HB5.out.trans HB6.out) HR76.out rfl ((HB6.out.block _ (by simp; omega) hne0).trans HR0R.out) W8 hW8
          have hcomm : ∀ (X : World) (o : Obj) (v0 v1 v2 v3 : Value), w.heap.size < X.heap.size → ((((X.alloc o).setCell ⟨w.heap.size, 0, none⟩ v0).setCell ⟨w.heap.size, 1, none⟩ v1).setCell ⟨w.heap.size, 2, none⟩ v2).setCell ⟨w.heap.size, 3, none⟩ v3 = ((((X.setCell ⟨w.heap.size, 0, none⟩ v0).setCell ⟨w.heap.size, 1, none⟩ v1).setCell ⟨w.heap.size, 2, none⟩ v2).setCell ⟨w.heap.size, 3, none⟩ v3).alloc o := fun X o v0 v1 v2 v3 hX => by
            rw [World.setCell_alloc_past _ _ _ _ hX, World.setCell_alloc_past _ _ _ _ (by simpa using hX), World.setCell_alloc_past _ _ _ _ (by simpa using hX), World.setCell_alloc_past _ _ _ _ (by simpa using hX)]
          have ho : opP lvn t ≠ 0 := by have h := HK0.out; rw [HK.out] at h; exact h
          have hzz := HZL.out
          obtain ⟨u1, u2, u3, u4, u5, u6⟩ := hbw
          obtain ⟨r1, r2⟩ := level_end (w := w) (V := W8) (Z := Z) u2 (fun j h => ⟨h.1, h.2.1⟩) u3 u4 u5 l2 hq6 (by
            have hl := HL0.out
            subst hl
            cases hx : levF (facF d) up (ts.drop (q + 1)) with
            | bad r => have hr := HRES6.out; rw [hx] at hr; rw [loop_bad ho hx] at hzz; rw [← hzz]; exact hr
            | ok y r => have hr := HRES6.out; rw [hx] at hr; rw [loop_once ho hx] at hzz; rw [← hzz]; exact ⟨by rw [HK.out, hr.1], hr.2⟩)
          rw [hW8, hcomm _ _ _ _ _ _ (by simp; omega)] at r1 r2
          exact bodyPost_ret (res_row48 rfl _ _ w.heap.size (exC (.bin k x x2) (.slice (some ⟨w6.heap.size, 0, none⟩) (Ex.bin k x x2).len 2)) rfl rfl r1) rfl r2

theorem level_any {R b off c : Nat} {s : ByteArray} {ts : List Tok} (hE : EndOk ts) (hbR : b ≠ R) (d : Nat) (F : FacC R b off c s ts d) : ∀ up, up ≤ 3 → LevC R b off c s ts d up := by
  intro up
  induction up with
  | zero => intro _; exact level_fac d F
  | succ up ih =>
    intro hu w p deep lv hT hR hp hd hlv
    have IH := ih (by omega)
    obtain ⟨lvn, rfl⟩ : ∃ lvn : Nat, lv = lvn := ⟨lv.toNat, by omega⟩
    by_cases h0 : lvn = 0
    · exact level_zero hE hbR d up lvn (by omega) h0 IH w p deep hT hR hp hd
    · exact level_more hE hbR d up lvn (by omega) h0 IH w p deep hT hR hp hd

theorem fac_lev {R b off c : Nat} {s : ByteArray} {ts : List Tok} (hE : EndOk ts) (hbR : b ≠ R) : ∀ d, d ≤ 8 → FacC R b off c s ts d ∧ LevC R b off c s ts d 3 := by
  intro d
  induction d with
  | zero =>
    intro _
    have F : FacC R b off c s ts 0 := factor_any hE hbR 0 (by omega) (fun d' h => by omega)
    exact ⟨F, level_any hE hbR 0 F 3 (by omega)⟩
  | succ d ih =>
    intro hd
    have F : FacC R b off c s ts (d + 1) := factor_any hE hbR (d + 1) hd (fun d' h => by
      have e : d' = d := by omega
      rw [e]; exact ih (by omega))
    exact ⟨F, level_any hE hbR (d + 1) F 3 (by omega)⟩

end Go.Proofs.YtgkfmeccipgnjaaDoor
