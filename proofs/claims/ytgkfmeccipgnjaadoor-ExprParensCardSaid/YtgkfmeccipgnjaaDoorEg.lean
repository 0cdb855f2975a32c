/- Contract of expr's factor: behind a minus, and in parentheses. -/
import Derived.Test.YtgkfmeccipgnjaaDoorEf
namespace Go.Proofs.YtgkfmeccipgnjaaDoor
open Go.RowKit

/-- What a minus makes of a reading. -/
def minusR : ERes → ERes
  | .bad r => .bad r
  | .ok e r => .ok (.un 3 e) r
/-- What a parenthesis makes of a reading. -/
def parenR : ERes → ERes
  | .bad r => .bad r
  | .ok _ [] => .bad []
  | .ok e (u :: r) => if u.kind = 3 ∧ u.text = [41] then .ok e r else .bad (u :: r)
theorem drop_cons {ts : List Tok} {q : Nat} {u : Tok} {r : List Tok} (h : ts.drop q = u :: r) : ts[q]? = some u ∧ ts.drop (q + 1) = r := by
  constructor
  · have := List.getElem?_drop (xs := ts) (i := q) (j := 0)
    rw [h] at this; simpa using this.symm
  · rw [← List.drop_drop, h]; rfl
theorem drop_ne {ts : List Tok} {q : Nat} (h : q < ts.length) : ts.drop q ≠ [] := by
  intro e
  have := List.drop_eq_nil_iff.mp e
  omega
theorem paren_yes {ts : List Tok} {q : Nat} {bad : Bool} {x : Ex} {res : ERes} (hres : match res with | .ok y r => x = y ∧ bad = false ∧ ts.drop q = r | .bad r => bad = true ∧ ts.drop q = r) (hq : q < ts.length) (hv : (!bad && tokIs ts q 3 [41]) = true) :
    parenR res = .ok x (ts.drop (q + 1)) ∧ bad = false := by
  cases res with
  | bad r => rw [hres.1] at hv; simp at hv
  | ok y r =>
    obtain ⟨rfl, rfl, hd⟩ := hres
    cases r with
    | nil => exact absurd hd (drop_ne hq)
    | cons u r =>
      obtain ⟨h1, h2⟩ := drop_cons hd
      simp only [tokIs, h1, Bool.not_false, Bool.true_and, Bool.and_eq_true, beq_iff_eq] at hv
      simp [parenR, hv, h2]
theorem paren_no {ts : List Tok} {q : Nat} {bad : Bool} {x : Ex} {res : ERes} (hres : match res with | .ok y r => x = y ∧ bad = false ∧ ts.drop q = r | .bad r => bad = true ∧ ts.drop q = r) (hq : q < ts.length) (hv : (!bad && tokIs ts q 3 [41]) = false) :
    parenR res = .bad (ts.drop q) := by
  cases res with
  | bad r => rw [hres.2]; rfl
  | ok y r =>
    obtain ⟨rfl, rfl, hd⟩ := hres
    cases r with
    | nil => exact absurd hd (drop_ne hq)
    | cons u r =>
      obtain ⟨h1, h2⟩ := drop_cons hd
      simp only [tokIs, h1, Bool.not_false, Bool.true_and] at hv
      rw [hd]
      simp only [parenR]
      rw [if_neg]
      rintro ⟨a, b⟩
      simp [a, b] at hv
theorem heap_alloc_newE (w : World) (o : Obj) {n : Nat} (h : w.heap.size = n) : (w.alloc o).heap[n]? = some o := by
  subst h; exact heap_alloc_new w o

set_option maxRecDepth 100000 in
set_option maxHeartbeats 4000000 in
theorem factor_minus (w : World) (R b off c : Nat) (s : ByteArray) (ts : List Tok) (p : Nat) (hT : ToksAt w b off c s ts) (hR : RdAt w R b off c ts.length p false) (hE : EndOk ts) (t : Tok) (ht : ts[p]? = some t) (deep : Int) (hbR : b ≠ R) (d : Nat) (hd7 : d ≤ 7) (hdeep : deep + (d + 1 : Nat) = 8) (hk : t.kind = 3) (hm : tokIs ts p 3 [45] = true) (hq : tokIs ts p 3 [40] = false) (F : FacC R b off c s ts d) :
    Calls Tryd.prog 87 #[.pointer (some ⟨R, 0, none⟩), .int .i64 deep] w fun e w' => EPost R b off c ts w (minusR (facF d (ts.drop (p + 1)))) e w' := by
  obtain ⟨hp, _⟩ := List.getElem?_eq_some_iff.mp ht
  have hp1 := hE.more p t ht (by omega)
  have a0 := (hT.tok p t ht).kind
  have a1 := (hT.tok p t ht).text
  have a2 := (hT.tok p t ht).num
  have a3 := (hT.tok p t ht).pos
  obtain ⟨X, Y, hXY⟩ : ∃ X Y, plc (spotL (s.data.toList.take t.pos)) = .complex .f64 X Y := ⟨_, _, rfl⟩
  rw [hXY] at a3
  obtain ⟨n, hn⟩ : ∃ n, n = ts.length := ⟨_, rfl⟩
  have c0 : w.cell? ⟨R, 0, none⟩ = some (.slice (some ⟨b, off, none⟩) n c) := by rw [hn]; exact hR.cell 0
  have c1 : w.cell? ⟨R, 1, none⟩ = some (.int .i64 p) := hR.cell 1
  have c2 : w.cell? ⟨R, 2, none⟩ = some (.bool false) := hR.cell 2
  have l1 := hT.lt
  have l2 := hR.lt
  have hnc := hT.le
  have hcc := hT.cap
  rw [← hn] at hnc
  have hvm : tokIs ts p 3 (⟨#[45]⟩ : ByteArray).data.toList = true := hm
  have hvp : tokIs ts p 3 (⟨#[40]⟩ : ByteArray).data.toList = false := hq
  have ISM := Lib.hid (fun (W : World) (hb : Below w.heap.size w W) => is_here (by omega) hT hR hb hvm)
  have ISP := Lib.hid (fun (W : World) (hb : Below w.heap.size w W) => is_here (by omega) hT hR hb hvp)
  have f1 := hR.frozen 1
  have f2 := hR.frozen 2
  rw [← hn] at hp hp1
  have i1 : (0 : Int) ≤ (p : Int) := by omega
  have i2 : (p : Int) < (n : Int) := by omega
  have hwp : IntKind.i64.wrap (p : Int) = (p : Int) := IntWalk.i64_in _ (by omega)
  have hne1 : ¬ w.heap.size + 1 = R := by omega
  have hne0 : ¬ w.heap.size = R := by omega
  rw [hk] at a0
  have gd : (deep == 8) = false := by simp only [beq_eq_false_iff_ne]; omega
  have gd0 : 0 ≤ deep := by omega
  have gd8 : deep ≤ 8 := by omega
  have hcx := @run_store_cx Tryd.prog
  have HT := Lib.hid hT
  have HR := Lib.hid hR
  have HN := Lib.hid hn
  have HTt := Lib.hid ht
  have FH := Lib.hid F
  clear hT hR hn ht hXY hk hvm hvp hE hm hq F
  go_enter Tryd.func87, Tryd.ntmps87
  go_wp2_with fail
  go_region
  go_wp2_with fail
  refine (ISM.out _ (by exact below_drewN (((Below.refl _ _).alloc (Nat.le_refl _) _).alloc (by simp) _) _)).mono ?_
  rintro e w2 ⟨rfl, k1, rfl⟩
  go_wp2_with fail
  refine (ISP.out _ (by exact below_drewN (((Below.refl _ _).alloc (Nat.le_refl _) _).alloc (by simp) _) _)).mono ?_
  rintro e w3 ⟨rfl, k2, rfl⟩
  have hV : Below w.heap.size w (((w.alloc (.cells zeroEx 48)).alloc (.cells #[.int .i64 3, .string ⟨t.text.toArray⟩, .int .i64 t.n, .complex .f64 X Y] 31)).drewN (1 + k1 + k2)) := (below_drewN (((Below.refl _ _).alloc (Nat.le_refl _) _).alloc (by simp) _) (1 + k1 + k2))
  have hsV : (((w.alloc (.cells zeroEx 48)).alloc (.cells #[.int .i64 3, .string ⟨t.text.toArray⟩, .int .i64 t.n, .complex .f64 X Y] 31)).drewN (1 + k1 + k2)).heap.size = w.heap.size + 2 := by simp
  have HBV := Lib.hid ((But.of_below (R := R) hV).set 1 (.int .i64 (p + 1)))
  have HRV := Lib.hid ((HR.out.below hV l2).move (p + 1))
  have HTV := Lib.hid (HT.out.but HBV.out hbR)
  have HROWV := Lib.hid ((Go.Deep.blk_setCell_other (((w.alloc (.cells zeroEx 48)).alloc (.cells #[.int .i64 3, .string ⟨t.text.toArray⟩, .int .i64 t.n, .complex .f64 X Y] 31)).drewN (1 + k1 + k2)) ⟨R, 1, none⟩ (.int .i64 (p + 1)) _ hne0).trans two_old)
  have HSV := Lib.hid (show ((((w.alloc (.cells zeroEx 48)).alloc (.cells #[.int .i64 3, .string ⟨t.text.toArray⟩, .int .i64 t.n, .complex .f64 X Y] 31)).drewN (1 + k1 + k2)).setCell ⟨R, 1, none⟩ (.int .i64 (p + 1))).heap.size = w.heap.size + 2 by simp)
  clear hV hsV
  go_wp2_with fail
  refine (FH.out _ (p + 1) (deep + 1) HTV.out HRV.out (by rw [← HN.out]; omega) (by omega)).mono ?_
  rintro e w4 ⟨x, sl, q, bad, rfl, hO, hR4, hB4, hq4, hres⟩
  obtain ⟨A, cc, rfl, hc1, hc2⟩ := hO.slice
  have HO := Lib.hid hO
  have HR4 := Lib.hid hR4
  have HB4 := Lib.hid hB4
  have HRES := Lib.hid hres
  clear hO hR4 hB4 hres
  have HROW := Lib.hid ((HB4.out.block w.heap.size (by rw [HSV.out]; omega) (by omega)).trans HROWV.out)
  have hsz : w.heap.size + 2 ≤ w4.heap.size := by have := HB4.out.size; rw [HSV.out] at this; exact this
  have hsz2 : w.heap.size < w4.heap.size := by omega
  have hsz3 : ¬ w4.heap.size = w.heap.size := by omega
  obtain ⟨⟨g0, g1, g2, g3⟩, j0, j1, j2, j3⟩ := row_facts HROW.out
  go_wp2_with fail
  obtain ⟨r1, r2, r3⟩ := fin4 HR4.out (HBV.out.trans HB4.out) HROW.out rfl l2 (.int .i64 3) (.int .i64 0) (.string ⟨#[]⟩) (.slice (some ⟨w4.heap.size, 0, none⟩) 1 1)
  refine bodyPost_ret (res_row48 rfl _ _ w.heap.size (exC (.un 3 x) (.slice (some ⟨w4.heap.size, 0, none⟩) 1 1)) rfl rfl ((heap_alloc_old _ _ (by simp; omega)).trans r1)) rfl
    ⟨.un 3 x, _, q, bad, rfl, ?_, r2.below ((Below.refl _ _).alloc (Nat.le_refl _) _) (by simp; omega), r3.below ((Below.refl _ _).alloc (Nat.le_refl _) _) (by simp; omega), hq4, ?_⟩
  · have hO := HO.out
    rw [HSV.out] at hO
    have hk : ∀ k, k ≠ w.heap.size → ((((w4.setCell ⟨w.heap.size, 0, none⟩ (.int .i64 3)).setCell ⟨w.heap.size, 1, none⟩ (.int .i64 0)).setCell ⟨w.heap.size, 2, none⟩ (.string ⟨#[]⟩)).setCell ⟨w.heap.size, 3, none⟩ (.slice (some ⟨w4.heap.size, 0, none⟩) 1 1)).heap[k]? = w4.heap[k]? := fun k hk => by
      rw [Go.Deep.blk_setCell_other _ ⟨w.heap.size, 3, none⟩ _ _ hk, Go.Deep.blk_setCell_other _ ⟨w.heap.size, 2, none⟩ _ _ hk, Go.Deep.blk_setCell_other _ ⟨w.heap.size, 1, none⟩ _ _ hk, Go.Deep.blk_setCell_other _ ⟨w.heap.size, 0, none⟩ _ _ hk]
    refine (of_un hO hsz (by simp) (fun k h1 h2 => ?_) ?_).low (fun k _ h => by omega)
    · exact (heap_alloc_old _ _ (by simp; omega)).trans (hk k (by omega))
    · exact heap_alloc_newE _ _ (by simp)
  · have hres := HRES.out
    cases hf : facF d (ts.drop (p + 1)) with
    | bad r => rw [hf] at hres; exact hres
    | ok y r => rw [hf] at hres; exact ⟨by rw [hres.1], hres.2⟩

set_option maxRecDepth 100000 in
set_option maxHeartbeats 4000000 in
theorem factor_paren (w : World) (R b off c : Nat) (s : ByteArray) (ts : List Tok) (p : Nat) (hT : ToksAt w b off c s ts) (hR : RdAt w R b off c ts.length p false) (hE : EndOk ts) (t : Tok) (ht : ts[p]? = some t) (deep : Int) (hbR : b ≠ R) (d : Nat) (hd7 : d ≤ 7) (hdeep : deep + (d + 1 : Nat) = 8) (hk : t.kind = 3) (hm : tokIs ts p 3 [45] = false) (hq : tokIs ts p 3 [40] = true) (L : LevC R b off c s ts d 3)
    (HV : ∀ (x : Ex) (q : Nat) (bad : Bool), (match levF (facF d) 3 (ts.drop (p + 1)) with | .ok y r => x = y ∧ bad = false ∧ ts.drop q = r | .bad r => bad = true ∧ ts.drop q = r) → (!bad && tokIs ts q 3 (⟨#[41]⟩ : ByteArray).data.toList) = true ∧ q + 1 < ts.length) :
    Calls Tryd.prog 87 #[.pointer (some ⟨R, 0, none⟩), .int .i64 deep] w fun e w' => EPost R b off c ts w (parenR (levF (facF d) 3 (ts.drop (p + 1)))) e w' := by
  obtain ⟨hp, _⟩ := List.getElem?_eq_some_iff.mp ht
  have hp1 := hE.more p t ht (by omega)
  have a0 := (hT.tok p t ht).kind
  have a1 := (hT.tok p t ht).text
  have a2 := (hT.tok p t ht).num
  have a3 := (hT.tok p t ht).pos
  obtain ⟨X, Y, hXY⟩ : ∃ X Y, plc (spotL (s.data.toList.take t.pos)) = .complex .f64 X Y := ⟨_, _, rfl⟩
  rw [hXY] at a3
  obtain ⟨n, hn⟩ : ∃ n, n = ts.length := ⟨_, rfl⟩
  have c0 : w.cell? ⟨R, 0, none⟩ = some (.slice (some ⟨b, off, none⟩) n c) := by rw [hn]; exact hR.cell 0
  have c1 : w.cell? ⟨R, 1, none⟩ = some (.int .i64 p) := hR.cell 1
  have c2 : w.cell? ⟨R, 2, none⟩ = some (.bool false) := hR.cell 2
  have l1 := hT.lt
  have l2 := hR.lt
  have hnc := hT.le
  have hcc := hT.cap
  rw [← hn] at hnc
  have hvm : tokIs ts p 3 (⟨#[45]⟩ : ByteArray).data.toList = false := hm
  have hvp : tokIs ts p 3 (⟨#[40]⟩ : ByteArray).data.toList = true := hq
  have ISM := Lib.hid (fun (W : World) (hb : Below w.heap.size w W) => is_here (by omega) hT hR hb hvm)
  have ISP := Lib.hid (fun (W : World) (hb : Below w.heap.size w W) => is_here (by omega) hT hR hb hvp)
  have f1 := hR.frozen 1
  have f2 := hR.frozen 2
  rw [← hn] at hp hp1
  have i1 : (0 : Int) ≤ (p : Int) := by omega
  have i2 : (p : Int) < (n : Int) := by omega
  have hwp : IntKind.i64.wrap (p : Int) = (p : Int) := IntWalk.i64_in _ (by omega)
  have hne1 : ¬ w.heap.size + 1 = R := by omega
  have hne0 : ¬ w.heap.size = R := by omega
  rw [hk] at a0
  have gd : (deep == 8) = false := by simp only [beq_eq_false_iff_ne]; omega
  have gd0 : 0 ≤ deep := by omega
  have gd8 : deep ≤ 8 := by omega
  have hcx := @run_store_cx Tryd.prog
  have HT := Lib.hid hT
  have HR := Lib.hid hR
  have HN := Lib.hid hn
  have HTt := Lib.hid ht
  have LH := Lib.hid L
  have HVH := Lib.hid HV
  clear hT hR hn ht hXY hk hvm hvp hE hm hq L HV
  go_enter Tryd.func87, Tryd.ntmps87
  go_wp2_with fail
  go_region
  go_wp2_with fail
  refine (ISM.out _ (by exact below_drewN (((Below.refl _ _).alloc (Nat.le_refl _) _).alloc (by simp) _) _)).mono ?_
  rintro e w2 ⟨rfl, k1, rfl⟩
  go_wp2_with fail
  refine (ISP.out _ (by exact below_drewN (((Below.refl _ _).alloc (Nat.le_refl _) _).alloc (by simp) _) _)).mono ?_
  rintro e w3 ⟨rfl, k2, rfl⟩
  have hV : Below w.heap.size w (((w.alloc (.cells zeroEx 48)).alloc (.cells #[.int .i64 3, .string ⟨t.text.toArray⟩, .int .i64 t.n, .complex .f64 X Y] 31)).drewN (1 + k1 + k2)) := (below_drewN (((Below.refl _ _).alloc (Nat.le_refl _) _).alloc (by simp) _) (1 + k1 + k2))
  have hsV : (((w.alloc (.cells zeroEx 48)).alloc (.cells #[.int .i64 3, .string ⟨t.text.toArray⟩, .int .i64 t.n, .complex .f64 X Y] 31)).drewN (1 + k1 + k2)).heap.size = w.heap.size + 2 := by simp
  have HBV := Lib.hid ((But.of_below (R := R) hV).set 1 (.int .i64 (p + 1)))
  have HRV := Lib.hid ((HR.out.below hV l2).move (p + 1))
  have HTV := Lib.hid (HT.out.but HBV.out hbR)
  have HROWV := Lib.hid ((Go.Deep.blk_setCell_other (((w.alloc (.cells zeroEx 48)).alloc (.cells #[.int .i64 3, .string ⟨t.text.toArray⟩, .int .i64 t.n, .complex .f64 X Y] 31)).drewN (1 + k1 + k2)) ⟨R, 1, none⟩ (.int .i64 (p + 1)) _ hne0).trans two_old)
  have HSV := Lib.hid (show ((((w.alloc (.cells zeroEx 48)).alloc (.cells #[.int .i64 3, .string ⟨t.text.toArray⟩, .int .i64 t.n, .complex .f64 X Y] 31)).drewN (1 + k1 + k2)).setCell ⟨R, 1, none⟩ (.int .i64 (p + 1))).heap.size = w.heap.size + 2 by simp)
  clear hV hsV
  go_wp2_with fail
  refine (LH.out _ (p + 1) (deep + 1) 0 HTV.out HRV.out (by rw [← HN.out]; omega) (by omega) (by omega)).mono ?_
  rintro e w4 ⟨x, sl, q, bad, rfl, hO, hR4, hB4, hq4, hres⟩
  obtain ⟨A, cc, rfl, hc1, hc2⟩ := hO.slice
  have HO := Lib.hid hO
  have HR4 := Lib.hid hR4
  have HB4 := Lib.hid hB4
  have HRES := Lib.hid hres
  clear hO hR4 hB4 hres
  have HROW := Lib.hid ((HB4.out.block w.heap.size (by rw [HSV.out]; omega) (by omega)).trans HROWV.out)
  have hsz : w.heap.size + 2 ≤ w4.heap.size := by have := HB4.out.size; rw [HSV.out] at this; exact this
  have hsz2 : w.heap.size < w4.heap.size := by omega
  have hsz3 : ¬ w4.heap.size = w.heap.size := by omega
  obtain ⟨⟨g0, g1, g2, g3⟩, j0, j1, j2, j3⟩ := row_facts HROW.out
  have hal : Below w4.heap.size w4 (w4.alloc (.cells #[.int .i64 x.kind, .int .i64 x.num, .string x.nm, .slice A x.len cc] 48)) := (Below.refl _ _).alloc (Nat.le_refl _) _
  have HAL := Lib.hid hal
  have HIS := Lib.hid (is_now (tx := ⟨#[41]⟩) hq4 ((HTV.out.but HB4.out hbR).below hal (by have := HT.out.lt; omega)) (HR4.out.below hal (by omega)) (HVH.out x q bad HRES.out).1)
  have d1 : w4.cell? ⟨R, 1, none⟩ = some (.int .i64 q) := HR4.out.cell 1
  have d2 : w4.frozen? ⟨R, 1, none⟩ = false := HR4.out.frozen 1
  have hR4lt : R < w4.heap.size := by omega
  have hR4ne : ¬ w4.heap.size = R := by omega
  have hq5 : q < n := by rw [HN.out]; exact hq4
  clear hal
  go_wp2_with (go_at_call 104; refine HIS.out.mono ?_; rintro e w5 ⟨rfl, k3, rfl⟩)
  have hD : Below w4.heap.size w4 ((w4.alloc (.cells #[.int .i64 x.kind, .int .i64 x.num, .string x.nm, .slice A x.len cc] 48)).drewN k3) := below_drewN HAL.out _
  obtain ⟨r1, r2, r3⟩ := fin4 ((HR4.out.below hD (by omega)).move (q + 1)) (((HBV.out.trans HB4.out).below hD (by omega)).set 1 (.int .i64 (q + 1))) ((Go.Deep.blk_setCell_other _ ⟨R, 1, none⟩ _ _ hne0).trans ((hD.block _ hsz2).trans HROW.out)) rfl l2 (.int .i64 x.kind) (.int .i64 x.num) (.string x.nm) (.slice A x.len cc)
  obtain ⟨hv1, hv2⟩ := HVH.out x q bad HRES.out
  obtain ⟨hp1, hp2⟩ := paren_yes HRES.out hq4 hv1
  refine bodyPost_ret (res_row48 rfl _ _ w.heap.size (exC x (.slice A x.len cc)) rfl rfl r1) rfl ⟨x, _, q + 1, false, rfl, ?_, by rw [← hp2]; exact r2, r3, hv2, by rw [hp1]; exact ⟨rfl, rfl, rfl⟩⟩
  have hO := HO.out
  rw [HSV.out] at hO
  refine (hO.keep (by simp) (fun k h1 h2 => ?_)).low (fun k _ h => by omega)
  have hk : k ≠ w.heap.size := by omega
  have hkR : k ≠ R := by omega
  rw [Go.Deep.blk_setCell_other _ ⟨w.heap.size, 3, none⟩ _ _ hk, Go.Deep.blk_setCell_other _ ⟨w.heap.size, 2, none⟩ _ _ hk, Go.Deep.blk_setCell_other _ ⟨w.heap.size, 1, none⟩ _ _ hk, Go.Deep.blk_setCell_other _ ⟨w.heap.size, 0, none⟩ _ _ hk, Go.Deep.blk_setCell_other _ ⟨R, 1, none⟩ _ _ hkR]
  exact hD.block k h2

set_option maxRecDepth 100000 in
set_option maxHeartbeats 4000000 in
theorem factor_open (w : World) (R b off c : Nat) (s : ByteArray) (ts : List Tok) (p : Nat) (hT : ToksAt w b off c s ts) (hR : RdAt w R b off c ts.length p false) (hE : EndOk ts) (t : Tok) (ht : ts[p]? = some t) (deep : Int) (hbR : b ≠ R) (d : Nat) (hd7 : d ≤ 7) (hdeep : deep + (d + 1 : Nat) = 8) (hk : t.kind = 3) (hm : tokIs ts p 3 [45] = false) (hq : tokIs ts p 3 [40] = true) (L : LevC R b off c s ts d 3)
    (HV : ∀ (x : Ex) (q : Nat) (bad : Bool), (match levF (facF d) 3 (ts.drop (p + 1)) with | .ok y r => x = y ∧ bad = false ∧ ts.drop q = r | .bad r => bad = true ∧ ts.drop q = r) → (!bad && tokIs ts q 3 (⟨#[41]⟩ : ByteArray).data.toList) = false) :
    Calls Tryd.prog 87 #[.pointer (some ⟨R, 0, none⟩), .int .i64 deep] w fun e w' => EPost R b off c ts w (parenR (levF (facF d) 3 (ts.drop (p + 1)))) e w' := by
  obtain ⟨hp, _⟩ := List.getElem?_eq_some_iff.mp ht
  have hp1 := hE.more p t ht (by omega)
  have a0 := (hT.tok p t ht).kind
  have a1 := (hT.tok p t ht).text
  have a2 := (hT.tok p t ht).num
  have a3 := (hT.tok p t ht).pos
  obtain ⟨X, Y, hXY⟩ : ∃ X Y, plc (spotL (s.data.toList.take t.pos)) = .complex .f64 X Y := ⟨_, _, rfl⟩
  rw [hXY] at a3
  obtain ⟨n, hn⟩ : ∃ n, n = ts.length := ⟨_, rfl⟩
  have c0 : w.cell? ⟨R, 0, none⟩ = some (.slice (some ⟨b, off, none⟩) n c) := by rw [hn]; exact hR.cell 0
  have c1 : w.cell? ⟨R, 1, none⟩ = some (.int .i64 p) := hR.cell 1
  have c2 : w.cell? ⟨R, 2, none⟩ = some (.bool false) := hR.cell 2
  have l1 := hT.lt
  have l2 := hR.lt
  have hnc := hT.le
  have hcc := hT.cap
  rw [← hn] at hnc
  have hvm : tokIs ts p 3 (⟨#[45]⟩ : ByteArray).data.toList = false := hm
  have hvp : tokIs ts p 3 (⟨#[40]⟩ : ByteArray).data.toList = true := hq
  have ISM := Lib.hid (fun (W : World) (hb : Below w.heap.size w W) => is_here (by omega) hT hR hb hvm)
  have ISP := Lib.hid (fun (W : World) (hb : Below w.heap.size w W) => is_here (by omega) hT hR hb hvp)
  have f1 := hR.frozen 1
  have f2 := hR.frozen 2
  rw [← hn] at hp hp1
  have i1 : (0 : Int) ≤ (p : Int) := by omega
  have i2 : (p : Int) < (n : Int) := by omega
  have hwp : IntKind.i64.wrap (p : Int) = (p : Int) := IntWalk.i64_in _ (by omega)
  have hne1 : ¬ w.heap.size + 1 = R := by omega
  have hne0 : ¬ w.heap.size = R := by omega
  rw [hk] at a0
  have gd : (deep == 8) = false := by simp only [beq_eq_false_iff_ne]; omega
  have gd0 : 0 ≤ deep := by omega
  have gd8 : deep ≤ 8 := by omega
  have hcx := @run_store_cx Tryd.prog
  have HT := Lib.hid hT
  have HR := Lib.hid hR
  have HN := Lib.hid hn
  have HTt := Lib.hid ht
  have LH := Lib.hid L
  have HVH := Lib.hid HV
  clear hT hR hn ht hXY hk hvm hvp hE hm hq L HV
  go_enter Tryd.func87, Tryd.ntmps87
  go_wp2_with fail
  go_region
  go_wp2_with fail
  refine (ISM.out _ (by exact below_drewN (((Below.refl _ _).alloc (Nat.le_refl _) _).alloc (by simp) _) _)).mono ?_
  rintro e w2 ⟨rfl, k1, rfl⟩
  go_wp2_with fail
  refine (ISP.out _ (by exact below_drewN (((Below.refl _ _).alloc (Nat.le_refl _) _).alloc (by simp) _) _)).mono ?_
  rintro e w3 ⟨rfl, k2, rfl⟩
  have hV : Below w.heap.size w (((w.alloc (.cells zeroEx 48)).alloc (.cells #[.int .i64 3, .string ⟨t.text.toArray⟩, .int .i64 t.n, .complex .f64 X Y] 31)).drewN (1 + k1 + k2)) := (below_drewN (((Below.refl _ _).alloc (Nat.le_refl _) _).alloc (by simp) _) (1 + k1 + k2))
  have hsV : (((w.alloc (.cells zeroEx 48)).alloc (.cells #[.int .i64 3, .string ⟨t.text.toArray⟩, .int .i64 t.n, .complex .f64 X Y] 31)).drewN (1 + k1 + k2)).heap.size = w.heap.size + 2 := by simp
  have HBV := Lib.hid ((But.of_below (R := R) hV).set 1 (.int .i64 (p + 1)))
  have HRV := Lib.hid ((HR.out.below hV l2).move (p + 1))
  have HTV := Lib.hid (HT.out.but HBV.out hbR)
  have HROWV := Lib.hid ((Go.Deep.blk_setCell_other (((w.alloc (.cells zeroEx 48)).alloc (.cells #[.int .i64 3, .string ⟨t.text.toArray⟩, .int .i64 t.n, .complex .f64 X Y] 31)).drewN (1 + k1 + k2)) ⟨R, 1, none⟩ (.int .i64 (p + 1)) _ hne0).trans two_old)
  have HSV := Lib.hid (show ((((w.alloc (.cells zeroEx 48)).alloc (.cells #[.int .i64 3, .string ⟨t.text.toArray⟩, .int .i64 t.n, .complex .f64 X Y] 31)).drewN (1 + k1 + k2)).setCell ⟨R, 1, none⟩ (.int .i64 (p + 1))).heap.size = w.heap.size + 2 by simp)
  clear hV hsV
  go_wp2_with fail
  refine (LH.out _ (p + 1) (deep + 1) 0 HTV.out HRV.out (by rw [← HN.out]; omega) (by omega) (by omega)).mono ?_
  rintro e w4 ⟨x, sl, q, bad, rfl, hO, hR4, hB4, hq4, hres⟩
  obtain ⟨A, cc, rfl, hc1, hc2⟩ := hO.slice
  have HO := Lib.hid hO
  have HR4 := Lib.hid hR4
  have HB4 := Lib.hid hB4
  have HRES := Lib.hid hres
  clear hO hR4 hB4 hres
  have HROW := Lib.hid ((HB4.out.block w.heap.size (by rw [HSV.out]; omega) (by omega)).trans HROWV.out)
  have hsz : w.heap.size + 2 ≤ w4.heap.size := by have := HB4.out.size; rw [HSV.out] at this; exact this
  have hsz2 : w.heap.size < w4.heap.size := by omega
  have hsz3 : ¬ w4.heap.size = w.heap.size := by omega
  obtain ⟨⟨g0, g1, g2, g3⟩, j0, j1, j2, j3⟩ := row_facts HROW.out
  have hal : Below w4.heap.size w4 (w4.alloc (.cells #[.int .i64 x.kind, .int .i64 x.num, .string x.nm, .slice A x.len cc] 48)) := (Below.refl _ _).alloc (Nat.le_refl _) _
  have HAL := Lib.hid hal
  have HIS := Lib.hid (is_now (tx := ⟨#[41]⟩) hq4 ((HTV.out.but HB4.out hbR).below hal (by have := HT.out.lt; omega)) (HR4.out.below hal (by omega)) (HVH.out x q bad HRES.out))
  have d1 : w4.cell? ⟨R, 1, none⟩ = some (.int .i64 q) := HR4.out.cell 1
  have d2 : w4.frozen? ⟨R, 1, none⟩ = false := HR4.out.frozen 1
  have hR4lt : R < w4.heap.size := by omega
  have hR4ne : ¬ w4.heap.size = R := by omega
  have hq5 : q < n := by rw [HN.out]; exact hq4
  clear hal
  go_wp2_with fail
  refine HIS.out.mono ?_
  rintro e w5 ⟨rfl, k3, rfl⟩
  have hD : Below w4.heap.size w4 ((w4.alloc (.cells #[.int .i64 x.kind, .int .i64 x.num, .string x.nm, .slice A x.len cc] 48)).drewN k3) := below_drewN HAL.out _
  have HRF := Lib.hid (HR4.out.below hD (by omega))
  have HBF := Lib.hid ((HBV.out.trans HB4.out).below hD (by omega))
  have HROW5 := Lib.hid ((hD.block _ hsz2).trans HROW.out)
  have HSZ := Lib.hid (show w.heap.size < ((w4.alloc (.cells #[.int .i64 x.kind, .int .i64 x.num, .string x.nm, .slice A x.len cc] 48)).drewN k3).heap.size by simp; omega)
  clear hD
  go_wp2_with (go_at_call 105; refine (fail_here (HRF.out)).mono ?_; rintro e w6 ⟨rfl, hR6, hB6⟩; have HR6 := Lib.hid hR6; have HB6 := Lib.hid hB6; clear hR6 hB6; have hrow := Lib.hid ((HB6.out.block w.heap.size HSZ.out (by omega)).trans HROW5.out); obtain ⟨⟨q0, q1, q2, q3⟩, r0, r1, r2, r3⟩ := row_facts hrow.out)
  obtain ⟨r1, r2, r3⟩ := fin4 HR6.out (HBF.out.trans HB6.out) hrow.out rfl l2 (.int .i64 0) (.int .i64 0) (.string ⟨#[]⟩) (.slice none 0 0)
  refine bodyPost_ret (res_row48 rfl _ _ w.heap.size (exC Ex.zero (.slice none 0 0)) rfl rfl r1) rfl ⟨Ex.zero, .slice none 0 0, q, true, rfl, ⟨none, 0, rfl, by decide⟩, r2, r3, hq4, by rw [paren_no HRES.out hq4 (HVH.out x q bad HRES.out)]; exact ⟨rfl, rfl⟩⟩

theorem tokIs_at {ts : List Tok} {p : Nat} {t : Tok} (ht : ts[p]? = some t) (k : Nat) (tx : List UInt8) : tokIs ts p k tx = (t.kind == k && t.text == tx) := by simp [tokIs, ht]
theorem drop_at {ts : List Tok} {p : Nat} {t : Tok} (ht : ts[p]? = some t) : ts.drop p = t :: ts.drop (p + 1) := by
  obtain ⟨hp, h⟩ := List.getElem?_eq_some_iff.mp ht
  rw [← h]; exact List.drop_eq_getElem_cons hp

theorem factor_any {R b off c : Nat} {s : ByteArray} {ts : List Tok} (hE : EndOk ts) (hbR : b ≠ R) (d : Nat) (hd : d ≤ 8) (IH : ∀ d', d = d' + 1 → FacC R b off c s ts d' ∧ LevC R b off c s ts d' 3) : FacC R b off c s ts d := by
  intro w p deep hT hR hp hdeep
  obtain ⟨t, ht⟩ : ∃ t, ts[p]? = some t := ⟨ts[p], List.getElem?_eq_getElem hp⟩
  have hdr := drop_at ht
  have hm := tokIs_at ht 3 [45]
  have hq := tokIs_at ht 3 [40]
  have hsub : ∃ sub, facF d = facStep sub := by cases d <;> exact ⟨_, rfl⟩
  obtain ⟨sub, hsub⟩ := hsub
  by_cases h2 : t.kind = 2
  · have e : facF d (ts.drop p) = .ok (.leaf 1 t.n []) (ts.drop (p + 1)) := by rw [hdr, hsub]; simp [facStep, h2]
    rw [e]
    exact factor_num w R b off c s ts p hT hR hE t ht deep h2
  · by_cases h1 : t.kind = 1
    · cases hn : nameL t.text with
      | true =>
        have e : facF d (ts.drop p) = .ok (.leaf 2 0 t.text) (ts.drop (p + 1)) := by rw [hdr, hsub]; simp [facStep, h1, hn]
        rw [e]
        exact factor_name w R b off c s ts p hT hR hE t ht deep h1 hn
      | false =>
        have e : facF d (ts.drop p) = .bad (ts.drop p) := by
          rw [hdr, hsub]
          cases sub <;> simp [facStep, h1, hn]
        rw [e]
        exact factor_key w R b off c s ts p hT hR hE t ht deep h1 hn
    · by_cases hM : t.kind = 3 ∧ t.text = [45]
      · have hm' : tokIs ts p 3 [45] = true := by rw [hm]; simp [hM]
        have hq' : tokIs ts p 3 [40] = false := by rw [hq]; simp [hM]
        cases d with
        | zero =>
          have e : facF 0 (ts.drop p) = .bad (ts.drop p) := by rw [hdr]; simp [facF, facStep, h1, h2]
          rw [e]
          obtain rfl : deep = 8 := by omega
          exact factor_deepM w R b off c s ts p hT hR t ht hM.1 hm' hq'
        | succ d =>
          have e : facF (d + 1) (ts.drop p) = minusR (facF d (ts.drop (p + 1))) := by
            rw [hdr]
            simp only [facF, facStep]
            rw [if_neg h2, if_neg (fun h => h1 h.1), if_pos hM]
            cases facF d (ts.drop (p + 1)) <;> rfl
          rw [e]
          exact factor_minus w R b off c s ts p hT hR hE t ht deep hbR d (by omega) hdeep hM.1 hm' hq' (IH d rfl).1
      · by_cases hP : t.kind = 3 ∧ t.text = [40]
        · have hm' : tokIs ts p 3 [45] = false := by rw [hm]; simp [hP]
          have hq' : tokIs ts p 3 [40] = true := by rw [hq]; simp [hP]
          cases d with
          | zero =>
            have e : facF 0 (ts.drop p) = .bad (ts.drop p) := by rw [hdr]; simp [facF, facStep, h1, h2]
            rw [e]
            obtain rfl : deep = 8 := by omega
            exact factor_deepP w R b off c s ts p hT hR t ht hP.1 hm' hq'
          | succ d =>
            have e : facF (d + 1) (ts.drop p) = parenR (levF (facF d) 3 (ts.drop (p + 1))) := by
              rw [hdr]
              simp only [facF, facStep]
              rw [if_neg h2, if_neg (fun h => h1 h.1), if_neg hM, if_pos hP]
              cases levF (facF d) 3 (ts.drop (p + 1)) with
              | bad r => rfl
              | ok y r => cases r <;> rfl
            rw [e]
            have hL := (IH d rfl).2
            have key : (∀ (x : Ex) (q : Nat) (bad : Bool), (match levF (facF d) 3 (ts.drop (p + 1)) with | .ok y r => x = y ∧ bad = false ∧ ts.drop q = r | .bad r => bad = true ∧ ts.drop q = r) → (!bad && tokIs ts q 3 [41]) = true ∧ q + 1 < ts.length) ∨
                (∀ (x : Ex) (q : Nat) (bad : Bool), (match levF (facF d) 3 (ts.drop (p + 1)) with | .ok y r => x = y ∧ bad = false ∧ ts.drop q = r | .bad r => bad = true ∧ ts.drop q = r) → (!bad && tokIs ts q 3 [41]) = false) := by
              cases levF (facF d) 3 (ts.drop (p + 1)) with
              | bad r => right; intro x q bad h; rw [h.1]; rfl
              | ok y r =>
                cases r with
                | nil =>
                  right; intro x q bad h
                  have h3 := List.drop_eq_nil_iff.mp h.2.2
                  simp [tokIs, List.getElem?_eq_none h3]
                | cons u r =>
                  by_cases hu : u.kind = 3 ∧ u.text = [41]
                  · left; intro x q bad h
                    obtain ⟨h3, _⟩ := drop_cons h.2.2
                    refine ⟨by rw [h.2.1, tokIs_at h3]; simp [hu], hE.more q u h3 (by omega)⟩
                  · right; intro x q bad h
                    obtain ⟨h3, _⟩ := drop_cons h.2.2
                    rw [tokIs_at h3]
                    simp only [Bool.and_eq_false_iff, beq_eq_false_iff_ne]
                    right
                    by_cases h4 : u.kind = 3
                    · right; exact fun e => hu ⟨h4, e⟩
                    · left; exact h4
            rcases key with hv | hv
            · exact factor_paren w R b off c s ts p hT hR hE t ht deep hbR d (by omega) hdeep hP.1 hm' hq' hL hv
            · exact factor_open w R b off c s ts p hT hR hE t ht deep hbR d (by omega) hdeep hP.1 hm' hq' hL hv
        · have hm' : tokIs ts p 3 [45] = false := by
            rw [hm]; simp only [Bool.and_eq_false_iff, beq_eq_false_iff_ne]
            by_cases h4 : t.kind = 3
            · right; exact fun e => hM ⟨h4, e⟩
            · left; exact h4
          have hq' : tokIs ts p 3 [40] = false := by
            rw [hq]; simp only [Bool.and_eq_false_iff, beq_eq_false_iff_ne]
            by_cases h4 : t.kind = 3
            · right; exact fun e => hP ⟨h4, e⟩
            · left; exact h4
          have e : facF d (ts.drop p) = .bad (ts.drop p) := by
            rw [hdr, hsub]
            cases sub <;> simp [facStep, h1, h2, hM, hP]
          rw [e]
          exact factor_other w R b off c s ts p hT hR t ht deep h1 h2 hm' hq'

end Go.Proofs.YtgkfmeccipgnjaaDoor
