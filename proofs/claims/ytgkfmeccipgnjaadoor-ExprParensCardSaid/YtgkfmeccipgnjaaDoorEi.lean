/- Contract of expr.Read. -/
import Derived.Test.YtgkfmeccipgnjaaDoorEh
namespace Go.Proofs.YtgkfmeccipgnjaaDoor
open Go.RowKit

theorem results_cell_tmp2 {fn : Func} {p u v : Tmp} {ty : TypeId} (h : fn.results = #[.cell p ty, .tmp u, .tmp v]) (tmps : Array Value) (P : Program) (w : World) :
    (results fn tmps).run P w = ((asAddr (tmps.getD p undef)).run P w).andThen fun a w₁ => ((loadVar ty a).run P w₁).andThen fun x w₂ => .ok (.tuple #[x, tmps.getD u undef, tmps.getD v undef]) w₂ := by
  simp only [results, h]
  simp [Sem.run_bind, Result.andThen]

theorem ret50 {fn : Func} (hfn : fn.results = #[.cell 4 48, .tmp 5, .tmp 6]) (tmps : Array Value) (W : World) (g : Nat) (cs : Array Value) (hcs : cs.size = 4) (m : Int) (ob : Bool) (hg : W.heap[g]? = some (.cells cs 48 (0, 0))) (h4 : tmps.getD 4 undef = .pointer (some ⟨g, 0, none⟩)) (h5 : tmps.getD 5 undef = .int .i64 m) (h6 : tmps.getD 6 undef = .bool ob) :
    (results fn tmps).run Tryd.prog W = .ok (.tuple #[.agg cs, .int .i64 m, .bool ob]) W := by
  rw [results_cell_tmp2 hfn, h4, h5, h6]
  simp [asAddr, Result.andThen, run_loadVar_row (P := Tryd.prog) W g 48 48 cs (0, 0) _ hg Tryd.underlying48 rfl (by rw [hcs]; exact info48s)]

/-- What expr.Read answers. -/
def ReadPost (ts : List Tok) (w : World) (res : ERes) (e : Ending) (w' : World) : Prop :=
  ∃ (x : Ex) (sl : Value) (q : Nat) (okb : Bool), e = .returned (.tuple #[.agg #[.int .i64 x.kind, .int .i64 x.num, .string x.nm, sl], .int .i64 q, .bool okb]) ∧ OfAt (w.heap.size ≤ ·) w' x sl ∧ Below w.heap.size w w' ∧ q < ts.length ∧
    (match res with
    | .ok y r => x = y ∧ okb = true ∧ ts.drop q = r
    | .bad r => x = Ex.zero ∧ okb = false ∧ ts.drop q = r)

set_option maxRecDepth 100000 in
set_option maxHeartbeats 4000000 in
theorem read_any (w : World) (b off c : Nat) (s : ByteArray) (ts : List Tok) (hT : ToksAt w b off c s ts) (hE : EndOk ts) (p : Nat) (hp : p < ts.length) :
    Calls Tryd.prog 50 #[.slice (some ⟨b, off, none⟩) ts.length c, .int .i64 p] w fun e w' => ReadPost ts w (readF (ts.drop p)) e w' := by
  have l1 := hT.lt
  have hn := hT.le
  have hcc := hT.cap
  obtain ⟨V, hV⟩ : ∃ V, V = (w.alloc (.cells #[.int .i64 0, .int .i64 0, .string ⟨#[]⟩, .slice none 0 0] 48)).alloc (.cells #[.slice (some ⟨b, off, none⟩) ts.length c, .int .i64 p, .bool false] 110) := ⟨_, rfl⟩
  have hB : Below w.heap.size w V := by rw [hV]; exact ((Below.refl _ _).alloc (Nat.le_refl _) _).alloc (by simp) _
  have hR : RdAt V (w.heap.size + 1) b off c ts.length p false := ⟨by rw [hV]; exact heap_alloc_newE _ _ (by simp)⟩
  have C := Lib.hid (((fac_lev (R := w.heap.size + 1) (b := b) (off := off) (c := c) (s := s) hE (by omega) 8 (by omega)).2) V p 0 0 (hT.below hB l1) hR hp (by omega) (by omega))
  have HV := Lib.hid hV
  have HB := Lib.hid hB
  clear hT hB hR hV
  go_enter Tryd.func50, Tryd.ntmps50
  go_wp2_with fail
  rw [← HV.out]
  refine C.out.mono ?_
  rintro e w4 ⟨x, sl, q, bad, rfl, hO, hR4, hB4, hq4, hres⟩
  obtain ⟨A, cc, rfl, hc1, hc2⟩ := hO.slice
  have HO := Lib.hid hO
  have HB4 := Lib.hid hB4
  have HRES := Lib.hid hres
  have c1 : w4.cell? ⟨w.heap.size + 1, 1, none⟩ = some (.int .i64 q) := hR4.cell 1
  have c2 : w4.cell? ⟨w.heap.size + 1, 2, none⟩ = some (.bool bad) := hR4.cell 2
  have hVs : V.heap.size = w.heap.size + 2 := by rw [HV.out]; simp
  have HROW := Lib.hid ((HB4.out.block w.heap.size (by omega) (by omega)).trans (show V.heap[w.heap.size]? = some (.cells zeroEx 48 (0, 0)) by rw [HV.out]; exact (heap_alloc_old _ _ (by simp)).trans (heap_alloc_new _ _)))
  have hsz : w.heap.size + 2 ≤ w4.heap.size := by have := HB4.out.size; omega
  have HVs := Lib.hid hVs
  clear hO hR4 hB4 hres hVs
  obtain ⟨⟨g0, g1, g2, g3⟩, j0, j1, j2, j3⟩ := row_facts HROW.out
  have step : ∀ (W5 : World), W5 = (((w4.setCell ⟨w.heap.size, 0, none⟩ (.int .i64 x.kind)).setCell ⟨w.heap.size, 1, none⟩ (.int .i64 x.num)).setCell ⟨w.heap.size, 2, none⟩ (.string x.nm)).setCell ⟨w.heap.size, 3, none⟩ (.slice A x.len cc) →
      W5.heap[w.heap.size]? = some (.cells (exC x (.slice A x.len cc)) 48 (0, 0)) ∧ (∀ k, k ≠ w.heap.size → W5.heap[k]? = w4.heap[k]?) ∧ Below w.heap.size w W5 ∧ W5.heap.size = w4.heap.size := by
    intro W5 h5
    subst h5
    refine ⟨set4 HROW.out rfl _ _ _ _, fun k hk => hk4 hk _ _ _ _, ?_, by simp⟩
    have h1 : Below w.heap.size w w4 := ⟨HB4.out.os.trans HB.out.os, HB4.out.tape.trans HB.out.tape, HB4.out.output.trans HB.out.output, by omega, fun k hk => (HB4.out.block k (by rw [HVs.out]; omega) (by omega)).trans (HB.out.block k hk)⟩
    exact (((h1.setCell (p := ⟨w.heap.size, 0, none⟩) (Nat.le_refl _) _).setCell (p := ⟨w.heap.size, 1, none⟩) (Nat.le_refl _) _).setCell (p := ⟨w.heap.size, 2, none⟩) (Nat.le_refl _) _).setCell (p := ⟨w.heap.size, 3, none⟩) (Nat.le_refl _) _
  have HST := Lib.hid step
  clear step
  cases bad with
  | true =>
    go_wp2_with fail
    obtain ⟨W5, hW5⟩ : ∃ W5, W5 = (((w4.setCell ⟨w.heap.size, 0, none⟩ (.int .i64 x.kind)).setCell ⟨w.heap.size, 1, none⟩ (.int .i64 x.num)).setCell ⟨w.heap.size, 2, none⟩ (.string x.nm)).setCell ⟨w.heap.size, 3, none⟩ (.slice A x.len cc) := ⟨_, rfl⟩
    rw [← hW5]
    obtain ⟨s1, s2, s3, s4⟩ := HST.out W5 hW5
    have c1' : W5.cell? ⟨w.heap.size + 1, 1, none⟩ = some (.int .i64 q) := (cell_of_block (s2 _ (by omega)) 1).trans c1
    have n1 : ¬ w.heap.size + 1 = w.heap.size := by omega
    have e0 : W5.cell? ⟨w.heap.size, 0, none⟩ = some (.int .i64 x.kind) := cell_of_row _ _ 0 _ 48 (0, 0) s1
    have e1 : W5.cell? ⟨w.heap.size, 1, none⟩ = some (.int .i64 x.num) := cell_of_row _ _ 1 _ 48 (0, 0) s1
    have e2 : W5.cell? ⟨w.heap.size, 2, none⟩ = some (.string x.nm) := cell_of_row _ _ 2 _ 48 (0, 0) s1
    have e3 : W5.cell? ⟨w.heap.size, 3, none⟩ = some (.slice A x.len cc) := cell_of_row _ _ 3 _ 48 (0, 0) s1
    obtain ⟨f0, f1, f2, f3⟩ := frozen4 s1
    have S1 := Lib.hid s1
    have S2 := Lib.hid s2
    have S3 := Lib.hid s3
    have S4 := Lib.hid s4
    clear s1 s2 s3 s4 hW5 g0 g1 g2 g3 j0 j1 j2 j3 c1 c2
    go_region
    all_goals
      go_wp2_with fail
      refine bodyPost_ret (ret50 rfl _ _ w.heap.size (exC Ex.zero (.slice none 0 0)) rfl q false (set4 S1.out rfl _ _ _ _) rfl rfl rfl) rfl ⟨Ex.zero, .slice none 0 0, q, false, rfl, ⟨none, 0, rfl, by decide⟩, ?_, hq4, ?_⟩
      · exact below_drewN ((((S3.out.setCell (p := ⟨w.heap.size, 0, none⟩) (Nat.le_refl _) _).setCell (p := ⟨w.heap.size, 1, none⟩) (Nat.le_refl _) _).setCell (p := ⟨w.heap.size, 2, none⟩) (Nat.le_refl _) _).setCell (p := ⟨w.heap.size, 3, none⟩) (Nat.le_refl _) _) 1
      · have hr := HRES.out
        unfold readF
        cases hx : levF (facF 8) 3 (ts.drop p) with
        | bad r => rw [hx] at hr; exact ⟨rfl, rfl, hr.2⟩
        | ok y r => rw [hx] at hr; simp at hr
  | false =>
    go_wp2_with fail
    obtain ⟨W5, hW5⟩ : ∃ W5, W5 = (((w4.setCell ⟨w.heap.size, 0, none⟩ (.int .i64 x.kind)).setCell ⟨w.heap.size, 1, none⟩ (.int .i64 x.num)).setCell ⟨w.heap.size, 2, none⟩ (.string x.nm)).setCell ⟨w.heap.size, 3, none⟩ (.slice A x.len cc) := ⟨_, rfl⟩
    rw [← hW5]
    obtain ⟨s1, s2, s3, s4⟩ := HST.out W5 hW5
    have c1' : W5.cell? ⟨w.heap.size + 1, 1, none⟩ = some (.int .i64 q) := (cell_of_block (s2 _ (by omega)) 1).trans c1
    have n1 : ¬ w.heap.size + 1 = w.heap.size := by omega
    have e0 : W5.cell? ⟨w.heap.size, 0, none⟩ = some (.int .i64 x.kind) := cell_of_row _ _ 0 _ 48 (0, 0) s1
    have e1 : W5.cell? ⟨w.heap.size, 1, none⟩ = some (.int .i64 x.num) := cell_of_row _ _ 1 _ 48 (0, 0) s1
    have e2 : W5.cell? ⟨w.heap.size, 2, none⟩ = some (.string x.nm) := cell_of_row _ _ 2 _ 48 (0, 0) s1
    have e3 : W5.cell? ⟨w.heap.size, 3, none⟩ = some (.slice A x.len cc) := cell_of_row _ _ 3 _ 48 (0, 0) s1
    obtain ⟨f0, f1, f2, f3⟩ := frozen4 s1
    have S1 := Lib.hid s1
    have S2 := Lib.hid s2
    have S3 := Lib.hid s3
    have S4 := Lib.hid s4
    clear s1 s2 s3 s4 hW5 g0 g1 g2 g3 j0 j1 j2 j3 c1 c2
    go_region
    all_goals
      go_wp2_with fail
      refine bodyPost_ret (ret50 rfl _ _ w.heap.size (exC x (.slice A x.len cc)) rfl q true (set4 S1.out rfl _ _ _ _) rfl rfl rfl) rfl ⟨x, .slice A x.len cc, q, true, rfl, ?_, ?_, hq4, ?_⟩
      · have hO := HO.out
        rw [HVs.out] at hO
        refine (hO.keep (by simp; rw [S4.out]; omega) (fun k h1 h2 => ?_)).low (fun k _ h => by omega)
        exact (hk4 (by omega) _ _ _ _).trans (S2.out k (by omega))
      · exact below_drewN ((((S3.out.setCell (p := ⟨w.heap.size, 0, none⟩) (Nat.le_refl _) _).setCell (p := ⟨w.heap.size, 1, none⟩) (Nat.le_refl _) _).setCell (p := ⟨w.heap.size, 2, none⟩) (Nat.le_refl _) _).setCell (p := ⟨w.heap.size, 3, none⟩) (Nat.le_refl _) _) 1
      · have hr := HRES.out
        unfold readF
        cases hx : levF (facF 8) 3 (ts.drop p) with
        | bad r => rw [hx] at hr; simp at hr
        | ok y r => rw [hx] at hr; exact ⟨hr.1, rfl, hr.2.2⟩
end Go.Proofs.YtgkfmeccipgnjaaDoor
