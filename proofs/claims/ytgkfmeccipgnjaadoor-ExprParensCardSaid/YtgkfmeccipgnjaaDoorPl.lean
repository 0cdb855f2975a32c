/- Contract of expr.operator at a sign. -/
import Derived.Test.YtgkfmeccipgnjaaDoorPk
import Derived.Test.YtgkfmeccipgnjaaDoorPg
namespace Go.Proofs.YtgkfmeccipgnjaaDoor
open Go.RowKit

theorem listed_upd {listed : Array Bool} {i : Nat} (h : i < listed.size) : (fun j => (listed.setIfInBounds i true).getD j false) = upd (fun j => listed.getD j false) i true := by
  funext j
  simp only [upd]
  by_cases hj : j = i
  · subst hj; simp [h]
  · rw [if_neg hj, getD_set_ne false (fun e => hj e.symm)]
theorem tmps_upd {a : Act} {d : Nat} {v : Value} (h : d < a.tmps.size) : (fun k => (a.put (some d) v).tmps.getD k undef) = upd (fun k => a.tmps.getD k undef) d v := by
  funext k
  simp only [upd, Act.put]
  by_cases hk : k = d
  · subst hk; simp [h]
  · rw [if_neg hk]
    simp only [Array.getD_eq_getD_getElem?]
    rw [Array.getElem?_setIfInBounds_ne (fun e => hk e.symm)]

theorem build148 (x y z : Nat) (w : World) : (Instr.build 148 #[(0, .map (some x)), (1, .map (some y)), (2, .map (some z))]).run Tryd.prog w = .ok (.agg #[.map (some x), .map (some y), .map (some z)]) w := by kernel_rfl
theorem index148a (x y z : Nat) (w : World) : (Instr.index 148 (.agg #[.map (some x), .map (some y), .map (some z)]) (.int .i64 0)).run Tryd.prog w = .ok (.map (some x)) w := by kernel_rfl
theorem index148b (x y z : Nat) (w : World) : (Instr.index 148 (.agg #[.map (some x), .map (some y), .map (some z)]) (.int .i64 1)).run Tryd.prog w = .ok (.map (some y)) w := by kernel_rfl
theorem index148c (x y z : Nat) (w : World) : (Instr.index 148 (.agg #[.map (some x), .map (some y), .map (some z)]) (.int .i64 2)).run Tryd.prog w = .ok (.map (some z)) w := by kernel_rfl
theorem index148 (x y z : Nat) (lv : Nat) (hlv : lv < 3) (w : World) : (Instr.index 148 (.agg #[.map (some x), .map (some y), .map (some z)]) (.int .i64 lv)).run Tryd.prog w = .ok (pick3 lv (.map (some x)) (.map (some y)) (.map (some z))) w := by
  match lv, hlv with
  | 0, _ => exact index148a x y z w
  | 1, _ => exact index148b x y z w
  | 2, _ => exact index148c x y z w
theorem field31a (tb : Nat) (w : World) : (Instr.fieldAt 31 (.pointer (some ⟨tb, 0, none⟩)) 1).run Tryd.prog w = .ok (.pointer (some ⟨tb, 1, none⟩)) w := by kernel_rfl

theorem run_insert {P : Program} {a : Act} {w w' : World} {d : Option Tmp} {pos : String} {ty t : TypeId} {after : Array Edge} {y k v : Operand} (h : (Instr.mapUpdate t (a.eval y) (a.eval k) (a.eval v)).run P w = .ok () w') :
    (execOp a.eval { dst := d, op := .insert t y k v, type := ty, pos := pos, after := after, guard := none }).run P w = .ok .skip w' := by
  simp only [execOp, Sem.run_bind, h, Result.andThen, Sem.run_pure]
theorem run_moved {P : Program} {a : Act} {w : World} {s : Nat} {v : Value} {d : Option Tmp} {pos : String} {ty : TypeId} {after : Array Edge} (h : (fun k => a.tmps.getD k undef) s = v) : (execOp a.eval { dst := d, op := .move (.tmp s), type := ty, pos := pos, after := after, guard := none }).run P w = .ok (.value v) w := by
  rw [← h]; rfl
theorem run_assigned {P : Program} {a : Act} {w : World} {s : Nat} {v : Value} {d : Option Tmp} {pos : String} {ty : TypeId} {after : Array Edge} (h : (fun k => a.tmps.getD k undef) s = v) : (execOp a.eval { dst := d, op := .assign (.tmp s), type := ty, pos := pos, after := after, guard := none }).run P w = .ok (.value v) w := by
  rw [← h]; rfl
theorem run_val {P : Program} {w : World} {v : Value} {s : Sem Value} (h : s.run P w = .ok v w) : (do pure (Next.value (← s)) : Sem Next).run P w = .ok (.value v) w := by
  simp only [Sem.run_bind, h, Result.andThen, Sem.run_pure]
theorem zero3 (w : World) : (zeroValue 3).run Tryd.prog w = .ok (.int .i64 0) w := by kernel_rfl
theorem run_field31 {a : Act} {w : World} {tb : Nat} {d : Option Tmp} {pos : String} {ty : TypeId} {after : Array Edge} (h : (fun k => a.tmps.getD k undef) 2 = .pointer (some ⟨tb, 0, none⟩)) :
    (execOp a.eval { dst := d, op := .fieldAddr 31 (.tmp 2) 1, type := ty, pos := pos, after := after, guard := none }).run Tryd.prog w = .ok (.value (.pointer (some ⟨tb, 1, none⟩))) w := by
  have h1 := field31a tb w
  rw [← h] at h1
  exact run_val h1
theorem load9 (tb : Nat) (w : World) (tx : ByteArray) (h : w.cell? ⟨tb, 1, none⟩ = some (.string tx)) : (Instr.loadAt 9 (.pointer (some ⟨tb, 1, none⟩))).run Tryd.prog w = .ok (.string tx) w := by
  simp [Instr.loadAt, go_sem, h]
theorem run_load9 {a : Act} {w : World} {tb : Nat} {tx : ByteArray} {d : Option Tmp} {pos : String} {ty : TypeId} {after : Array Edge} (h : (fun k => a.tmps.getD k undef) 17 = .pointer (some ⟨tb, 1, none⟩)) (hc : w.cell? ⟨tb, 1, none⟩ = some (.string tx)) :
    (execOp a.eval { dst := d, op := .load 9 (.tmp 17), type := ty, pos := pos, after := after, guard := none }).run Tryd.prog w = .ok (.value (.string tx)) w := by
  have h1 := load9 tb w tx hc
  rw [← h] at h1
  exact run_val h1
set_option maxRecDepth 100000 in
theorem look3 {B tb lv : Nat} {tx : ByteArray} {W0 : World} {L : Nat → Bool} {S : Nat → Value} {w : World} (hlv : lv < 3) (h : OI B tb lv tx W0 L S w) (l15 : L 15 = true) (l17 : L 17 = true) :
    (Instr.lookup 147 (S 16) (S 18) false).run Tryd.prog w = .ok (.int .i64 (ans3 lv tx)) w := by
  obtain ⟨e16, l13⟩ := h.v15 l15
  obtain ⟨_, f3, f7, f12⟩ := h.v13 l13
  rw [e16, h.v17 l17]
  obtain ⟨_, p0, p1, p2⟩ := h.v3 f3
  obtain ⟨_, p4, p5, p6⟩ := h.v7 f7
  obtain ⟨_, p8, p9, p10, p11⟩ := h.v12 f12
  match lv, hlv with
  | 0, _ =>
    obtain ⟨g, q, _, hM⟩ := h.m0 p0
    rw [p1, p2] at hM
    simp only [pick3, q]
    exact hM.look tx Tryd.underlying147 Tryd.underlying9 (zero3 w)
  | 1, _ =>
    obtain ⟨g, q, _, hM⟩ := h.m4 p4
    rw [p5, p6] at hM
    simp only [pick3, q]
    exact hM.look tx Tryd.underlying147 Tryd.underlying9 (zero3 w)
  | 2, _ =>
    obtain ⟨g, q, _, hM⟩ := h.m8 p8
    rw [p9, p10, p11] at hM
    simp only [pick3, q]
    exact hM.look tx Tryd.underlying147 Tryd.underlying9 (zero3 w)
set_option maxRecDepth 100000 in
theorem run_look3 {a : Act} {B tb lv : Nat} {tx : ByteArray} {W0 : World} {L : Nat → Bool} {w : World} {d : Option Tmp} {pos : String} {ty : TypeId} {after : Array Edge} (hlv : lv < 3) (h : OI B tb lv tx W0 L (fun k => a.tmps.getD k undef) w) (l15 : L 15 = true) (l17 : L 17 = true) :
    (execOp a.eval { dst := d, op := .lookup 147 (.tmp 16) (.tmp 18) false, type := ty, pos := pos, after := after, guard := none }).run Tryd.prog w = .ok (.value (.int .i64 (ans3 lv tx))) w :=
  run_val (look3 hlv h l15 l17)
set_option maxRecDepth 100000 in
set_option maxHeartbeats 4000000 in
theorem operator_sign (m : Int) (tx : ByteArray) (x : Value) (lv : Nat) (hlv : lv < 3) (w : World) :
    Calls Tryd.prog 88 #[.agg #[.int .i64 3, .string tx, .int .i64 m, x], .int .i64 lv] w fun e w' => e = .returned (.int .i64 (ans3 lv tx)) ∧ Below w.heap.size w w' := by
  go_enter Tryd.func88, Tryd.ntmps88
  go_wp2
  refine wp_region_any (by kernel_rfl) ?_
  refine wpAny_inv (fun listed a w' => listed.size = 20 ∧ a.tmps.size = 20 ∧ a.defers = [] ∧ OI (w.heap.size + 1) w.heap.size lv tx (w.alloc (.cells #[.int .i64 3, .string tx, .int .i64 m, x] 31)) (fun j => listed.getD j false) (fun k => a.tmps.getD k undef) w') ?step ?fin 20 _ _ _ ?start (by decide)
  case start =>
    have hz : ∀ j, (Array.replicate 20 false).getD j false = false := fun j => by
      rcases Nat.lt_or_ge j 20 with h | h
      · simp [h]
      · rw [Array.getD_eq_getD_getElem?, Array.getElem?_eq_none (by simpa using h)]; rfl
    have hn : ∀ {C : Prop} j, (Array.replicate 20 false).getD j false = true → C := fun j h => by rw [hz j] at h; cases h
    exact ⟨rfl, rfl, rfl, { below := ⟨rfl, rfl, rfl, Nat.le_refl _, fun _ _ => rfl⟩, s1 := rfl, s2 := rfl, a0 := fun _ => ⟨hz 1, hz 2⟩, a4 := fun _ => ⟨hz 5, hz 6⟩, a8 := fun _ => ⟨hz 9, hz 10, hz 11⟩, m0 := hn 0, m4 := hn 4, m8 := hn 8, d04 := hn 0, d08 := hn 0, d48 := hn 4, v3 := hn 3, v7 := hn 7, v12 := hn 12, v13 := hn 13, v14 := hn 14, v15 := hn 15, v16 := hn 16, v17 := hn 17, v18 := hn 18, v19 := hn 19 }⟩
  case fin =>
    intro listed a w1 hI hr
    obtain ⟨h1, h2, hd, h3⟩ := hI
    have h19 : listed.getD 19 false = true := by
      have h := all_listed (by kernel_rfl) hr 19 (by decide)
      rw [Array.getD_eq_getD_getElem?, Array.getElem?_eq_getElem (by omega)] at h ⊢; exact h
    have h4 : a.tmps.getD 4 undef = .int .i64 (ans3 lv tx) := h3.v19 h19
    clear hr
    rename_i K hK
    refine hK a w1 (wp_ret (bodyPost_ret ((results_tmp rfl _ _ _).trans (by rw [h4])) hd ⟨rfl, ?_⟩))
    exact ((Below.refl _ _).alloc (Nat.le_refl _) _).trans (h3.below.mono (by omega))
  case step =>
    intro listed a w1 i hI hi
    obtain ⟨h1, h2, hd, h3⟩ := hI
    obtain ⟨hun, o, ho, hdep⟩ := mem_ready.1 hi
    have hi20 : i < 20 := by
      rcases Nat.lt_or_ge i 20 with h | h
      · exact h
      · rw [Array.getElem?_eq_none (by simpa using h)] at ho; cases ho
    have hl : listed.getD i false = false := by
      rw [Array.getD_eq_getD_getElem?, Array.getElem?_eq_getElem (by omega)] at hun ⊢; exact hun
    have hfin : ∀ (d : Nat) (v : Value) (w2 : World), d < 20 → OI (w.heap.size + 1) w.heap.size lv tx (w.alloc (.cells #[.int .i64 3, .string tx, .int .i64 m, x] 31)) (upd (fun j => listed.getD j false) i true) (upd (fun k => a.tmps.getD k undef) d v) w2 →
        (listed.setIfInBounds i true).size = 20 ∧ (a.put (some d) v).tmps.size = 20 ∧ (a.put (some d) v).defers = [] ∧ OI (w.heap.size + 1) w.heap.size lv tx (w.alloc (.cells #[.int .i64 3, .string tx, .int .i64 m, x] 31)) (fun j => (listed.setIfInBounds i true).getD j false) (fun k => (a.put (some d) v).tmps.getD k undef) w2 := fun d v w2 hlt hO =>
      ⟨by simpa using h1, by simp [Act.put, h2], hd, by rw [listed_upd (by omega), tmps_upd (by omega)]; exact hO⟩
    have hfin0 : ∀ (w2 : World), OI (w.heap.size + 1) w.heap.size lv tx (w.alloc (.cells #[.int .i64 3, .string tx, .int .i64 m, x] 31)) (upd (fun j => listed.getD j false) i true) (fun k => a.tmps.getD k undef) w2 →
        (listed.setIfInBounds i true).size = 20 ∧ (a.put none undef).tmps.size = 20 ∧ (a.put none undef).defers = [] ∧ OI (w.heap.size + 1) w.heap.size lv tx (w.alloc (.cells #[.int .i64 3, .string tx, .int .i64 m, x] 31)) (fun j => (listed.setIfInBounds i true).getD j false) (fun k => (a.put none undef).tmps.getD k undef) w2 := fun w2 hO =>
      ⟨by simpa using h1, h2, hd, by rw [listed_upd (by omega)]; exact hO⟩
    have hsz : w.heap.size + 1 ≤ w1.heap.size := by have := h3.below.size; simp at this; exact this
    have htk : w1.cell? ⟨w.heap.size, 1, none⟩ = some (.string tx) := by
      rw [h3.below.cell (p := ⟨w.heap.size, 1, none⟩) (by simp)]
      rw [World.cell?_alloc_new]; rfl
    clear hi
    obtain rfl | rfl | rfl | rfl | rfl | rfl | rfl | rfl | rfl | rfl | rfl | rfl | rfl | rfl | rfl | rfl | rfl | rfl | rfl | rfl : i = 0 ∨ i = 1 ∨ i = 2 ∨ i = 3 ∨ i = 4 ∨ i = 5 ∨ i = 6 ∨ i = 7 ∨ i = 8 ∨ i = 9 ∨ i = 10 ∨ i = 11 ∨ i = 12 ∨ i = 13 ∨ i = 14 ∨ i = 15 ∨ i = 16 ∨ i = 17 ∨ i = 18 ∨ i = 19 := by omega
    all_goals (simp only [List.getElem?_toArray, List.getElem?_cons_succ, List.getElem?_cons_zero, Option.some.injEq] at ho; subst ho)
    · -- 0
      exact step_val rfl rfl (v := .map (some w1.heap.size)) (w' := w1.alloc (.map #[] 0)) rfl (hfin 8 _ _ (by decide) (h3.make0 hsz hl))
    · -- 1
      have l0 : listed.getD 0 false = true := hdep ⟨0, .data⟩ (by simp) rfl
      obtain ⟨w2, r1, r2⟩ := h3.ins1 hl l0
      exact step_skip rfl rfl (w' := w2) (run_insert r1) (hfin0 _ r2)
    · -- 2
      have l0 : listed.getD 0 false = true := hdep ⟨0, .data⟩ (by simp) rfl
      obtain ⟨w2, r1, r2⟩ := h3.ins2 hl l0
      exact step_skip rfl rfl (w' := w2) (run_insert r1) (hfin0 _ r2)
    · -- 3
      have l0 : listed.getD 0 false = true := hdep ⟨0, .data⟩ (by simp) rfl
      have l1 : listed.getD 1 false = true := hdep ⟨1, .data⟩ (by simp) rfl
      have l2 : listed.getD 2 false = true := hdep ⟨2, .data⟩ (by simp) rfl
      exact step_val rfl rfl (v := a.tmps.getD 8 undef) (w' := w1) rfl (hfin 9 _ _ (by decide) (h3.val3 l0 l1 l2))
    · -- 4
      exact step_val rfl rfl (v := .map (some w1.heap.size)) (w' := w1.alloc (.map #[] 0)) rfl (hfin 10 _ _ (by decide) (h3.make4 hsz hl))
    · -- 5
      have l4 : listed.getD 4 false = true := hdep ⟨4, .data⟩ (by simp) rfl
      obtain ⟨w2, r1, r2⟩ := h3.ins5 hl l4
      exact step_skip rfl rfl (w' := w2) (run_insert r1) (hfin0 _ r2)
    · -- 6
      have l4 : listed.getD 4 false = true := hdep ⟨4, .data⟩ (by simp) rfl
      obtain ⟨w2, r1, r2⟩ := h3.ins6 hl l4
      exact step_skip rfl rfl (w' := w2) (run_insert r1) (hfin0 _ r2)
    · -- 7
      have l4 : listed.getD 4 false = true := hdep ⟨4, .data⟩ (by simp) rfl
      have l5 : listed.getD 5 false = true := hdep ⟨5, .data⟩ (by simp) rfl
      have l6 : listed.getD 6 false = true := hdep ⟨6, .data⟩ (by simp) rfl
      exact step_val rfl rfl (v := a.tmps.getD 10 undef) (w' := w1) rfl (hfin 11 _ _ (by decide) (h3.val7 l4 l5 l6))
    · -- 8
      exact step_val rfl rfl (v := .map (some w1.heap.size)) (w' := w1.alloc (.map #[] 0)) rfl (hfin 12 _ _ (by decide) (h3.make8 hsz hl))
    · -- 9
      have l8 : listed.getD 8 false = true := hdep ⟨8, .data⟩ (by simp) rfl
      obtain ⟨w2, r1, r2⟩ := h3.ins9 hl l8
      exact step_skip rfl rfl (w' := w2) (run_insert r1) (hfin0 _ r2)
    · -- 10
      have l8 : listed.getD 8 false = true := hdep ⟨8, .data⟩ (by simp) rfl
      obtain ⟨w2, r1, r2⟩ := h3.ins10 hl l8
      exact step_skip rfl rfl (w' := w2) (run_insert r1) (hfin0 _ r2)
    · -- 11
      have l8 : listed.getD 8 false = true := hdep ⟨8, .data⟩ (by simp) rfl
      obtain ⟨w2, r1, r2⟩ := h3.ins11 hl l8
      exact step_skip rfl rfl (w' := w2) (run_insert r1) (hfin0 _ r2)
    · -- 12
      have l8 : listed.getD 8 false = true := hdep ⟨8, .data⟩ (by simp) rfl
      have l9 : listed.getD 9 false = true := hdep ⟨9, .data⟩ (by simp) rfl
      have l10 : listed.getD 10 false = true := hdep ⟨10, .data⟩ (by simp) rfl
      have l11 : listed.getD 11 false = true := hdep ⟨11, .data⟩ (by simp) rfl
      exact step_val rfl rfl (v := a.tmps.getD 12 undef) (w' := w1) rfl (hfin 13 _ _ (by decide) (h3.val12 l8 l9 l10 l11))
    · -- 13
      have l3 : listed.getD 3 false = true := hdep ⟨3, .data⟩ (by simp) rfl
      have l7 : listed.getD 7 false = true := hdep ⟨7, .data⟩ (by simp) rfl
      have l12 : listed.getD 12 false = true := hdep ⟨12, .data⟩ (by simp) rfl
      obtain ⟨e3, f0, f1, f2⟩ := h3.v3 l3
      obtain ⟨e7, f4, _, _⟩ := h3.v7 l7
      obtain ⟨e12, f8, _, _, _⟩ := h3.v12 l12
      obtain ⟨g0, q0, _, _⟩ := h3.m0 f0
      obtain ⟨g4, q4, _, _⟩ := h3.m4 f4
      obtain ⟨g8, q8, _, _⟩ := h3.m8 f8
      refine step_val rfl rfl (v := .agg #[a.tmps.getD 8 undef, a.tmps.getD 10 undef, a.tmps.getD 12 undef]) (w' := w1) ?_ (hfin 14 _ _ (by decide) (h3.val13 l3 l7 l12))
      have hb := build148 g0 g4 g8 w1
      rw [← q0, ← q4, ← q8] at hb
      rw [← e3, ← e7, ← e12] at hb ⊢
      exact run_val (by simpa only [List.map_toArray, List.map_cons, List.map_nil, Act.eval] using hb)
    · -- 14
      exact step_val rfl rfl (v := .int .i64 lv) (w' := w1) (run_moved h3.s1) (hfin 15 _ _ (by decide) h3.val14)
    · -- 15
      have l13 : listed.getD 13 false = true := hdep ⟨13, .data⟩ (by simp) rfl
      have l14 : listed.getD 14 false = true := hdep ⟨14, .data⟩ (by simp) rfl
      obtain ⟨e14, f3, f7, f12⟩ := h3.v13 l13
      obtain ⟨g0, q0, _, _⟩ := h3.m0 (h3.v3 f3).2.1
      obtain ⟨g4, q4, _, _⟩ := h3.m4 (h3.v7 f7).2.1
      obtain ⟨g8, q8, _, _⟩ := h3.m8 (h3.v12 f12).2.1
      refine step_val rfl rfl (v := pick3 lv (a.tmps.getD 8 undef) (a.tmps.getD 10 undef) (a.tmps.getD 12 undef)) (w' := w1) ?_ (hfin 16 _ _ (by decide) (h3.val15 l13))
      have hb := index148 g0 g4 g8 lv hlv w1
      rw [← q0, ← q4, ← q8, ← e14, ← h3.v14 l14] at hb
      exact run_val hb
    · -- 16
      exact step_val rfl rfl (v := .pointer (some ⟨w.heap.size, 1, none⟩)) (w' := w1) (run_field31 h3.s2) (hfin 17 _ _ (by decide) h3.val16)
    · -- 17
      have l16 : listed.getD 16 false = true := hdep ⟨16, .data⟩ (by simp) rfl
      exact step_val rfl rfl (v := .string tx) (w' := w1) (run_load9 (h3.v16 l16) htk) (hfin 18 _ _ (by decide) h3.val17)
    · -- 18
      have l15 : listed.getD 15 false = true := hdep ⟨15, .data⟩ (by simp) rfl
      have l17 : listed.getD 17 false = true := hdep ⟨17, .data⟩ (by simp) rfl
      exact step_val rfl rfl (v := .int .i64 (ans3 lv tx)) (w' := w1) (run_look3 hlv h3 l15 l17) (hfin 19 _ _ (by decide) h3.val18)
    · -- 19
      have l18 : listed.getD 18 false = true := hdep ⟨18, .data⟩ (by simp) rfl
      exact step_val rfl rfl (v := .int .i64 (ans3 lv tx)) (w' := w1) (run_assigned (h3.v18 l18)) (hfin 4 _ _ (by decide) h3.val19)

theorem ans3_op (lv : Nat) (hlv : lv < 3) (t : Tok) (h : t.kind = 3) : ans3 lv ⟨t.text.toArray⟩ = opP lv t := by
  have e : ∀ (l : List UInt8), ((⟨t.text.toArray⟩ : ByteArray) = ⟨l.toArray⟩) ↔ t.text = l := fun l => by
    constructor
    · intro h; exact congrArg (fun b : ByteArray => b.data.toList) h
    · intro h; rw [h]
  have eA := e [60]
  have eB := e [61, 61]
  have eC := e [43]
  have eD := e [45]
  have eE := e [42]
  have eF := e [47]
  have eG := e [37]
  match lv, hlv with
  | 0, _ =>
    simp only [ans3, opP, h, c2, kA, kB, eA, eB, ne_eq, not_true_eq_false, if_false, true_and]
    split
    · rfl
    · split <;> rfl
  | 1, _ =>
    simp only [ans3, opP, h, c2, kC, kD, eC, eD, ne_eq, not_true_eq_false, if_false, true_and]
    split
    · rfl
    · split <;> rfl
  | 2, _ =>
    simp only [ans3, opP, h, c3, kE, kF, kG, eE, eF, eG, ne_eq, not_true_eq_false, if_false, true_and]
    split
    · rfl
    · split
      · rfl
      · split <;> rfl

theorem operator_any (t : Tok) (x : Value) (hx : x.oneCell' = true) (lv : Nat) (hlv : lv < 3) (w : World) :
    Calls Tryd.prog 88 #[.agg #[.int .i64 t.kind, .string ⟨t.text.toArray⟩, .int .i64 t.n, x], .int .i64 lv] w fun e w' => e = .returned (.int .i64 (opP lv t)) ∧ Below w.heap.size w w' := by
  by_cases h : t.kind = 3
  · rw [← ans3_op lv hlv t h, h]
    exact operator_sign t.n ⟨t.text.toArray⟩ x lv hlv w
  · have : opP lv t = 0 := by unfold opP; rw [if_pos h]
    rw [this]
    exact operator_other t.kind t.n ⟨t.text.toArray⟩ x lv h hx w

end Go.Proofs.YtgkfmeccipgnjaaDoor
