/- LexCovers: the walk. -/
import Derived.Test.YtgkfmeccipgnjaaDoorLm
import Derived.Test.YtgkfmeccipgnjaaDoorN4
import Derived.BigQuiet
namespace Go.Proofs.YtgkfmeccipgnjaaDoor
open Go.RowKit

theorem lexF_last : ∀ (f : Nat) (l : List UInt8) (off : Nat) (ts : List Tok), l.length < f → lexF f l off = .good ts → ∃ us, ts = us ++ [⟨4, [], 0, off + l.length⟩] := by
  intro f
  induction f with
  | zero => intro l off ts h; omega
  | succ f ih =>
    intro l off ts hf h
    rw [lexF] at h
    have hb := runL_le blankB l
    cases hd : l.drop (runL blankB l) with
    | nil =>
      rw [hd] at h
      have hl := List.drop_eq_nil_iff.mp hd
      simp only [LexR.good.injEq] at h
      exact ⟨[], by rw [← h, show runL blankB l = l.length by omega]; rfl⟩
    | cons c r =>
      rw [hd] at h
      have hcl : (c :: r).length + runL blankB l = l.length := by rw [← hd, List.length_drop]; omega
      simp only at h
      by_cases h35 : c.toNat = 35
      · rw [if_pos h35] at h
        have h1 := note_run (r := r) h35
        have h2 := runL_le noteB (c :: r)
        obtain ⟨us, hus⟩ := ih _ _ _ (by simp only [List.length_drop]; omega) h
        refine ⟨us, ?_⟩
        rw [hus]; congr 3; simp only [List.length_drop]; omega
      · rw [if_neg h35] at h
        cases ht : tokAt (c :: r) with
        | none => rw [ht] at h; cases h
        | some q =>
          obtain ⟨k, size, n⟩ := q
          have hsz := tokAt_size ht
          rw [ht] at h
          simp only at h
          cases hr : lexF f ((c :: r).drop size) (off + runL blankB l + size) with
          | bad p => rw [hr] at h; cases h
          | good vs =>
            rw [hr] at h
            simp only [LexR.pre, LexR.good.injEq] at h
            obtain ⟨us, hus⟩ := ih _ _ _ (by simp only [List.length_drop]; omega) hr
            refine ⟨⟨k, (c :: r).take size, n, off + runL blankB l⟩ :: us, ?_⟩
            have e : off + runL blankB l + size + ((c :: r).drop size).length = off + l.length := by simp only [List.length_drop]; omega
            rw [← h, hus, e]; rfl
theorem lexAll_last {L : List UInt8} {ts : List Tok} (h : lexAll L = .good ts) : ts[ts.length - 1]? = some ⟨4, [], 0, L.length⟩ := by
  rw [lexAll_eq (lexAll_short h)] at h
  obtain ⟨us, rfl⟩ := lexF_last _ _ _ _ (by omega) h
  simp

theorem cpx_eq (a b : Nat × Nat) (h : a = b) (ha : a.1 < 6100 ∧ a.2 < 6100) (W : World) : (binOp .neq 25 (plc a) (plc b)).run Tryd.prog W = .ok (.bool false) W := by
  subst h; rw [plc_neq 25 ha ha]; simp
theorem cpx_neq (a b : Nat × Nat) (ha : a.1 < 6100 ∧ a.2 < 6100) (hb : b.1 < 6100 ∧ b.2 < 6100) {X Y U V : Nat} (h1 : plc a = .complex .f64 X Y) (h2 : plc b = .complex .f64 U V) (W : World) :
    (binOp .neq 25 (.complex .f64 X Y) (.complex .f64 U V)).run Tryd.prog W = .ok (.bool (!decide (a = b))) W := by
  rw [← h1, ← h2]; exact plc_neq 25 ha hb W

set_option maxRecDepth 100000 in
set_option maxHeartbeats 4000000 in
theorem lexCovers_walk (W0 : World) (hE : Env W0) (v : Value) (z : List Int) (hv : IntsAt W0 v z) (raw : ByteArray) (hraw : raw.size ≤ 140737488355328) :
    Calls Tryd.prog 3 #[v, .string raw] W0 fun e w' => e = .returned (.bool true) ∧ Below W0.heap.size W0 w' := by
  have hrm : raw.size ≤ maxLen := by unfold maxLen; omega
  obtain ⟨s, hs⟩ : ∃ s, s = textB raw z := ⟨_, rfl⟩
  have hsM : s.size ≤ maxLen := by rw [hs]; have := textB_size raw z; have := hv.1; unfold maxLen; omega
  have C1h := Lib.hid (show Calls Tryd.prog 14 #[v, .string raw] W0 fun e w' => e = .returned (.string s) ∧ Below W0.heap.size W0 w' by rw [hs]; exact text2_any v z raw hrm W0 hv)
  have C16h := Lib.hid (fun w (hw : Below W0.heap.size W0 w) => known2 w (hE.below hw hE.size))
  clear hs hv
  cases hl : lexAll s.data.toList with
  | bad p =>
    have C15h := Lib.hid (fun w (hw : Below W0.heap.size W0 w) => tokens_bad s hsM hl w (hE.below hw hE.size))
    clear hl
    go_enter Tryd.func3, Tryd.ntmps3
    go_wp2_with fail
    refine C1h.out.mono ?_
    rintro e w1 ⟨rfl, hb⟩
    have HB := Lib.hid hb
    clear hb
    go_wp2_with fail
    refine (C15h.out _ HB.out).mono ?_
    rintro e w2 ⟨⟨X, Y, hXY, rfl⟩, hb⟩
    have HB := Lib.hid (HB.out.trans (hb.mono HB.out.size))
    clear hb hXY
    go_wp2_with (go_at_call 16; refine (C16h.out _ HB.out).mono ?_; rintro e w' ⟨rfl, hb⟩; have HB := Lib.hid (HB.out.trans (hb.mono HB.out.size)); clear hb)
    go_ret
    exact ⟨rfl, HB.out⟩
  | good ts =>
    have C15h := Lib.hid (fun w (hw : Below W0.heap.size W0 w) => tokens_good s hl w (hE.below hw hE.size))
    have hss := lexAll_short hl
    rw [← size_length] at hss
    have HPos := Lib.hid (fun (i : Nat) (t : Tok) (h : ts[i]? = some t) => lexAll_pos hl t (List.mem_of_getElem? h))
    have HLast := Lib.hid (lexAll_last hl)
    have hne := lexAll_len hl
    have hn1 : 1 ≤ ts.length := by have := lexAll_ne hl; cases ts <;> simp at *
    have HStart := Lib.hid (lexM_start (by rw [← size_length]; exact hss) hl)
    obtain ⟨n, hn⟩ : ∃ n, ts.length = n := ⟨_, rfl⟩
    rw [hn] at C15h HLast hne hn1
    have HN := Lib.hid hn
    have HC16 := Lib.hid (fun (W : World) (hW : Below W0.heap.size W0 W) (dd : Nat) (os : Array Obj) => Go.Calls.regrown_of (w := W) (d := dd) (os := os) (known2 _ ((hE.below hW hE.size).below (Go.below_regrown W dd os) (hE.below hW hE.size).size)))
    clear hl hn hE
    go_enter Tryd.func3, Tryd.ntmps3
    go_wp2_with fail
    refine C1h.out.mono ?_
    rintro e w1 ⟨rfl, hb⟩
    have HB := Lib.hid hb
    clear hb
    go_wp2_with fail
    refine (C15h.out _ HB.out).mono ?_
    rintro e w2 ⟨b1, o1, c1, rfl, hc1, hm1, hl1, ht1, hb⟩
    have HT1 := Lib.hid ht1
    have HB := Lib.hid (HB.out.trans (hb.mono HB.out.size))
    clear hb ht1
    have hnn : (n : Int) - 1 = ((n - 1 : Nat) : Int) := by omega
    obtain ⟨m, hm⟩ : ∃ m, m = n - 1 := ⟨_, rfl⟩
    rw [← hm] at hnn HLast
    have hmn : m < n := by omega
    have HM := Lib.hid hm
    clear hm
    go_wp2_with fail
    have hA := HT1.out m _ HLast.out
    obtain ⟨a0, a1, a2, a3⟩ := hA
    simp only at a0 a3
    rw [← size_length] at a3
    have c16 := fun dd os => HC16.out w2 HB.out dd os
    have hsp := spot_small (s.data.toList.take s.size) (by simp; omega)
    have cn := cpx_eq _ _ rfl hsp
    have c17 : ∀ dd os, Calls Tryd.prog 17 #[.string s, .int .i64 s.size] (Go.Sort.grow (Go.redrawn w2 dd) os) fun e w'' => e = .returned (plc (spotL (s.data.toList.take s.size))) ∧ ∃ q : Go.Regrown, w'' = Go.Sort.grow (Go.redrawn w2 q.d) q.os := fun dd os =>
      Go.Calls.regrown_of ((ref_place s s.size (by omega) (Nat.le_refl _) hss _).mono fun e w' ⟨he, hw⟩ => ⟨he, by rw [← hw]; exact Below.refl _ _⟩)
    obtain ⟨X, Y, hXY⟩ : ∃ X Y, plc (spotL (s.data.toList.take s.size)) = .complex .f64 X Y := ⟨_, _, rfl⟩
    rw [hXY] at a3 cn c17
    have k0 := Go.cell_regrown a0
    have k3 := Go.cell_regrown a3
    have hw1 : IntKind.i64.wrap (m : Int) = (m : Int) := IntWalk.i64_in _ (by omega)
    have i1 : (0 : Int) ≤ (m : Int) := by omega
    have i2 : (m : Int) < (n : Int) := by omega
    have i3 : ((n : Int) == 0) = false := by simp; omega
    clear a0 a1 a2 a3 hXY hsp
    refine Go.wp_region_quiet_below (by kernel_rfl) (by kernel_rfl) ?_
    repeat (quiet_step (first | (with_reducible exact c16 _ _) | (with_reducible exact c17 _ _)))
    refine wpQuiet_nil ?_
    intro _ hw'
    obtain ⟨⟨dq, osq⟩, hw''⟩ := hw'
    subst hw''
    have hbq := Go.below_regrown w2 dq osq
    obtain ⟨w3, hw3⟩ : ∃ w3, w3 = Go.Sort.grow (Go.redrawn w2 dq) osq := ⟨_, rfl⟩
    rw [← hw3] at hbq ⊢
    have HT1 := Lib.hid (fun i t h => (HT1.out i t h).below hbq hl1)
    have hl1 : b1 < w3.heap.size := Nat.lt_of_lt_of_le hl1 hbq.size
    have HB := Lib.hid (HB.out.trans (hbq.mono HB.out.size))
    clear c16 c17 k0 k3 hw3 hbq cn
    go_wp2_with fail
    go_loopw [9, 10, 64] (fun iv nv qv wr => ∃ (i q : Nat) (note : Bool), q ≤ n ∧ i ≤ s.size ∧ iv = .int .i64 i ∧ nv = .bool note ∧ qv = .int .i64 q ∧ Below w3.heap.size w3 wr ∧ Hid ((q < n → lexM note (s.data.toList.drop i) i = .good (ts.drop q)) ∧ (q = n → i = s.size))) (fun _ _ qv _ => n - (intOf qv).toNat)
    case atStart => exact ⟨0, 0, false, Nat.zero_le _, Nat.zero_le _, rfl, rfl, rfl, Below.refl _ _, fun _ => by rw [HStart.out, List.drop_zero], fun h => by omega⟩
    case round =>
      obtain ⟨i, q, note, hq, hi, rfl, rfl, rfl, hbr, HI⟩ := hrel
      have hszr := hbr.size
      have HBR := Lib.hid hbr
      clear hbr
      by_cases hlt : q < n
      · obtain ⟨t, ht⟩ : ∃ t, ts[q]? = some t := ⟨ts[q]'(by rw [HN.out]; exact hlt), List.getElem?_eq_getElem _⟩
        have hdrop : ts.drop q = t :: ts.drop (q + 1) := by
          obtain ⟨h1, h2⟩ := List.getElem?_eq_some_iff.mp ht
          rw [List.drop_eq_getElem_cons h1, h2]
        have HL := Lib.hid (show lexM note (s.data.toList.drop i) i = .good (t :: ts.drop (q + 1)) by rw [← hdrop]; exact HI.out.1 hlt)
        have hpl := HPos.out q t ht
        rw [← size_length] at hpl
        have hA := (HT1.out q t ht).below HBR.out hl1
        obtain ⟨X, Y, hXY⟩ : ∃ X Y, plc (spotL (s.data.toList.take t.pos)) = .complex .f64 X Y := ⟨_, _, rfl⟩
        obtain ⟨a0, a1, a2, a3⟩ := hA
        rw [hXY] at a3
        have HXY := Lib.hid hXY
        have l1 : b1 < wr.heap.size := by omega
        have hne2 := Lib.hid (show q + 1 = n → ts.drop (q + 1) = [] by intro h; exact List.drop_eq_nil_of_le (by rw [HN.out]; omega))
        clear ht hdrop hXY HI
        go_wp2_with (refine store_fresh rfl 31 _ _ rfl #[.int .i64 t.kind, .string ⟨t.text.toArray⟩, .int .i64 t.n, .complex .f64 X Y] rfl rfl 31 _ info31 rfl (by simp [Value.oneCell']) ?_)
        simp only [Act.put]
        obtain ⟨T, hT⟩ : ∃ T, T = wr.heap.size := ⟨_, rfl⟩
        obtain ⟨wA, hwA⟩ : ∃ wA, wA = wr.alloc (.cells #[.int .i64 t.kind, .string ⟨t.text.toArray⟩, .int .i64 t.n, .complex .f64 X Y] 31) := ⟨_, rfl⟩
        have hc : ∀ k, wA.cell? ⟨T, k, none⟩ = (#[.int .i64 t.kind, .string ⟨t.text.toArray⟩, .int .i64 t.n, .complex .f64 X Y] : Array Value)[k]? := fun k => by rw [hwA, hT, World.cell?_alloc_new]
        have hTA : T < wA.heap.size := by rw [hwA, hT]; simp
        have HBA := Lib.hid (show Below w3.heap.size w3 wA by rw [hwA]; exact HBR.out.alloc HBR.out.size _)
        have HC := Lib.hid hc
        rw [← hwA, ← hT]
        clear hwA hT hc a0 a1 a2 a3 l1 hszr HBR
        go_loopw [9, 10] (fun iv nv wr2 => ∃ (i : Nat) (note : Bool), i ≤ s.size ∧ iv = .int .i64 i ∧ nv = .bool note ∧ Below wA.heap.size wA wr2 ∧ Hid (lexM note (s.data.toList.drop i) i = .good (t :: ts.drop (q + 1)))) (fun iv _ _ => s.size - (intOf iv).toNat)
        case atStart => exact ⟨i, note, hi, rfl, rfl, Below.refl _ _, HL⟩
        case round =>
          clear HL hi
          obtain ⟨i, note, hi, rfl, rfl, hb2, HL⟩ := hrel
          have f0 : wr.cell? ⟨T, 0, none⟩ = some (.int .i64 t.kind) := (hb2.cell (p := ⟨T, 0, none⟩) hTA).trans (HC.out 0)
          have f1 : wr.cell? ⟨T, 1, none⟩ = some (.string ⟨t.text.toArray⟩) := (hb2.cell (p := ⟨T, 1, none⟩) hTA).trans (HC.out 1)
          have f3 : wr.cell? ⟨T, 3, none⟩ = some (.complex .f64 X Y) := (hb2.cell (p := ⟨T, 3, none⟩) hTA).trans (HC.out 3)
          have lT : T < wr.heap.size := Nat.lt_of_lt_of_le hTA hb2.size
          have HB2 := Lib.hid hb2
          clear hb2
          by_cases hend : i = s.size
          · -- at the text's end: the end token
            have hd : s.data.toList.drop i = [] := List.drop_eq_nil_of_le (by rw [← size_length]; omega)
            have hL := HL.out
            rw [hd, lexM_end] at hL
            simp only [LexR.good.injEq, List.cons.injEq] at hL
            obtain ⟨htk, hrest⟩ := hL
            have hq1 : q + 1 = n := by
              apply Decidable.byContradiction; intro hc
              have : (ts.drop (q + 1)).length = n - (q + 1) := by rw [List.length_drop, HN.out]
              rw [← hrest] at this; simp at this; omega
            rw [show t.kind = 4 by rw [← htk]] at f0
            rw [show (⟨t.text.toArray⟩ : ByteArray) = ⟨#[]⟩ by rw [← htk]] at f1
            have g1 : decide ((s.size : Int) < (s.size : Int)) = false := by simp
            subst hend
            clear hd htk hrest HL
            cases note <;>
            · go_wp2_with fail
              go_quiet (fail)
              go_wp2_with fail
              go_quiet (fail)
              go_wp2_with fail
              go_roundw
              case rel => exact ⟨s.size, q + 1, _, by omega, Nat.le_refl _, by go_num, rfl, by go_num, below_drewN (HBA.out.trans (HB2.out.mono HBA.out.size)) _, fun h => by omega, fun _ => rfl⟩
              case measure => simp [intOf]; omega
          · have hlt2 : i < s.size := by omega
            have hd : s.data.toList.drop i = s[i] :: s.data.toList.drop (i + 1) := List.drop_eq_getElem_cons (by simpa using hlt2)
            have C17h := Lib.hid (fun w => ref_place s i (by omega) (by omega) (by omega) w)
            obtain ⟨U, V, hUV⟩ : ∃ U V, plc (spotL (s.data.toList.take i)) = .complex .f64 U V := ⟨_, _, rfl⟩
            rw [hUV] at C17h
            have sp1 := spot_small (s.data.toList.take i) (by simp; omega)
            have sp2 := spot_small (s.data.toList.take t.pos) (by simp; omega)
            have cn := cpx_neq _ _ sp1 sp2 hUV HXY.out
            have g1 : decide ((i : Int) < (s.size : Int)) = true := by simp; omega
            clear hUV sp1 sp2
            by_cases hp : i = t.pos
            · -- the next token stands here
              have hL := HL.out
              rw [hd] at hL
              obtain ⟨rfl, hk4, sz, hsz1, hsz2, htx, hnext⟩ := lexM_here hL hp
              rw [← hd] at hsz2 htx hnext
              rw [List.drop_drop] at hnext
              have hdn : decide (spotL (s.data.toList.take i) = spotL (s.data.toList.take t.pos)) = true := by rw [hp]; simp
              rw [hdn] at cn
              simp only [List.length_drop, ← size_length] at hsz2
              obtain ⟨tx, htx2⟩ : ∃ tx : ByteArray, tx = ⟨t.text.toArray⟩ := ⟨_, rfl⟩
              have hsx : s.extract i (i + sz) = tx := by rw [htx2, htx]; exact bytes_of_list (extract_mid s i sz)
              have htz : tx.size = sz := by rw [← hsx]; simp; omega
              rw [← htx2] at f1
              obtain ⟨p, hpp⟩ : ∃ p : Nat, (i : Int) + (sz : Int) = p := ⟨i + sz, by simp⟩
              obtain rfl : p = i + sz := by omega
              have hne3 : tx.toList.isEmpty = false := toList_ne (by omega)
              have hte : (tx.toList == tx.toList) = true := by simp
              have gk : ((t.kind : Int) == 4) = false := by simp only [beq_eq_false_iff_ne]; omega
              have gk2 : ((t.kind : Int) != 4) = true := by simp only [bne_iff_ne]; omega
              have gl : decide ((s.size : Int) - (i : Int) < (sz : Int)) = false := by simp; omega
              have j1 : (0 : Int) ≤ (i : Int) := by omega
              have j2 : (i : Int) ≤ ((i + sz : Nat) : Int) := by omega
              have j3 : ((i + sz : Nat) : Int) ≤ (s.size : Int) := by omega
              have HNx := Lib.hid hnext
              have hsl : i + sz ≤ s.size := by omega
              generalize i + sz = p at *
              clear hL hd htx htx2 hnext hdn hp hsz2 hk4 HL
              go_wp2_with fail
              go_quiet (exact Calls.quiet_of_same ((C17h.out _).mono fun e w' h => ⟨h.1, h.2.symm⟩))
              go_wp2_with fail
              go_quiet (fail)
              go_wp2_with fail
              go_roundw
              case rel => exact ⟨p, q + 1, false, by omega, hsl, rfl, rfl, by go_num, below_drewN (HBA.out.trans (HB2.out.mono HBA.out.size)) _, fun _ => HNx.out, fun h => ((lexF_ne _ _ _ _ (show lexF _ _ _ = .good [] from by have := HNx.out; rw [hne2.out h] at this; exact this)) rfl).elim⟩
              case measure => simp [intOf]; omega
            · -- a byte of the gap
              have hL := HL.out
              rw [hd] at hL
              have hdn : decide (spotL (s.data.toList.take i) = spotL (s.data.toList.take t.pos)) = false := by
                simp only [decide_eq_false_iff_not]
                exact fun e => hp (spot_inj _ (by rw [← size_length]; omega) (by rw [← size_length]; omega) e)
              rw [hdn] at cn
              have hcase := lexM_gap hL hp
              clear hd hp hdn HL hL
              have eqT : ∀ (x : Int), (s[i].toNat : Int) = x → ((s[i].toNat : Int) == x) = true ∧ ((s[i].toNat : Int) != x) = false := fun x h => by simp [h]
              have eqF : ∀ (x : Int), ¬ (s[i].toNat : Int) = x → ((s[i].toNat : Int) == x) = false ∧ ((s[i].toNat : Int) != x) = true := fun x h => by simp [h]
              rcases hcase with ⟨rfl, hb, hnx⟩ | ⟨rfl, h35, hnx⟩ | ⟨rfl, h10, hnx⟩ | ⟨rfl, h10, hnx⟩
              · simp only [blankB, Bool.or_eq_true, beq_iff_eq] at hb
                have hnx := Lib.hid hnx
                rcases hb with (hb | hb) | hb
                · obtain ⟨v10, v10n⟩ := eqF 10 (by omega)
                  obtain ⟨v35, v35n⟩ := eqF 35 (by omega)
                  obtain ⟨v32, v32n⟩ := eqT 32 (by omega)
                  clear hb eqT eqF
                  go_wp2_with fail
                  go_quiet (exact Calls.quiet_of_same ((C17h.out _).mono fun e w' h => ⟨h.1, h.2.symm⟩))
                  go_wp2_with fail
                  all_goals
                    go_roundw
                    case rel => exact ⟨i + 1, _, by omega, by go_num, rfl, below_drewN HB2.out _, hnx⟩
                    case measure => simp [intOf]; omega

                · obtain ⟨v10, v10n⟩ := eqF 10 (by omega)
                  obtain ⟨v35, v35n⟩ := eqF 35 (by omega)
                  obtain ⟨v32, v32n⟩ := eqF 32 (by omega)
                  obtain ⟨v9, v9n⟩ := eqT 9 (by omega)
                  clear hb eqT eqF
                  go_wp2_with fail
                  go_quiet (exact Calls.quiet_of_same ((C17h.out _).mono fun e w' h => ⟨h.1, h.2.symm⟩))
                  go_wp2_with fail
                  all_goals
                    go_roundw
                    case rel => exact ⟨i + 1, _, by omega, by go_num, rfl, below_drewN HB2.out _, hnx⟩
                    case measure => simp [intOf]; omega

                · obtain ⟨v10, v10n⟩ := eqT 10 (by omega)
                  obtain ⟨v32, v32n⟩ := eqF 32 (by omega)
                  obtain ⟨v9, v9n⟩ := eqF 9 (by omega)
                  clear hb eqT eqF
                  go_wp2_with fail
                  go_quiet (exact Calls.quiet_of_same ((C17h.out _).mono fun e w' h => ⟨h.1, h.2.symm⟩))
                  go_wp2_with fail
                  all_goals
                    go_roundw
                    case rel => exact ⟨i + 1, _, by omega, by go_num, rfl, below_drewN HB2.out _, hnx⟩
                    case measure => simp [intOf]; omega

              · have hnx := Lib.hid hnx
                obtain ⟨v10, v10n⟩ := eqF 10 (by omega)
                obtain ⟨v35, v35n⟩ := eqT 35 (by omega)
                clear h35 eqT eqF
                go_wp2_with fail
                go_quiet (exact Calls.quiet_of_same ((C17h.out _).mono fun e w' h => ⟨h.1, h.2.symm⟩))
                go_wp2_with fail
                all_goals
                  go_roundw
                  case rel => exact ⟨i + 1, _, by omega, by go_num, rfl, below_drewN HB2.out _, hnx⟩
                  case measure => simp [intOf]; omega

              · have hnx := Lib.hid hnx
                obtain ⟨v10, v10n⟩ := eqT 10 (by omega)
                obtain ⟨v32, v32n⟩ := eqF 32 (by omega)
                obtain ⟨v9, v9n⟩ := eqF 9 (by omega)
                clear h10 eqT eqF
                go_wp2_with fail
                go_quiet (exact Calls.quiet_of_same ((C17h.out _).mono fun e w' h => ⟨h.1, h.2.symm⟩))
                go_wp2_with fail
                all_goals
                  go_roundw
                  case rel => exact ⟨i + 1, _, by omega, by go_num, rfl, below_drewN HB2.out _, hnx⟩
                  case measure => simp [intOf]; omega

              · have hnx := Lib.hid hnx
                obtain ⟨v10, v10n⟩ := eqF 10 (by omega)
                clear h10 eqT eqF
                go_wp2_with fail
                go_quiet (exact Calls.quiet_of_same ((C17h.out _).mono fun e w' h => ⟨h.1, h.2.symm⟩))
                go_wp2_with fail
                all_goals
                  go_roundw
                  case rel => exact ⟨i + 1, _, by omega, by go_num, rfl, below_drewN HB2.out _, hnx⟩
                  case measure => simp [intOf]; omega

      · have hqn : q = n := by omega
        have hin := HI.out.2 hqn
        subst hin
        have hz : ¬ (q : Int) < (n : Int) := by omega
        clear HI hqn
        go_wp2_with fail
        go_ret
        exact ⟨rfl, HB.out.trans (HBR.out.mono HB.out.size)⟩
end Go.Proofs.YtgkfmeccipgnjaaDoor
