/- LexTells: the walk. -/
import Derived.Test.YtgkfmeccipgnjaaDoorLz
import Derived.Test.YtgkfmeccipgnjaaDoorLx
import Derived.Test.YtgkfmeccipgnjaaDoorN4
import Derived.BigQuiet
namespace Go.Proofs.YtgkfmeccipgnjaaDoor
open Go.RowKit

theorem lexF_bad : ∀ (f : Nat) (l : List UInt8) (off p : Nat), l.length < f → lexF f l off = .bad p → p ≤ off + l.length := by
  intro f
  induction f with
  | zero => intro l off p h; omega
  | succ f ih =>
    intro l off p hf h
    rw [lexF] at h
    have hb := runL_le blankB l
    cases hd : l.drop (runL blankB l) with
    | nil => rw [hd] at h; simp at h
    | cons c r =>
      rw [hd] at h
      have hcl : (c :: r).length + runL blankB l = l.length := by rw [← hd, List.length_drop]; omega
      simp only at h
      by_cases h35 : c.toNat = 35
      · rw [if_pos h35] at h
        have h1 := note_run (r := r) h35
        have h2 := runL_le noteB (c :: r)
        have := ih _ _ _ (by simp only [List.length_drop]; omega) h
        simp only [List.length_drop] at this; omega
      · rw [if_neg h35] at h
        cases ht : tokAt (c :: r) with
        | none => rw [ht] at h; simp only [LexR.bad.injEq] at h; omega
        | some q =>
          obtain ⟨k, size, n⟩ := q
          have hsz := tokAt_size ht
          rw [ht] at h
          simp only at h
          cases hr : lexF f ((c :: r).drop size) (off + runL blankB l + size) with
          | good us => rw [hr] at h; cases h
          | bad p' =>
            rw [hr] at h
            simp only [LexR.pre, LexR.bad.injEq] at h
            have := ih _ _ _ (by simp only [List.length_drop]; omega) hr
            simp only [List.length_drop] at this; omega
theorem lexAll_bad {L : List UInt8} {p : Nat} (h : lexAll L = .bad p) : p ≤ L.length ∧ p ≤ 6000 := by
  rcases Nat.lt_or_ge 6000 L.length with hlt | hge
  · rw [lexAll, if_pos hlt] at h; cases h; omega
  · rw [lexAll_eq hge] at h
    have := lexF_bad _ _ _ _ (by omega) h
    omega

theorem refsOf_at : ∀ (l : List Tok) (i : Nat) (t : Tok) (k : Nat), l[i]? = some t → k < 4 → (refsOf l)[i * 4 + k]? = (refCells t)[k]? := by
  intro l
  induction l with
  | nil => intro i t k h; simp at h
  | cons u l ih =>
    intro i t k h hk
    have hc : (refCells u).length = 4 := rfl
    cases i with
    | zero =>
      simp only [List.getElem?_cons_zero, Option.some.injEq] at h
      subst h
      simp only [refsOf, List.flatMap_cons]
      rw [List.getElem?_append_left (by omega)]; simp
    | succ i =>
      simp only [List.getElem?_cons_succ] at h
      simp only [refsOf, List.flatMap_cons]
      rw [List.getElem?_append_right (by omega), hc, show (i + 1) * 4 + k - 4 = i * 4 + k by omega]
      exact ih i t k h hk

/-- A token of the reference's at its place in a slice. -/
structure RefIs (w : World) (b off : Nat) (t : Tok) : Prop where
  kind : w.cell? ⟨b, off, none⟩ = some (.int .i64 t.kind)
  text : w.cell? ⟨b, off + 1, none⟩ = some (.string ⟨t.text.toArray⟩)
  num : w.cell? ⟨b, off + 2, none⟩ = some (.int .i64 t.n)
  pos : w.cell? ⟨b, off + 3, none⟩ = some (.int .i64 t.pos)
theorem RefIs.below {w w' : World} {b off : Nat} {t : Tok} (h : RefIs w b off t) {B : Nat} (hb : Below B w w') (hB : b < B) : RefIs w' b off t :=
  ⟨(hb.cell (p := ⟨b, off, none⟩) hB).trans h.kind, (hb.cell (p := ⟨b, off + 1, none⟩) hB).trans h.text, (hb.cell (p := ⟨b, off + 2, none⟩) hB).trans h.num, (hb.cell (p := ⟨b, off + 3, none⟩) hB).trans h.pos⟩
theorem refs_at {w : World} {v : Value} {l : List Tok} (h : SliceAt w v l.length (refsOf l)) (hne : l ≠ []) :
    ∃ b off c, v = .slice (some ⟨b, off, none⟩) l.length c ∧ l.length ≤ c ∧ c ≤ 9223372036854775807 ∧ b < w.heap.size ∧ ∀ i t, l[i]? = some t → RefIs w b (off + i * 4) t := by
  obtain ⟨A, c, hv, hc, hm, h⟩ := h
  rcases h with h | ⟨b, off, rfl, hlt, h⟩
  · exact absurd (List.eq_nil_of_length_eq_zero h) hne
  · refine ⟨b, off, c, hv, hc, by unfold maxLen at hm; exact hm, hlt, fun i t ht => ?_⟩
    have g : ∀ k u, (refCells t)[k]? = some u → k < 4 → w.cell? ⟨b, off + i * 4 + k, none⟩ = some u := by
      intro k u hu hk
      rw [Nat.add_assoc]
      exact h _ _ (by rw [refsOf_at l i t k ht hk]; exact hu)
    exact ⟨g 0 _ rfl (by omega), g 1 _ rfl (by omega), g 2 _ rfl (by omega), g 3 _ rfl (by omega)⟩

theorem reftok_good (s : ByteArray) {ts : List Tok} (h : lexAll s.data.toList = .good ts) (W : World) :
    Calls Tryd.prog 20 #[.string s] W fun e W' => ∃ b off c, e = .returned (.tuple #[.slice (some ⟨b, off, none⟩) ts.length c, .int .i64 0, .int .i64 0]) ∧ ts.length ≤ c ∧ c ≤ 9223372036854775807 ∧ b < W'.heap.size ∧
      (∀ i t, ts[i]? = some t → RefIs W' b (off + i * 4) t) ∧ Below W.heap.size W W' := by
  have hs := lexAll_short h
  rw [← size_length] at hs
  refine (reftok_any s (by unfold maxLen; omega) W).mono fun e W' ⟨hb, hr⟩ => ?_
  rw [h] at hr
  obtain ⟨v, he, hsl⟩ := hr
  obtain ⟨b, off, c, rfl, h1, h2, h3, h4⟩ := refs_at hsl (lexAll_ne h)
  exact ⟨b, off, c, he, h1, h2, h3, h4, hb⟩

theorem cpx_same (a b : Nat × Nat) (h : a = b) (ha : a.1 < 6100 ∧ a.2 < 6100) (W : World) : (binOp .neq 25 (plc a) (plc b)).run Tryd.prog W = .ok (.bool false) W := by
  subst h; rw [plc_neq 25 ha ha]; simp

set_option maxRecDepth 100000 in
set_option maxHeartbeats 4000000 in
theorem lexTells_core (W0 : World) (hE : Env W0) (v : Value) (z : List Int) (hv : IntsAt W0 v z) (raw : ByteArray) (hraw : raw.size ≤ 140737488355328) (x : Bool) (s : ByteArray) (hsm : s.size ≤ 200000000000000) (hsel : (x = true ∧ s = raw) ∨ (x = false ∧ s = textB raw z)) :
    Calls Tryd.prog 6 #[v, .string raw, .bool x] W0 fun e w' => e = .returned (.bool true) ∧ Below W0.heap.size W0 w' := by
  have hrm : raw.size ≤ maxLen := by unfold maxLen; omega
  have hsM : s.size ≤ maxLen := by unfold maxLen; omega
  obtain ⟨t0, ht0⟩ : ∃ t0, t0 = textB ⟨#[]⟩ z := ⟨_, rfl⟩
  have ht0m : t0.size ≤ maxLen := by rw [ht0]; have := textB_size ⟨#[]⟩ z; have := hv.1; unfold maxLen; omega
  have C0 : ∀ w, Below W0.heap.size W0 w → Calls Tryd.prog 14 #[v, .string ⟨#[]⟩] w fun e w' => e = .returned (.string t0) ∧ Below w.heap.size w w' := fun w hw => by rw [ht0]; exact text2_any v z ⟨#[]⟩ (by unfold maxLen; decide) w (hv.below hw)
  have C1 : Calls Tryd.prog 14 #[v, .string raw] W0 fun e w' => e = .returned (.string (textB raw z)) ∧ Below W0.heap.size W0 w' := text2_any v z raw hrm W0 hv
  have C16 : ∀ w, Below W0.heap.size W0 w → _ := fun w hw => known2 w (hE.below hw hE.size)
  have C0h := Lib.hid C0
  have C1h := Lib.hid C1
  have C16h := Lib.hid C16
  have cz : ∀ Z, (binOp .neq 25 (.complex .f64 0 0) (.complex .f64 0 0)).run Tryd.prog Z = .ok (.bool false) Z := fun Z => by kernel_rfl
  clear C0 C1 C16 hv ht0
  cases hl : lexAll s.data.toList with
  | bad p =>
    obtain ⟨hp1, hp2⟩ := lexAll_bad hl
    rw [← size_length] at hp1
    have C15h := Lib.hid (show ∀ w, Below W0.heap.size W0 w → Calls Tryd.prog 15 #[.string s] w fun e w' => e = .returned (.tuple #[.slice none 0 0, plc (spotL (s.data.toList.take p)), .int .i64 2]) ∧ Below w.heap.size w w' from fun w hw => (tokens_any s hsM w (hE.below hw hE.size)).mono fun e w' ⟨hb, hr⟩ => by rw [hl] at hr; exact ⟨hr, hb⟩)
    have C20h := Lib.hid (show ∀ w, Calls Tryd.prog 20 #[.string s] w fun e w' => e = .returned (.tuple #[.slice none 0 0, .int .i64 p, .int .i64 2]) ∧ Below w.heap.size w w' from fun w => (reftok_any s hsM w).mono fun e w' ⟨hb, hr⟩ => by rw [hl] at hr; exact ⟨hr, hb⟩)
    have C17h := Lib.hid (fun w => ref_place s p (by omega) hp1 hp2 w)
    have hsp := spot_small (s.data.toList.take p) (by simp; omega)
    have cn := cpx_same _ _ rfl hsp
    obtain ⟨X, Y, hXY⟩ : ∃ X Y, plc (spotL (s.data.toList.take p)) = .complex .f64 X Y := ⟨_, _, rfl⟩
    rw [hXY] at cn C15h C17h
    clear hl hsp hXY
    go_enter Tryd.func6, Tryd.ntmps6
    go_wp2_with fail
    refine C1h.out.mono ?_
    rintro e w1 ⟨rfl, hb1⟩
    have HB := Lib.hid hb1
    clear hb1
    rcases hsel with ⟨rfl, rfl⟩ | ⟨rfl, hs⟩
    all_goals
      try rw [← hs]
      try clear hs
      go_wp2_with (first
        | (go_at_call 15; refine (C15h.out _ HB.out).mono ?_; rintro e w' ⟨rfl, hb⟩; have HB := Lib.hid (HB.out.trans (hb.mono HB.out.size)); clear hb)
        | (go_at_call 20; refine (C20h.out _).mono ?_; rintro e w' ⟨rfl, hb⟩; have HB := Lib.hid (HB.out.trans (hb.mono HB.out.size)); clear hb)
        | (go_at_call 17; refine (C17h.out _).mono ?_; rintro e w' ⟨rfl, rfl⟩))
      go_loopw [63] (fun i wr => i = .int .i64 0 ∧ Below W0.heap.size W0 wr) (fun i _ => 0)
      case atStart => exact ⟨rfl, HB.out⟩
      case round =>
        obtain ⟨rfl, hbr⟩ := hrel
        have HB := Lib.hid hbr
        clear hbr
        go_wp2_with (first
      | (go_at_call 16; refine (C16h.out _ HB.out).mono ?_; rintro e w' ⟨rfl, hb⟩; have HB := Lib.hid (HB.out.trans (hb.mono HB.out.size)); clear hb)
      | (go_at_call 18; refine (keyword_any _ _).mono ?_; rintro e w' ⟨rfl, hb⟩; have HB := Lib.hid (HB.out.trans (hb.mono HB.out.size)); clear hb)
      | (go_at_call 19; refine (isName_any _ (by assumption) _).mono ?_; rintro e w' ⟨rfl, hb⟩; have HB := Lib.hid (HB.out.trans (hb.mono HB.out.size)); clear hb)
      | (go_at_call 21; refine (keyword_ref _ _).mono ?_; rintro e w' ⟨rfl, rfl⟩)
      | (go_at_call 22; refine (isName_ref _ (by assumption) _).mono ?_; rintro e w' ⟨rfl, rfl⟩)
      | (go_at_call 14; refine (C0h.out _ HB.out).mono ?_; rintro e w' ⟨rfl, hb⟩; have HB := Lib.hid (HB.out.trans (hb.mono HB.out.size)); clear hb))
        go_ret
        exact ⟨rfl, HB.out⟩
  | good ts =>
    have C15h := Lib.hid (fun w (hw : Below W0.heap.size W0 w) => tokens_good s hl w (hE.below hw hE.size))
    have C20h := Lib.hid (fun w => reftok_good s hl w)
    have hss := lexAll_short hl
    rw [← size_length] at hss
    have HPos := Lib.hid (fun (i : Nat) (t : Tok) (h : ts[i]? = some t) => lexAll_pos hl t (List.mem_of_getElem? h))
    have hne := lexAll_len hl
    obtain ⟨n, hn⟩ : ∃ n, ts.length = n := ⟨_, rfl⟩
    rw [hn] at C15h C20h hne
    have HN := Lib.hid hn
    clear hl hn
    go_enter Tryd.func6, Tryd.ntmps6
    go_wp2_with fail
    refine C1h.out.mono ?_
    rintro e w1 ⟨rfl, hb1⟩
    have HB := Lib.hid hb1
    clear hb1
    rcases hsel with ⟨rfl, rfl⟩ | ⟨rfl, hs⟩
    all_goals
      try rw [← hs]
      try clear hs
      go_wp2_with fail
      refine (C15h.out _ HB.out).mono ?_
      rintro e w2 ⟨b1, o1, c1, rfl, hc1, hm1, hl1, ht1, hb⟩
      have HT1 := Lib.hid ht1
      have HB := Lib.hid (HB.out.trans (hb.mono HB.out.size))
      clear hb ht1
      go_wp2_with fail
      refine (C20h.out _).mono ?_
      rintro e w3 ⟨b2, o2, c2, rfl, hc2, hm2, hl2, ht2, hb⟩
      have HT2 := Lib.hid ht2
      have HT1 := Lib.hid (fun i t h => (HT1.out i t h).below hb hl1)
      have hl1 : b1 < w3.heap.size := Nat.lt_of_lt_of_le hl1 hb.size
      have HB := Lib.hid (HB.out.trans (hb.mono HB.out.size))
      clear hb ht2
      go_wp2_with fail
      go_loopw [63] (fun i wr => ∃ j : Nat, j ≤ n ∧ i = .int .i64 j ∧ Below w3.heap.size w3 wr) (fun i _ => n - (intOf i).toNat)
      case atStart => exact ⟨0, Nat.zero_le _, rfl, Below.refl _ _⟩
      case round =>
        obtain ⟨j, hj, rfl, hbr⟩ := hrel
        have hszr := hbr.size
        have HBR := Lib.hid hbr
        clear hbr
        by_cases hlt : j < n
        · obtain ⟨t, ht⟩ : ∃ t, ts[j]? = some t := ⟨ts[j]'(by rw [HN.out]; exact hlt), List.getElem?_eq_getElem _⟩
          have hA := (HT1.out j t ht).below HBR.out hl1
          have hD := (HT2.out j t ht).below HBR.out hl2
          have hpl := HPos.out j t ht
          rw [← size_length] at hpl
          have hsp := spot_small (s.data.toList.take t.pos) (by simp; omega)
          have cn := cpx_same _ _ rfl hsp
          have C17h := Lib.hid (fun w => ref_place s t.pos (by omega) hpl (by omega) w)
          obtain ⟨X, Y, hXY⟩ : ∃ X Y, plc (spotL (s.data.toList.take t.pos)) = .complex .f64 X Y := ⟨_, _, rfl⟩
          obtain ⟨a0, a1, a2, a3⟩ := hA
          obtain ⟨d0, d1, d2, d3⟩ := hD
          rw [hXY] at cn C17h a3
          have i1 : (0 : Int) ≤ (j : Int) := by omega
          have i2 : (j : Int) < (n : Int) := by omega
          have l1 : b1 < wr.heap.size := by omega
          have l2 : b2 < wr.heap.size := by omega
          clear ht hXY hsp hpl
          go_wp2_with fail
          go_quiet (exact Calls.quiet_of_same ((C17h.out _).mono fun e w' h => ⟨h.1, h.2.symm⟩))
          go_wp2_with fail
          go_roundw
          case rel => exact ⟨j + 1, by omega, by go_num, below_drewN HBR.out _⟩
          case measure => simp [intOf]; omega
        · have hz : ¬ (j : Int) < (n : Int) := by omega
          have HB := Lib.hid (HB.out.trans (HBR.out.mono HB.out.size))
          go_wp2_with (first
      | (go_at_call 16; refine (C16h.out _ HB.out).mono ?_; rintro e w' ⟨rfl, hb⟩; have HB := Lib.hid (HB.out.trans (hb.mono HB.out.size)); clear hb)
      | (go_at_call 18; refine (keyword_any _ _).mono ?_; rintro e w' ⟨rfl, hb⟩; have HB := Lib.hid (HB.out.trans (hb.mono HB.out.size)); clear hb)
      | (go_at_call 19; refine (isName_any _ (by assumption) _).mono ?_; rintro e w' ⟨rfl, hb⟩; have HB := Lib.hid (HB.out.trans (hb.mono HB.out.size)); clear hb)
      | (go_at_call 21; refine (keyword_ref _ _).mono ?_; rintro e w' ⟨rfl, rfl⟩)
      | (go_at_call 22; refine (isName_ref _ (by assumption) _).mono ?_; rintro e w' ⟨rfl, rfl⟩)
      | (go_at_call 14; refine (C0h.out _ HB.out).mono ?_; rintro e w' ⟨rfl, hb⟩; have HB := Lib.hid (HB.out.trans (hb.mono HB.out.size)); clear hb))
          go_ret
          exact ⟨rfl, HB.out⟩

theorem lexTells_walk (W0 : World) (hE : Env W0) (v : Value) (z : List Int) (hv : IntsAt W0 v z) (raw : ByteArray) (hraw : raw.size ≤ 140737488355328) (x : Bool) :
    Calls Tryd.prog 6 #[v, .string raw, .bool x] W0 fun e w' => e = .returned (.bool true) ∧ Below W0.heap.size W0 w' := by
  cases x with
  | true => exact lexTells_core W0 hE v z hv raw hraw true raw (by omega) (.inl ⟨rfl, rfl⟩)
  | false => exact lexTells_core W0 hE v z hv raw hraw false (textB raw z) (by have := textB_size raw z; have := hv.1; omega) (.inr ⟨rfl, rfl⟩)
end Go.Proofs.YtgkfmeccipgnjaaDoor
