/- LexNames: the walk. -/
import Derived.Test.YtgkfmeccipgnjaaDoorLt
import Derived.Test.YtgkfmeccipgnjaaDoorLk
namespace Go.Proofs.YtgkfmeccipgnjaaDoor
open Go.RowKit

theorem IntsAt.below {W W' : World} {v : Value} {zs : List Int} (h : IntsAt W v zs) (hb : Below W.heap.size W W') : IntsAt W' v zs := by
  obtain ⟨h1, h2, A, c, hv, hc, h⟩ := h
  refine ⟨h1, h2, A, c, hv, hc, ?_⟩
  rcases h with h | ⟨b, off, hA, hlt, h⟩
  · exact .inl h
  · exact .inr ⟨b, off, hA, Nat.lt_of_lt_of_le hlt hb.size, fun j hj => (hb.cell (p := ⟨b, off + j, none⟩) hlt).trans (h j hj)⟩

/-- What the law asks of a text: is it one word, and no keyword? -/
theorem one_of_lex (s : ByteArray) (hm : s.size ≤ maxLen) (W : World) (hE : Env W) :
    Calls Tryd.prog 15 #[.string s] W fun e W' => Below W.heap.size W W' ∧
      ((isNameB s = false ∧ ∃ x y, e = .returned (.tuple #[.slice none 0 0, .complex .f64 x y, .int .i64 2])) ∨
       (∃ A n c, e = .returned (.tuple #[.slice A n c, .complex .f64 0 0, .int .i64 0]) ∧ n ≤ c ∧
         ((n ≠ 2 ∧ isNameB s = false) ∨
          (n = 2 ∧ ∃ b off, A = some ⟨b, off, none⟩ ∧ ∃ (k : Nat) (tx : ByteArray), W'.cell? ⟨b, off, none⟩ = some (.int .i64 k) ∧ W'.cell? ⟨b, off + 1, none⟩ = some (.string tx) ∧
            ((¬ k = 1 ∧ isNameB s = false) ∨ (k = 1 ∧ ¬ tx = s ∧ isNameB s = false) ∨ (k = 1 ∧ tx = s ∧ isNameB s = !keywordB s)))))) := by
  refine (tokens_any s hm W hE).mono fun e W' ⟨hb, h⟩ => ⟨hb, ?_⟩
  have hsz := size_length s
  have hname : isNameB s = true → s.data.toList ≠ [] ∧ wordL s.data.toList = s.data.toList.length := by
    intro hn
    simp only [isNameB, Bool.and_eq_true, bne_iff_ne, ne_eq, beq_iff_eq] at hn
    refine ⟨fun e => hn.1.1 ?_, by omega⟩
    rw [hsz, e]; rfl
  cases hl : lexAll s.data.toList with
  | bad p =>
    rw [hl] at h
    left
    refine ⟨?_, _, _, h⟩
    cases hi : isNameB s with
    | false => rfl
    | true =>
      obtain ⟨h1, h2⟩ := hname hi
      rw [lex_word h1 h2] at hl; cases hl
  | good ts =>
    rw [hl] at h
    obtain ⟨v, he, A, c, rfl, hc, _, hcell⟩ := h
    right
    refine ⟨A, ts.length, c, he, hc, ?_⟩
    by_cases h2 : ts.length = 2
    · right
      refine ⟨h2, ?_⟩
      rcases hcell with h0 | ⟨b, off, hA, _, hcell⟩
      · omega
      · refine ⟨b, off, hA, ?_⟩
        match ts, h2 with
        | [t, u], _ =>
          refine ⟨t.kind, ⟨t.text.toArray⟩, hcell 0 _ rfl, hcell 1 _ rfl, ?_⟩
          by_cases hk : t.kind = 1
          · by_cases ht : t.text = s.data.toList
            · right; right
              refine ⟨hk, (bytes_of_list ht.symm).symm, ?_⟩
              obtain ⟨h1, h3⟩ := word_lex hl hk ht
              have h4 : s.size ≠ 0 := by
                rw [hsz]; intro e; exact h1 (List.eq_nil_of_length_eq_zero e)
              simp only [isNameB]
              rw [h3, ← hsz]
              simp [h4]
            · right; left
              refine ⟨hk, fun e => ht ?_, ?_⟩
              · rw [← e]
              · cases hi : isNameB s with
                | false => rfl
                | true =>
                  obtain ⟨h1, h3⟩ := hname hi
                  rw [lex_word h1 h3] at hl
                  simp only [LexR.good.injEq, List.cons.injEq] at hl
                  exact absurd (by rw [← hl.1]) ht
          · left
            refine ⟨hk, ?_⟩
            cases hi : isNameB s with
            | false => rfl
            | true =>
              obtain ⟨h1, h3⟩ := hname hi
              rw [lex_word h1 h3] at hl
              simp only [LexR.good.injEq, List.cons.injEq] at hl
              exact absurd (by rw [← hl.1]) hk
    · left
      refine ⟨h2, ?_⟩
      cases hi : isNameB s with
      | false => rfl
      | true =>
        obtain ⟨h1, h3⟩ := hname hi
        rw [lex_word h1 h3] at hl
        simp only [LexR.good.injEq] at hl
        rw [← hl] at h2; simp at h2

theorem add_zero (a : Addr) : a.add 0 = a := by unfold Addr.add; simp
theorem map_add_zero (A : Option Addr) : A.map (·.add 0) = A := by cases A <;> simp [add_zero]

theorem elem22 : Tryd.prog.elem 22 = 3 := by kernel_rfl
theorem under22 : Tryd.prog.underlying 22 = some (.slice (Tryd.prog.elem 22)) := by rw [elem22]; exact Tryd.underlying22
theorem slice_head (A : Option Addr) (n c k : Nat) (h : k ≤ c) (Z : World) :
    (Instr.slice 22 (.slice A n c) none (some (.int .i64 (k : Int))) none).run Tryd.prog Z = .ok (.slice A k c) Z := by
  rw [run_slice_h Z 22 A n c under22 .i64 k (by omega) (by omega), elem22]
  simp [sliced, Tryd.sizeOf3, map_add_zero]

theorem IntsAt.head {W : World} {A : Option Addr} {n c : Nat} {zs : List Int} (h : IntsAt W (.slice A n c) zs) (k : Nat) (hk : k ≤ n) : IntsAt W (.slice A k c) (zs.take k) := by
  obtain ⟨h1, h2, A', c', hv, hc, h⟩ := h
  injection hv with e1 e2 e3
  subst e1 e3
  have hl : (zs.take k).length = k := by simp; omega
  refine ⟨by rw [hl]; omega, fun j => ?_, A, c, by rw [hl], by rw [hl]; omega, ?_⟩
  · by_cases hj : j < k
    · have : (zs.take k).getD j 0 = zs.getD j 0 := by simp [List.getD, hj]
      rw [this]; exact h2 j
    · have : (zs.take k).getD j 0 = 0 := by simp only [List.getD]; rw [List.getElem?_eq_none (by omega)]; rfl
      rw [this]; omega
  · rw [hl]
    rcases h with h | ⟨b, off, hA, hlt, h⟩
    · left; omega
    · exact .inr ⟨b, off, hA, hlt, fun j hj => by rw [h j (by omega)]; simp [List.getD, hj]⟩

set_option maxRecDepth 100000 in
set_option maxHeartbeats 2000000 in
theorem lexNames_walk (W0 : World) (hE : Env W0) (v : Value) (z : List Int) (hv : IntsAt W0 v z) (raw : ByteArray) (hraw : raw.size ≤ 140737488355328) :
    Calls Tryd.prog 7 #[v, .string raw] W0 fun e w' => e = .returned (.bool true) ∧ Below W0.heap.size W0 w' := by
  have hrm : raw.size ≤ maxLen := by unfold maxLen; omega
  obtain ⟨A, c, rfl, hc⟩ : ∃ A c, v = .slice A z.length c ∧ z.length ≤ c := by
    obtain ⟨_, _, A, c, hv, hc, _⟩ := hv
    exact ⟨A, c, hv, hc⟩
  obtain ⟨n, hn⟩ : ∃ n, n = z.length := ⟨_, rfl⟩
  obtain ⟨k, hk⟩ : ∃ k : Nat, min (z.length : Int) 1 = k := ⟨min z.length 1, by omega⟩
  have hkn : k ≤ z.length := by omega
  have hkc : k ≤ c := by omega
  have hz47 := hv.1
  have hsl := fun Z => slice_head A z.length c k hkc Z
  obtain ⟨s0, hs0⟩ : ∃ s0, s0 = textB raw z := ⟨_, rfl⟩
  obtain ⟨s2, hs2⟩ : ∃ s2, s2 = textB ⟨#[]⟩ (z.take k) := ⟨_, rfl⟩
  have hl0 : s0.size ≤ maxLen := by rw [hs0]; have := textB_size raw z; unfold maxLen; omega
  have hl2 : s2.size ≤ maxLen := by rw [hs2]; have := textB_size ⟨#[]⟩ (z.take k); simp at this; unfold maxLen; omega
  have cA : ∀ dd os, Calls Tryd.prog 14 #[.slice A z.length c, .string raw] (Go.Sort.grow (Go.redrawn W0 dd) os) fun e w'' => e = .returned (.string s0) ∧ ∃ q : Go.Regrown, w'' = Go.Sort.grow (Go.redrawn W0 q.d) q.os := fun dd os =>
    Go.Calls.regrown_of (by rw [hs0]; exact text2_any _ z raw hrm _ (hv.below (Go.below_regrown W0 dd os)))
  have cB : ∀ dd os, Calls Tryd.prog 14 #[.slice A k c, .string ⟨#[]⟩] (Go.Sort.grow (Go.redrawn W0 dd) os) fun e w'' => e = .returned (.string s2) ∧ ∃ q : Go.Regrown, w'' = Go.Sort.grow (Go.redrawn W0 q.d) q.os := fun dd os =>
    Go.Calls.regrown_of (by rw [hs2]; exact text2_any _ (z.take k) ⟨#[]⟩ (by unfold maxLen; decide) _ ((hv.head k hkn).below (Go.below_regrown W0 dd os)))
  clear hs0 hs2 hn
  go_enter Tryd.func7, Tryd.ntmps7
  go_wp2
  refine Go.wp_region_quiet_below (by kernel_rfl) (by kernel_rfl) ?_
  repeat (quiet_step (first | (with_reducible exact cA _ _) | (with_reducible exact cB _ _)))
  refine wpQuiet_nil ?_
  intro _ hw'
  obtain ⟨⟨dq, osq⟩, hw''⟩ := hw'
  subst hw''
  have hb := Go.below_regrown W0 dq osq
  obtain ⟨w1, hw1⟩ : ∃ w1, w1 = Go.Sort.grow (Go.redrawn W0 dq) osq := ⟨_, rfl⟩
  rw [← hw1] at hb ⊢
  clear cA cB hw1 hsl hv hk
  have hidx : ∀ j : Nat, j < 3 → ∃ sj : ByteArray, sj.size ≤ maxLen ∧ ∀ Z : World, (Instr.index 43 (.agg #[.string s0, .string raw, .string s2]) (.int .i64 (j : Int))).run Tryd.prog Z = .ok (.string sj) Z := by
    intro j hj
    match j, hj with
    | 0, _ => exact ⟨s0, hl0, fun Z => by kernel_rfl⟩
    | 1, _ => exact ⟨raw, hrm, fun Z => by kernel_rfl⟩
    | 2, _ => exact ⟨s2, hl2, fun Z => by kernel_rfl⟩
  have HI := Lib.hid hidx
  clear hidx
  go_wp2
  go_loopw [22] (fun i wr => ∃ j : Nat, j ≤ 3 ∧ i = .int .i64 j ∧ Below W0.heap.size W0 wr) (fun i _ => 3 - (intOf i).toNat)
  case atStart => exact ⟨0, by omega, rfl, hb⟩
  case round =>
    obtain ⟨j, hj, rfl, hbr⟩ := hrel
    have HB := Lib.hid hbr
    have HE := Lib.hid (hE.below hbr hE.size)
    clear hbr hb
    by_cases hlt : j < 3
    · obtain ⟨sj, hsj, hix⟩ := HI.out j hlt
      have C15 := Lib.hid (one_of_lex sj hsj wr HE.out)
      go_wp2_with fail
      refine C15.out.mono ?_
      rintro e w2 ⟨hb2, hres⟩
      have HB2 := Lib.hid (HB.out.trans (hb2.mono HB.out.size))
      clear hb2
      rcases hres with ⟨hn, x, y, rfl⟩ | ⟨A', n', c', rfl, hnc, ⟨hn2, hn⟩ | ⟨rfl, b, off, rfl, k', tx, hc0, hc1, ⟨hk1, hn⟩ | ⟨rfl, htx, hn⟩ | ⟨rfl, rfl, hn⟩⟩⟩
      · go_wp2_with (go_at_call 19; refine (isName_any _ hsj _).mono ?_; rintro e w3 ⟨rfl, hb3⟩; have HB3 := Lib.hid (HB2.out.trans (hb3.mono HB2.out.size)); clear hb3)
        go_roundw
        case rel => exact ⟨j + 1, by omega, by go_num, HB3.out⟩
        case measure => simp [intOf]; omega
      · have h2 : ((n' : Int) == 2) = false := by simp; omega
        go_wp2_with (go_at_call 19; refine (isName_any _ hsj _).mono ?_; rintro e w3 ⟨rfl, hb3⟩; have HB3 := Lib.hid (HB2.out.trans (hb3.mono HB2.out.size)); clear hb3)
        go_roundw
        case rel => exact ⟨j + 1, by omega, by go_num, HB3.out⟩
        case measure => simp [intOf]; omega
      · have h2 : ((k' : Int) == 1) = false := by simp; omega
        go_wp2_with (go_at_call 19; refine (isName_any _ hsj _).mono ?_; rintro e w3 ⟨rfl, hb3⟩; have HB3 := Lib.hid (HB2.out.trans (hb3.mono HB2.out.size)); clear hb3)
        go_roundw
        case rel => exact ⟨j + 1, by omega, by go_num, HB3.out⟩
        case measure => simp [intOf]; omega
      · have h2 : (tx.toList == sj.toList) = false := (Lib.bytes_beq_false_iff _ _).mpr htx
        go_wp2_with (go_at_call 19; refine (isName_any _ hsj _).mono ?_; rintro e w3 ⟨rfl, hb3⟩; have HB3 := Lib.hid (HB2.out.trans (hb3.mono HB2.out.size)); clear hb3)
        go_roundw
        case rel => exact ⟨j + 1, by omega, by go_num, HB3.out⟩
        case measure => simp [intOf]; omega
      · go_wp2_with (first | (go_at_call 18; refine (keyword_any _ _).mono ?_; rintro e w3 ⟨rfl, hb3⟩; have HB3 := Lib.hid (HB2.out.trans (hb3.mono HB2.out.size)); clear hb3) | (go_at_call 19; refine (isName_any _ hsj _).mono ?_; rintro e w4 ⟨rfl, hb4⟩; have HB4 := Lib.hid (HB3.out.trans (hb4.mono HB3.out.size)); clear hb4))
        go_roundw
        case rel => exact ⟨j + 1, by omega, by go_num, HB4.out⟩
        case measure => simp [intOf]; omega
    · have C16 := Lib.hid (known2 wr HE.out)
      go_wp2_with (first | (go_at_call 16; refine C16.out.mono ?_; rintro e w2 ⟨rfl, hb2⟩; have HB2 := Lib.hid (HB.out.trans (hb2.mono HB.out.size)); clear hb2) | (go_at_call 23; refine (pick_any _ _ (by decide) (by decide) _).mono ?_; rintro e w3 ⟨rfl, rfl⟩))
      go_ret
      exact ⟨ret_bool (by simp; omega), HB2.out⟩
end Go.Proofs.YtgkfmeccipgnjaaDoor
