/- Contracts of expr.Print, expr.Right. -/
import Derived.Test.YtgkfmeccipgnjaaDoorEi
import Derived.Test.YtgkfmeccipgnjaaDoorEj
import Derived.Test.YtgkfmeccipgnjaaDoorEk
import Derived.Test.YtgkfmeccipgnjaaDoorLm
namespace Go.Proofs.YtgkfmeccipgnjaaDoor
open Go.RowKit

theorem lexF_end : ∀ (f : Nat) (l : List UInt8) (off : Nat) (ts : List Tok), lexF f l off = .good ts → ∃ pre p, ts = pre ++ [⟨4, [], 0, p⟩] ∧ ∀ t ∈ pre, t.kind ≠ 4 ∧ t.text.length ≤ l.length := by
  intro f
  induction f with
  | zero => intro l off ts h; cases h
  | succ f ih =>
    intro l off ts h
    rw [lexF] at h
    have hb := runL_le blankB l
    cases hd : l.drop (runL blankB l) with
    | nil =>
      rw [hd] at h
      simp only [LexR.good.injEq] at h
      exact ⟨[], _, by rw [← h]; rfl, by simp⟩
    | cons c r =>
      have hlen : (c :: r).length ≤ l.length := by rw [← hd]; simp
      rw [hd] at h
      simp only at h
      by_cases h35 : c.toNat = 35
      · rw [if_pos h35] at h
        obtain ⟨pre, p, h1, h2⟩ := ih _ _ _ h
        exact ⟨pre, p, h1, fun t ht => ⟨(h2 t ht).1, by have := (h2 t ht).2; simp only [List.length_drop] at this; omega⟩⟩
      · rw [if_neg h35] at h
        cases hta : tokAt (c :: r) with
        | none => rw [hta] at h; cases h
        | some q =>
          obtain ⟨k, size, n⟩ := q
          rw [hta] at h
          simp only at h
          cases hr : lexF f ((c :: r).drop size) (off + runL blankB l + size) with
          | bad p => rw [hr] at h; cases h
          | good us =>
            rw [hr] at h
            simp only [LexR.pre, LexR.good.injEq] at h
            obtain ⟨pre, p, h1, h2⟩ := ih _ _ _ hr
            refine ⟨_ :: pre, p, by rw [← h, h1]; rfl, fun t ht => ?_⟩
            simp only [List.mem_cons] at ht
            rcases ht with rfl | ht
            · exact ⟨tokAt_kind hta, by simp only [List.length_take]; omega⟩
            · exact ⟨(h2 t ht).1, by have := (h2 t ht).2; simp only [List.length_drop] at this; omega⟩
theorem lex_endok {L : List UInt8} {ts : List Tok} (h : lexAll L = .good ts) : EndOk ts ∧ ∃ pre p, ts = pre ++ [⟨4, [], 0, p⟩] ∧ ∀ t ∈ pre, t.kind ≠ 4 := by
  have hs := lexAll_short' h
  rw [lexAll_eq hs] at h
  obtain ⟨pre, p, rfl, h2⟩ := lexF_end _ _ _ _ h
  refine ⟨⟨fun i t ht hk => ?_, fun i t ht => ?_⟩, pre, p, rfl, fun t ht => (h2 t ht).1⟩
  · have hi := (List.getElem?_eq_some_iff.mp ht).1
    rcases Nat.lt_or_ge i pre.length with hlt | hge
    · simp; omega
    · rw [List.getElem?_append_right hge] at ht
      have : i - pre.length = 0 := by simp at hi; omega
      rw [this] at ht
      simp at ht
      rw [← ht] at hk; simp at hk
  · have hm := List.mem_of_getElem? ht
    simp only [List.mem_append, List.mem_singleton] at hm
    rcases hm with hm | rfl
    · exact Nat.le_trans (h2 t hm).2 hs
    · simp

/-- A list of tokens that ends in the end, and has no other. -/
def Ended (l : List Tok) : Prop := ∃ pre u, l = pre ++ [u] ∧ u.kind = 4 ∧ ∀ t ∈ pre, t.kind ≠ 4
theorem Ended.tail {t : Tok} {more : List Tok} (h : Ended (t :: more)) (hk : t.kind ≠ 4) : Ended more := by
  obtain ⟨pre, u, h1, h2, h3⟩ := h
  cases pre with
  | nil => simp at h1; exact absurd (by rw [h1.1]; exact h2) hk
  | cons a pre => simp at h1; exact ⟨pre, u, h1.2, h2, fun x hx => h3 x (by simp [hx])⟩
theorem Ended.ne {l : List Tok} (h : Ended l) : l ≠ [] := by
  obtain ⟨pre, u, h1, _⟩ := h
  rw [h1]; simp
def Keeps (F : List Tok → ERes) : Prop := ∀ l e r, Ended l → F l = .ok e r → Ended r
theorem loop_keeps {level : Nat} {next : List Tok → ERes} (hn : Keeps next) : ∀ (f : Nat) (e : Ex) (l : List Tok) (e' : Ex) (r : List Tok), Ended l → loopF level next f e l = .ok e' r → Ended r := by
  intro f
  induction f with
  | zero => intro e l e' r hl h; simp only [loopF, ERes.ok.injEq] at h; rw [← h.2]; exact hl
  | succ f ih =>
    intro e l e' r hl h
    cases l with
    | nil => exact absurd rfl hl.ne
    | cons t more =>
      simp only [loopF] at h
      by_cases ho : opP level t = 0
      · rw [if_pos ho] at h; simp only [ERes.ok.injEq] at h; rw [← h.2]; exact hl
      · rw [if_neg ho] at h
        have hk := (sign_of_op ho).2.2.1
        cases hx : next more with
        | bad q => rw [hx] at h; cases h
        | ok e2 q =>
          rw [hx] at h
          have hq := hn _ _ _ (hl.tail (by omega)) hx
          simp only at h
          split at h
          · simp only [ERes.ok.injEq] at h; rw [← h.2]; exact hq
          · exact ih _ _ _ _ hq h
theorem lev_keeps {F : List Tok → ERes} (hF : Keeps F) : ∀ up, Keeps (levF F up) := by
  intro up
  induction up with
  | zero => exact hF
  | succ up ih =>
    intro l e r hl h
    rw [levF] at h
    cases hx : levF F up l with
    | bad q => rw [hx] at h; cases h
    | ok e1 q => rw [hx] at h; exact loop_keeps ih _ _ _ _ _ (ih _ _ _ hl hx) h
theorem fac_keeps : ∀ d, Keeps (facF d) := by
  have key : ∀ (sub : Option (List Tok → ERes)), (∀ F, sub = some F → Keeps F) → Keeps (facStep sub) := by
    intro sub hs l e r hl h
    cases l with
    | nil => cases h
    | cons t more =>
      simp only [facStep] at h
      by_cases h2 : t.kind = 2
      · rw [if_pos h2] at h; simp only [ERes.ok.injEq] at h; rw [← h.2]; exact hl.tail (by omega)
      · rw [if_neg h2] at h
        by_cases h1 : t.kind = 1 ∧ nameL t.text = true
        · rw [if_pos h1] at h; simp only [ERes.ok.injEq] at h; rw [← h.2]; exact hl.tail (by omega)
        · rw [if_neg h1] at h
          cases sub with
          | none => cases h
          | some F =>
            simp only at h
            by_cases h3 : t.kind = 3 ∧ t.text = [45]
            · rw [if_pos h3] at h
              cases hx : F more with
              | bad q => rw [hx] at h; cases h
              | ok e1 q =>
                rw [hx] at h
                simp only [ERes.ok.injEq] at h
                rw [← h.2]; exact hs F rfl _ _ _ (hl.tail (by omega)) hx
            · rw [if_neg h3] at h
              by_cases h4 : t.kind = 3 ∧ t.text = [40]
              · rw [if_pos h4] at h
                cases hx : levF F 3 more with
                | bad q => rw [hx] at h; cases h
                | ok e1 q =>
                  rw [hx] at h
                  have hq := lev_keeps (hs F rfl) 3 _ _ _ (hl.tail (by omega)) hx
                  cases q with
                  | nil => cases h
                  | cons u q =>
                    simp only at h
                    split at h
                    · rename_i h5
                      simp only [ERes.ok.injEq] at h
                      rw [← h.2]; exact hq.tail (by omega)
                    · cases h
              · rw [if_neg h4] at h; cases h
  intro d
  induction d with
  | zero => exact key none (fun F hF => by cases hF)
  | succ d ih => exact key _ (fun F hF => by injection hF with hF; rw [← hF]; exact ih)
theorem read_keeps : Keeps readF := lev_keeps (fac_keeps 8) 3
theorem lex_ended {L : List UInt8} {ts : List Tok} (h : lexAll L = .good ts) : Ended ts := by
  obtain ⟨pre, p, h1, h2⟩ := (lex_endok h).2
  exact ⟨pre, _, h1, rfl, h2⟩

/-- lex.Tokens of a text that has some. -/
theorem lex_good (s : ByteArray) {ts : List Tok} (h : lexAll s.data.toList = .good ts) (w : World) (hE : Env w) :
    Calls Tryd.prog 15 #[.string s] w fun e w' => ∃ b off c, e = .returned (.tuple #[.slice (some ⟨b, off, none⟩) ts.length c, .complex .f64 0 0, .int .i64 0]) ∧ ToksAt w' b off c s ts ∧ Below w.heap.size w w' ∧ w.heap.size ≤ w'.heap.size := by
  have hs := lexAll_short' h
  refine (tokens_any s (by rw [size_length]; unfold maxLen; omega) w hE).mono fun e w' ⟨hb, hp⟩ => ?_
  rw [h] at hp
  obtain ⟨v, he, hS⟩ := hp
  obtain ⟨pre, p, hts, _⟩ := (lex_endok h).2
  obtain ⟨b, off, c, rfl, h1, h2, h3, h4⟩ := toks_at hS (by rw [hts]; simp)
  exact ⟨b, off, c, he, ⟨h1, h2, h3, h4⟩, hb, hb.size⟩
/-- lex.Tokens of a text that has none. -/
theorem lex_none (s : ByteArray) (hs : s.size ≤ maxLen) {p : Nat} (h : lexAll s.data.toList = .bad p) (w : World) (hE : Env w) :
    Calls Tryd.prog 15 #[.string s] w fun e w' => ∃ X Y, e = .returned (.tuple #[.slice none 0 0, .complex .f64 X Y, .int .i64 2]) ∧ Below w.heap.size w w' := by
  refine (tokens_any s hs w hE).mono fun e w' ⟨hb, hp⟩ => ?_
  rw [h] at hp
  exact ⟨_, _, hp, hb⟩

/-- What expr.Print needs of an expression. -/
structure PrOk (ok : Nat → Prop) (w : World) (e : Ex) (A : Option Addr) (c : Nat) : Prop where
  wf : wfE e
  at_ : OfAt ok w e (.slice A e.len c)
  size : plen e 0 ≤ 1000000000

set_option maxRecDepth 100000 in
set_option maxHeartbeats 4000000 in
theorem print_nolex (e : Ex) (ok : Nat → Prop) (A : Option Addr) (c : Nat) (w : World) (hO : PrOk ok w e A c) (hE : Env w) {p : Nat} (hx : lexAll (printF e 0) = .bad p) :
    Calls Tryd.prog 25 #[.agg #[.int .i64 e.kind, .int .i64 e.num, .string e.nm, .slice A e.len c]] w fun e' w' => e' = .returned (.string ⟨#[]⟩) ∧ Below w.heap.size w w' := by
  obtain ⟨S, hS⟩ : ∃ S : ByteArray, S = ⟨(printF e 0).toArray⟩ := ⟨_, rfl⟩
  have hSz : S.size ≤ 1000000000 := by rw [hS, size_length]; exact hO.size
  have hx' : lexAll S.data.toList = .bad p := by rw [hS]; exact hx
  have P1 := fun (W : World) (hW : Below w.heap.size w W) => printed_any e ok W _ 0 hO.wf (hO.at_.below hW (Nat.le_refl _)) hO.size (hE.below hW hE.size)
  rw [← hS] at P1
  have HP1 := Lib.hid P1
  have HL := Lib.hid (fun (W : World) (hW : Below w.heap.size w W) => lex_none S (by unfold maxLen; omega) hx' W (hE.below hW hE.size))
  clear P1 hS hx hx' hO hE
  go_enter Tryd.func25, Tryd.ntmps25
  go_wp2_with fail
  refine (HP1.out _ (by exact (Below.refl _ _).alloc (Nat.le_refl _) _)).mono ?_
  rintro e1 w1 ⟨rfl, hb1⟩
  have HB1 := Lib.hid ((Below.refl w.heap.size w).alloc (Nat.le_refl _) _ |>.trans (hb1.mono (by simp)))
  clear hb1
  go_wp2_with fail
  refine (HL.out _ HB1.out).mono ?_
  rintro e2 w2 ⟨X, Y, rfl, hb2⟩
  have HB2 := Lib.hid (HB1.out.trans (hb2.mono HB1.out.size))
  clear hb2
  go_wp2_with fail
  go_ret
  exact ⟨rfl, HB2.out⟩
-- GENERATED

set_option maxRecDepth 100000 in
set_option maxHeartbeats 4000000 in
theorem print_noread (e : Ex) (ok : Nat → Prop) (A : Option Addr) (c : Nat) (w : World) (hO : PrOk ok w e A c) (hE : Env w) {ts : List Tok} (hx : lexAll (printF e 0) = .good ts) {r : List Tok} (hr : readF ts = .bad r) :
    Calls Tryd.prog 25 #[.agg #[.int .i64 e.kind, .int .i64 e.num, .string e.nm, .slice A e.len c]] w fun e' w' => e' = .returned (.string ⟨#[]⟩) ∧ Below w.heap.size w w' := by
  obtain ⟨S, hS⟩ : ∃ S : ByteArray, S = ⟨(printF e 0).toArray⟩ := ⟨_, rfl⟩
  have hSz : S.size ≤ 1000000000 := by rw [hS, size_length]; exact hO.size
  have hx' : lexAll S.data.toList = .good ts := by rw [hS]; exact hx
  have P1 := fun (W : World) (hW : Below w.heap.size w W) => printed_any e ok W _ 0 hO.wf (hO.at_.below hW (Nat.le_refl _)) hO.size (hE.below hW hE.size)
  rw [← hS] at P1
  have HP1 := Lib.hid P1
  have HL := Lib.hid (fun (W : World) (hW : Below w.heap.size w W) => lex_good S hx' W (hE.below hW hE.size))
  obtain ⟨hEnd, pre, pp, hts, _⟩ := lex_endok hx
  have hlen : 0 < ts.length := by rw [hts]; simp
  have HEnd := Lib.hid hEnd
  have HR := Lib.hid hr
  have HO := Lib.hid hO
  have HS := Lib.hid hS

  clear P1 hS hx hx' hO hE hr hts hEnd
  go_enter Tryd.func25, Tryd.ntmps25
  go_wp2_with fail
  refine (HP1.out _ (by exact (Below.refl _ _).alloc (Nat.le_refl _) _)).mono ?_
  rintro e1 w1 ⟨rfl, hb1⟩
  have HB1 := Lib.hid ((Below.refl w.heap.size w).alloc (Nat.le_refl _) (.cells #[.int .i64 e.kind, .int .i64 e.num, .string e.nm, .slice A e.len c] 48) |>.trans (hb1.mono (by simp)))
  have HC1 := Lib.hid (show w1.heap[w.heap.size]? = some (.cells #[.int .i64 e.kind, .int .i64 e.num, .string e.nm, .slice A e.len c] 48 (0, 0)) from (hb1.block _ (by simp)).trans (heap_alloc_new _ _))
  have hz1 : w.heap.size < w1.heap.size := by have := hb1.size; simp at this; omega
  clear hb1
  go_wp2_with fail
  refine (HL.out _ HB1.out).mono ?_
  rintro e2 w2 ⟨b, off, cc, rfl, hT, hb2, hz2⟩
  have HB2 := Lib.hid (HB1.out.trans (hb2.mono HB1.out.size))
  have HC2 := Lib.hid ((hb2.block _ hz1).trans HC1.out)
  have HT := Lib.hid hT
  clear hb2 hT HB1 HC1
  go_wp2_with fail
  refine (read_any w2 b off cc S ts HT.out HEnd.out 0 hlen).mono ?_
  rintro e3 w3 ⟨x, sl, q, okb, rfl, hO3, hB3, hq, hres⟩
  rw [List.drop_zero, HR.out] at hres
  obtain ⟨D, dc, rfl, hd1, hd2⟩ := hO3.slice
  have HO3 := Lib.hid hO3
  have HB3 := Lib.hid (HB2.out.trans (hB3.mono HB2.out.size))
  have HC3 := Lib.hid ((hB3.block _ (by omega)).trans HC2.out)
  have HT3 := Lib.hid (HT.out.below hB3 HT.out.lt)
  have hz3 := hB3.size
  clear hO3 hB3
  obtain ⟨rfl, rfl, hdr⟩ := hres
  have HDR := Lib.hid hdr
  clear hdr
  go_wp2_with fail
  go_ret
  exact ⟨rfl, HB3.out.alloc (by omega) _⟩

set_option maxRecDepth 100000 in
set_option maxHeartbeats 4000000 in
theorem print_more (e : Ex) (ok : Nat → Prop) (A : Option Addr) (c : Nat) (w : World) (hO : PrOk ok w e A c) (hE : Env w) {ts : List Tok} (hx : lexAll (printF e 0) = .good ts) {t : Tok} {y : Ex} {r : List Tok} (hr : readF ts = .ok y (t :: r)) (h4 : t.kind ≠ 4) :
    Calls Tryd.prog 25 #[.agg #[.int .i64 e.kind, .int .i64 e.num, .string e.nm, .slice A e.len c]] w fun e' w' => e' = .returned (.string ⟨#[]⟩) ∧ Below w.heap.size w w' := by
  obtain ⟨S, hS⟩ : ∃ S : ByteArray, S = ⟨(printF e 0).toArray⟩ := ⟨_, rfl⟩
  have hSz : S.size ≤ 1000000000 := by rw [hS, size_length]; exact hO.size
  have hx' : lexAll S.data.toList = .good ts := by rw [hS]; exact hx
  have P1 := fun (W : World) (hW : Below w.heap.size w W) => printed_any e ok W _ 0 hO.wf (hO.at_.below hW (Nat.le_refl _)) hO.size (hE.below hW hE.size)
  rw [← hS] at P1
  have HP1 := Lib.hid P1
  have HL := Lib.hid (fun (W : World) (hW : Below w.heap.size w W) => lex_good S hx' W (hE.below hW hE.size))
  obtain ⟨hEnd, pre, pp, hts, _⟩ := lex_endok hx
  have hlen : 0 < ts.length := by rw [hts]; simp
  have HEnd := Lib.hid hEnd
  have HR := Lib.hid hr
  have HO := Lib.hid hO
  have HS := Lib.hid hS
  have gk : ((t.kind : Int) != 4) = true := by simp; omega
  clear h4
  clear P1 hS hx hx' hO hE hr hts hEnd
  go_enter Tryd.func25, Tryd.ntmps25
  go_wp2_with fail
  refine (HP1.out _ (by exact (Below.refl _ _).alloc (Nat.le_refl _) _)).mono ?_
  rintro e1 w1 ⟨rfl, hb1⟩
  have HB1 := Lib.hid ((Below.refl w.heap.size w).alloc (Nat.le_refl _) (.cells #[.int .i64 e.kind, .int .i64 e.num, .string e.nm, .slice A e.len c] 48) |>.trans (hb1.mono (by simp)))
  have HC1 := Lib.hid (show w1.heap[w.heap.size]? = some (.cells #[.int .i64 e.kind, .int .i64 e.num, .string e.nm, .slice A e.len c] 48 (0, 0)) from (hb1.block _ (by simp)).trans (heap_alloc_new _ _))
  have hz1 : w.heap.size < w1.heap.size := by have := hb1.size; simp at this; omega
  clear hb1
  go_wp2_with fail
  refine (HL.out _ HB1.out).mono ?_
  rintro e2 w2 ⟨b, off, cc, rfl, hT, hb2, hz2⟩
  have HB2 := Lib.hid (HB1.out.trans (hb2.mono HB1.out.size))
  have HC2 := Lib.hid ((hb2.block _ hz1).trans HC1.out)
  have HT := Lib.hid hT
  clear hb2 hT HB1 HC1
  go_wp2_with fail
  refine (read_any w2 b off cc S ts HT.out HEnd.out 0 hlen).mono ?_
  rintro e3 w3 ⟨x, sl, q, okb, rfl, hO3, hB3, hq, hres⟩
  rw [List.drop_zero, HR.out] at hres
  obtain ⟨D, dc, rfl, hd1, hd2⟩ := hO3.slice
  have HO3 := Lib.hid hO3
  have HB3 := Lib.hid (HB2.out.trans (hB3.mono HB2.out.size))
  have HC3 := Lib.hid ((hB3.block _ (by omega)).trans HC2.out)
  have HT3 := Lib.hid (HT.out.below hB3 HT.out.lt)
  have hz3 := hB3.size
  clear hO3 hB3
  obtain ⟨rfl, rfl, hdr⟩ := hres
  obtain ⟨hq1, _⟩ := drop_cons hdr
  have a0 := (HT3.out.tok q t hq1).kind
  have l3 := HT3.out.lt
  have hnc := HT3.out.le
  have hcc := HT3.out.cap
  have i1 : (0 : Int) ≤ (q : Int) := by omega
  have i2 : (q : Int) < (ts.length : Int) := by omega
  have m0 : w3.cell? ⟨w.heap.size, 0, none⟩ = some (.int .i64 e.kind) := cell_of_row _ _ 0 _ 48 (0, 0) HC3.out
  have m1 : w3.cell? ⟨w.heap.size, 1, none⟩ = some (.int .i64 e.num) := cell_of_row _ _ 1 _ 48 (0, 0) HC3.out
  have m2 : w3.cell? ⟨w.heap.size, 2, none⟩ = some (.string e.nm) := cell_of_row _ _ 2 _ 48 (0, 0) HC3.out
  have m3 : w3.cell? ⟨w.heap.size, 3, none⟩ = some (.slice A e.len c) := cell_of_row _ _ 3 _ 48 (0, 0) HC3.out
  have hz4 : w.heap.size < w3.heap.size := by omega
  have hz5 : ¬ w3.heap.size = w.heap.size := by omega
  have HSM := Lib.hid (fun (W : World) (hW : Below w3.heap.size w3 W) => same_any e x ok _ W A D c dc (HO.out.at_.below (HB3.out.trans (hW.mono (by omega))) (Nat.le_refl _)) (HO3.out.below hW (Nat.le_refl _)))
  clear hdr hq1
  go_wp2_with fail
  go_ret
  exact ⟨rfl, HB3.out.alloc (by omega) _⟩

set_option maxRecDepth 100000 in
set_option maxHeartbeats 4000000 in
theorem print_other (e : Ex) (ok : Nat → Prop) (A : Option Addr) (c : Nat) (w : World) (hO : PrOk ok w e A c) (hE : Env w) {ts : List Tok} (hx : lexAll (printF e 0) = .good ts) {t : Tok} {y : Ex} {r : List Tok} (hr : readF ts = .ok y (t :: r)) (h4 : t.kind = 4) (hne : e ≠ y) :
    Calls Tryd.prog 25 #[.agg #[.int .i64 e.kind, .int .i64 e.num, .string e.nm, .slice A e.len c]] w fun e' w' => e' = .returned (.string ⟨#[]⟩) ∧ Below w.heap.size w w' := by
  obtain ⟨S, hS⟩ : ∃ S : ByteArray, S = ⟨(printF e 0).toArray⟩ := ⟨_, rfl⟩
  have hSz : S.size ≤ 1000000000 := by rw [hS, size_length]; exact hO.size
  have hx' : lexAll S.data.toList = .good ts := by rw [hS]; exact hx
  have P1 := fun (W : World) (hW : Below w.heap.size w W) => printed_any e ok W _ 0 hO.wf (hO.at_.below hW (Nat.le_refl _)) hO.size (hE.below hW hE.size)
  rw [← hS] at P1
  have HP1 := Lib.hid P1
  have HL := Lib.hid (fun (W : World) (hW : Below w.heap.size w W) => lex_good S hx' W (hE.below hW hE.size))
  obtain ⟨hEnd, pre, pp, hts, _⟩ := lex_endok hx
  have hlen : 0 < ts.length := by rw [hts]; simp
  have HEnd := Lib.hid hEnd
  have HR := Lib.hid hr
  have HO := Lib.hid hO
  have HS := Lib.hid hS
  have HK4 := Lib.hid h4
  have hdc : decide (e = y) = false := by simp [hne]
  clear h4 hne
  clear P1 hS hx hx' hO hE hr hts hEnd
  go_enter Tryd.func25, Tryd.ntmps25
  go_wp2_with fail
  refine (HP1.out _ (by exact (Below.refl _ _).alloc (Nat.le_refl _) _)).mono ?_
  rintro e1 w1 ⟨rfl, hb1⟩
  have HB1 := Lib.hid ((Below.refl w.heap.size w).alloc (Nat.le_refl _) (.cells #[.int .i64 e.kind, .int .i64 e.num, .string e.nm, .slice A e.len c] 48) |>.trans (hb1.mono (by simp)))
  have HC1 := Lib.hid (show w1.heap[w.heap.size]? = some (.cells #[.int .i64 e.kind, .int .i64 e.num, .string e.nm, .slice A e.len c] 48 (0, 0)) from (hb1.block _ (by simp)).trans (heap_alloc_new _ _))
  have hz1 : w.heap.size < w1.heap.size := by have := hb1.size; simp at this; omega
  clear hb1
  go_wp2_with fail
  refine (HL.out _ HB1.out).mono ?_
  rintro e2 w2 ⟨b, off, cc, rfl, hT, hb2, hz2⟩
  have HB2 := Lib.hid (HB1.out.trans (hb2.mono HB1.out.size))
  have HC2 := Lib.hid ((hb2.block _ hz1).trans HC1.out)
  have HT := Lib.hid hT
  clear hb2 hT HB1 HC1
  go_wp2_with fail
  refine (read_any w2 b off cc S ts HT.out HEnd.out 0 hlen).mono ?_
  rintro e3 w3 ⟨x, sl, q, okb, rfl, hO3, hB3, hq, hres⟩
  rw [List.drop_zero, HR.out] at hres
  obtain ⟨D, dc, rfl, hd1, hd2⟩ := hO3.slice
  have HO3 := Lib.hid hO3
  have HB3 := Lib.hid (HB2.out.trans (hB3.mono HB2.out.size))
  have HC3 := Lib.hid ((hB3.block _ (by omega)).trans HC2.out)
  have HT3 := Lib.hid (HT.out.below hB3 HT.out.lt)
  have hz3 := hB3.size
  clear hO3 hB3
  obtain ⟨rfl, rfl, hdr⟩ := hres
  obtain ⟨hq1, _⟩ := drop_cons hdr
  have a0 := (HT3.out.tok q t hq1).kind
  have l3 := HT3.out.lt
  have hnc := HT3.out.le
  have hcc := HT3.out.cap
  have i1 : (0 : Int) ≤ (q : Int) := by omega
  have i2 : (q : Int) < (ts.length : Int) := by omega
  have m0 : w3.cell? ⟨w.heap.size, 0, none⟩ = some (.int .i64 e.kind) := cell_of_row _ _ 0 _ 48 (0, 0) HC3.out
  have m1 : w3.cell? ⟨w.heap.size, 1, none⟩ = some (.int .i64 e.num) := cell_of_row _ _ 1 _ 48 (0, 0) HC3.out
  have m2 : w3.cell? ⟨w.heap.size, 2, none⟩ = some (.string e.nm) := cell_of_row _ _ 2 _ 48 (0, 0) HC3.out
  have m3 : w3.cell? ⟨w.heap.size, 3, none⟩ = some (.slice A e.len c) := cell_of_row _ _ 3 _ 48 (0, 0) HC3.out
  have hz4 : w.heap.size < w3.heap.size := by omega
  have hz5 : ¬ w3.heap.size = w.heap.size := by omega
  have HSM := Lib.hid (fun (W : World) (hW : Below w3.heap.size w3 W) => same_any e x ok _ W A D c dc (HO.out.at_.below (HB3.out.trans (hW.mono (by omega))) (Nat.le_refl _)) (HO3.out.below hW (Nat.le_refl _)))
  rw [hdc] at HSM
  rw [HK4.out] at a0
  clear hdr hq1
  go_wp2_with fail
  refine (HSM.out _ (by exact (Below.refl _ _).alloc (Nat.le_refl _) _)).mono ?_
  rintro e4 w4 ⟨rfl, hb4⟩
  have HB4 := Lib.hid ((HB3.out.alloc (by omega) (.cells #[.int .i64 x.kind, .int .i64 x.num, .string x.nm, .slice D x.len dc] 48)).trans (hb4.mono (by simp; omega)))
  clear hb4
  go_wp2_with fail
  go_ret
  exact ⟨rfl, HB4.out⟩

set_option maxRecDepth 100000 in
set_option maxHeartbeats 4000000 in
theorem print_same (e : Ex) (ok : Nat → Prop) (A : Option Addr) (c : Nat) (w : World) (hO : PrOk ok w e A c) (hE : Env w) {ts : List Tok} (hx : lexAll (printF e 0) = .good ts) {t : Tok} {y : Ex} {r : List Tok} (hr : readF ts = .ok y (t :: r)) (h4 : t.kind = 4) (hne : e = y) :
    Calls Tryd.prog 25 #[.agg #[.int .i64 e.kind, .int .i64 e.num, .string e.nm, .slice A e.len c]] w fun e' w' => e' = .returned (.string ⟨(printF e 0).toArray⟩) ∧ Below w.heap.size w w' := by
  obtain ⟨S, hS⟩ : ∃ S : ByteArray, S = ⟨(printF e 0).toArray⟩ := ⟨_, rfl⟩
  have hSz : S.size ≤ 1000000000 := by rw [hS, size_length]; exact hO.size
  have hx' : lexAll S.data.toList = .good ts := by rw [hS]; exact hx
  have P1 := fun (W : World) (hW : Below w.heap.size w W) => printed_any e ok W _ 0 hO.wf (hO.at_.below hW (Nat.le_refl _)) hO.size (hE.below hW hE.size)
  rw [← hS] at P1
  have HP1 := Lib.hid P1
  have HL := Lib.hid (fun (W : World) (hW : Below w.heap.size w W) => lex_good S hx' W (hE.below hW hE.size))
  obtain ⟨hEnd, pre, pp, hts, _⟩ := lex_endok hx
  have hlen : 0 < ts.length := by rw [hts]; simp
  have HEnd := Lib.hid hEnd
  have HR := Lib.hid hr
  have HO := Lib.hid hO
  have HS := Lib.hid hS
  have HK4 := Lib.hid h4
  have hdc : decide (e = y) = true := by simp [hne]
  clear h4 hne
  clear P1 hS hx hx' hO hE hr hts hEnd
  go_enter Tryd.func25, Tryd.ntmps25
  go_wp2_with fail
  refine (HP1.out _ (by exact (Below.refl _ _).alloc (Nat.le_refl _) _)).mono ?_
  rintro e1 w1 ⟨rfl, hb1⟩
  have HB1 := Lib.hid ((Below.refl w.heap.size w).alloc (Nat.le_refl _) (.cells #[.int .i64 e.kind, .int .i64 e.num, .string e.nm, .slice A e.len c] 48) |>.trans (hb1.mono (by simp)))
  have HC1 := Lib.hid (show w1.heap[w.heap.size]? = some (.cells #[.int .i64 e.kind, .int .i64 e.num, .string e.nm, .slice A e.len c] 48 (0, 0)) from (hb1.block _ (by simp)).trans (heap_alloc_new _ _))
  have hz1 : w.heap.size < w1.heap.size := by have := hb1.size; simp at this; omega
  clear hb1
  go_wp2_with fail
  refine (HL.out _ HB1.out).mono ?_
  rintro e2 w2 ⟨b, off, cc, rfl, hT, hb2, hz2⟩
  have HB2 := Lib.hid (HB1.out.trans (hb2.mono HB1.out.size))
  have HC2 := Lib.hid ((hb2.block _ hz1).trans HC1.out)
  have HT := Lib.hid hT
  clear hb2 hT HB1 HC1
  go_wp2_with fail
  refine (read_any w2 b off cc S ts HT.out HEnd.out 0 hlen).mono ?_
  rintro e3 w3 ⟨x, sl, q, okb, rfl, hO3, hB3, hq, hres⟩
  rw [List.drop_zero, HR.out] at hres
  obtain ⟨D, dc, rfl, hd1, hd2⟩ := hO3.slice
  have HO3 := Lib.hid hO3
  have HB3 := Lib.hid (HB2.out.trans (hB3.mono HB2.out.size))
  have HC3 := Lib.hid ((hB3.block _ (by omega)).trans HC2.out)
  have HT3 := Lib.hid (HT.out.below hB3 HT.out.lt)
  have hz3 := hB3.size
  clear hO3 hB3
  obtain ⟨rfl, rfl, hdr⟩ := hres
  obtain ⟨hq1, _⟩ := drop_cons hdr
  have a0 := (HT3.out.tok q t hq1).kind
  have l3 := HT3.out.lt
  have hnc := HT3.out.le
  have hcc := HT3.out.cap
  have i1 : (0 : Int) ≤ (q : Int) := by omega
  have i2 : (q : Int) < (ts.length : Int) := by omega
  have m0 : w3.cell? ⟨w.heap.size, 0, none⟩ = some (.int .i64 e.kind) := cell_of_row _ _ 0 _ 48 (0, 0) HC3.out
  have m1 : w3.cell? ⟨w.heap.size, 1, none⟩ = some (.int .i64 e.num) := cell_of_row _ _ 1 _ 48 (0, 0) HC3.out
  have m2 : w3.cell? ⟨w.heap.size, 2, none⟩ = some (.string e.nm) := cell_of_row _ _ 2 _ 48 (0, 0) HC3.out
  have m3 : w3.cell? ⟨w.heap.size, 3, none⟩ = some (.slice A e.len c) := cell_of_row _ _ 3 _ 48 (0, 0) HC3.out
  have hz4 : w.heap.size < w3.heap.size := by omega
  have hz5 : ¬ w3.heap.size = w.heap.size := by omega
  have HSM := Lib.hid (fun (W : World) (hW : Below w3.heap.size w3 W) => same_any e x ok _ W A D c dc (HO.out.at_.below (HB3.out.trans (hW.mono (by omega))) (Nat.le_refl _)) (HO3.out.below hW (Nat.le_refl _)))
  rw [hdc] at HSM
  rw [HK4.out] at a0
  clear hdr hq1
  go_wp2_with fail
  refine (HSM.out _ (by exact (Below.refl _ _).alloc (Nat.le_refl _) _)).mono ?_
  rintro e4 w4 ⟨rfl, hb4⟩
  have HB4 := Lib.hid ((HB3.out.alloc (by omega) (.cells #[.int .i64 x.kind, .int .i64 x.num, .string x.nm, .slice D x.len dc] 48)).trans (hb4.mono (by simp; omega)))
  clear hb4
  go_wp2_with fail
  go_ret
  exact ⟨by rw [← HS.out]; rfl, HB4.out⟩

theorem print_any (e : Ex) (ok : Nat → Prop) (A : Option Addr) (c : Nat) (w : World) (hO : PrOk ok w e A c) (hE : Env w) :
    Calls Tryd.prog 25 #[.agg #[.int .i64 e.kind, .int .i64 e.num, .string e.nm, .slice A e.len c]] w fun e' w' => e' = .returned (.string ⟨(printP e).toArray⟩) ∧ Below w.heap.size w w' := by
  cases hx : lexAll (printF e 0) with
  | bad p =>
    have : printP e = [] := by simp [printP, hx]
    rw [this]; exact print_nolex e ok A c w hO hE hx
  | good ts =>
    cases hr : readF ts with
    | bad r =>
      have : printP e = [] := by simp [printP, hx, hr]
      rw [this]; exact print_noread e ok A c w hO hE hx hr
    | ok y r =>
      cases r with
      | nil =>
        exfalso
        exact (read_keeps _ _ _ (lex_ended hx) hr).ne rfl
      | cons t r =>
        by_cases h4 : t.kind = 4
        · by_cases hy : e = y
          · have : printP e = printF e 0 := by
              subst hy
              simp [printP, hx, hr, h4]
            rw [this]; exact print_same e ok A c w hO hE hx hr h4 hy
          · have : printP e = [] := by simp [printP, hx, hr, h4, Ne.symm hy]
            rw [this]; exact print_other e ok A c w hO hE hx hr h4 hy
        · have : printP e = [] := by simp [printP, hx, hr, h4]
          rw [this]; exact print_more e ok A c w hO hE hx hr h4
end Go.Proofs.YtgkfmeccipgnjaaDoor
