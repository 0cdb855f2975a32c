/- LexPrefix: the walk. -/
import Derived.Test.YtgkfmeccipgnjaaDoorLu
import Derived.Test.YtgkfmeccipgnjaaDoorN7
namespace Go.Proofs.YtgkfmeccipgnjaaDoor
open Go.RowKit

theorem lexAll_short {L : List UInt8} {ts : List Tok} (h : lexAll L = .good ts) : L.length ≤ 6000 := by
  rcases Nat.lt_or_ge 6000 L.length with hlt | hge
  · rw [lexAll, if_pos hlt] at h; cases h
  · exact hge

theorem prefix_join {L1 L2 : List UInt8} (h : (L1 ++ 10 :: L2).length ≤ 6000) : lexAll (L1 ++ 10 :: L2) = (lexAll L1).join ((lexAll L2).up (L1.length + 1)) := by
  have hl : (L1 ++ 10 :: L2).length = L1.length + L2.length + 1 := by simp; omega
  rw [lexAll_eq h, lexF_app _ _ _ _ (by omega), lexAll_eq (by omega), lexAll_eq (by omega)]
  rw [lexF_fuel _ L1 0 (L1.length + 1) (by omega) (by omega)]
  rw [lexF_fuel _ L2 _ (L2.length + 1) (by omega) (by omega)]
  rw [show 0 + L1.length + 1 = 0 + (L1.length + 1) by omega, lexF_up]

theorem lexAll_ne {L : List UInt8} {ts : List Tok} (h : lexAll L = .good ts) : ts ≠ [] := by
  rw [lexAll_eq (lexAll_short h)] at h
  exact lexF_ne _ _ _ _ h

theorem lexAll_pos {L : List UInt8} {ts : List Tok} (h : lexAll L = .good ts) : ∀ t ∈ ts, t.pos ≤ L.length := by
  have hs := lexAll_short h
  rw [lexAll_eq hs] at h
  intro t ht
  rcases lexF_toks _ _ _ _ h t ht with he | ⟨j, size, n, hj, _, he⟩
  · rw [he]; simp
  · rw [he]; simpa using hj

theorem glue_list (s t : ByteArray) : (s ++ ⟨#[10]⟩ ++ t).data.toList = s.data.toList ++ 10 :: t.data.toList := by
  simp [ByteArray.data_append]

/-- A whole row stored into a block that has just been made, its number spelled as the walk has it. -/
theorem store_freshH {P : Program} {ops : Array Oper} {rest : List Oper} {o : Oper} {a : Act} {w : World} {Q : Exit → Act → World → Prop} (hgd : o.guard = none) (ty : TypeId) (x y : Operand) (ho : o.op = .store ty x y)
    (cells : Array Value) (H : Nat) (hH : w.heap.size = H) (hx : a.eval x = .pointer (some ⟨H, 0, none⟩)) (hy : a.eval y = .agg cells)
    (t : TypeId) (old : Array Value) (hi : (P.info? ty).map (·.size) = some cells.size)
    (hold : old.size = cells.size) (h1 : cells.all (·.oneCell') = true)
    (h : wpList P ops Q rest (a.put o.dst undef) (w.alloc (.cells cells t))) : wpList P ops Q (o :: rest) a (w.alloc (.cells old t)) := by
  subst hH
  exact store_fresh hgd ty x y ho cells hx hy t old hi hold h1 h

theorem lexF_len : ∀ (f : Nat) (l : List UInt8) (off : Nat) (ts : List Tok), lexF f l off = .good ts → ts.length ≤ l.length + 1 := by
  intro f
  induction f with
  | zero => intro l off ts h; cases h
  | succ f ih =>
    intro l off ts h
    rw [lexF] at h
    have hb := runL_le blankB l
    cases hd : l.drop (runL blankB l) with
    | nil => rw [hd] at h; simp only [LexR.good.injEq] at h; rw [← h]; simp
    | cons c r =>
      rw [hd] at h
      have hlen : (c :: r).length = l.length - runL blankB l := by rw [← hd]; simp
      simp only at h
      by_cases h35 : c.toNat = 35
      · rw [if_pos h35] at h
        have := ih _ _ _ h
        simp only [List.length_drop] at this; omega
      · rw [if_neg h35] at h
        cases ht : tokAt (c :: r) with
        | none => rw [ht] at h; cases h
        | some q =>
          obtain ⟨k, size, n⟩ := q
          rw [ht] at h
          have hsz := tokAt_size ht
          simp only at h
          cases hr : lexF f ((c :: r).drop size) (off + runL blankB l + size) with
          | bad p => rw [hr] at h; cases h
          | good us =>
            rw [hr] at h
            simp only [LexR.pre, LexR.good.injEq, List.singleton_append] at h
            rw [← h]
            have := ih _ _ _ hr
            simp only [List.length_drop] at this
            simp only [List.length_cons]; simp only [List.length_cons] at hlen hsz this; omega
theorem lexAll_len {L : List UInt8} {ts : List Tok} (h : lexAll L = .good ts) : ts.length ≤ 6001 := by
  have hs := lexAll_short h
  rw [lexAll_eq hs] at h
  have := lexF_len _ _ _ _ h
  omega

/-- lex.Tokens at a text that is none. -/
theorem tokens_bad (s : ByteArray) (hm : s.size ≤ maxLen) {p : Nat} (h : lexAll s.data.toList = .bad p) (W : World) (hE : Env W) :
    Calls Tryd.prog 15 #[.string s] W fun e W' => (∃ X Y, plc (spotL (s.data.toList.take p)) = .complex .f64 X Y ∧ e = .returned (.tuple #[.slice none 0 0, .complex .f64 X Y, .int .i64 2])) ∧ Below W.heap.size W W' := by
  refine (tokens_any s hm W hE).mono fun e W' ⟨hb, hr⟩ => ⟨?_, hb⟩
  rw [h] at hr
  exact ⟨_, _, rfl, hr⟩
/-- .. at a text that is one. -/
theorem tokens_good (s : ByteArray) {ts : List Tok} (h : lexAll s.data.toList = .good ts) (W : World) (hE : Env W) :
    Calls Tryd.prog 15 #[.string s] W fun e W' => ∃ b off c, e = .returned (.tuple #[.slice (some ⟨b, off, none⟩) ts.length c, .complex .f64 0 0, .int .i64 0]) ∧ ts.length ≤ c ∧ c ≤ 9223372036854775807 ∧ b < W'.heap.size ∧
      (∀ i t, ts[i]? = some t → TokIs W' b (off + i * 4) s t) ∧ Below W.heap.size W W' := by
  have hs := lexAll_short h
  rw [← size_length] at hs
  refine (tokens_any s (by unfold maxLen; omega) W hE).mono fun e W' ⟨hb, hr⟩ => ?_
  rw [h] at hr
  obtain ⟨v, he, hsl⟩ := hr
  obtain ⟨b, off, c, rfl, h1, h2, h3, h4⟩ := toks_at hsl (lexAll_ne h)
  exact ⟨b, off, c, he, h1, h2, h3, h4, hb⟩

/-- lex.Tokens at any text: three results; none is told by 2. -/
theorem tokens_gen (s : ByteArray) (hm : s.size ≤ maxLen) (W : World) (hE : Env W) :
    Calls Tryd.prog 15 #[.string s] W fun e W' => ∃ (v : Value) (x : Value) (q : Int), e = .returned (.tuple #[v, x, .int .i64 q]) ∧ (q = 0 ∨ q = 2) ∧ ((∃ p, lexAll s.data.toList = .bad p) → q = 2) ∧ Below W.heap.size W W' := by
  refine (tokens_any s hm W hE).mono fun e W' ⟨hb, hr⟩ => ?_
  cases hl : lexAll s.data.toList with
  | bad p => rw [hl] at hr; exact ⟨_, _, 2, hr, .inr rfl, fun _ => rfl, hb⟩
  | good ts =>
    rw [hl] at hr
    obtain ⟨v, he, _⟩ := hr
    exact ⟨v, _, 0, he, .inl rfl, (fun ⟨p, hp⟩ => by cases hp), hb⟩

set_option maxRecDepth 100000 in
set_option maxHeartbeats 4000000 in
/-- Where the two texts together are too long, or one of them is none. -/
theorem lexPrefix_out (W0 : World) (hE : Env W0) (v0 : Value) (z0 : List Int) (hv0 : IntsAt W0 v0 z0) (v1 : Value) (z1 : List Int) (hv1 : IntsAt W0 v1 z1) (raw : ByteArray) (hraw : raw.size ≤ 140737488355328)
    (s t : ByteArray) (hs : s = textB ⟨#[]⟩ z0) (ht : t = textB raw z1) (hout : 6000 < s.size + t.size + 1 ∨ (∃ p, lexAll s.data.toList = .bad p) ∨ ∃ p, lexAll t.data.toList = .bad p) :
    Calls Tryd.prog 4 #[v0, v1, .string raw] W0 fun e w' => e = .returned (.bool true) ∧ Below W0.heap.size W0 w' := by
  have hrm : raw.size ≤ maxLen := by unfold maxLen; omega
  have hsz : s.size ≤ 1000000000000000000 := by rw [hs]; have := textB_size ⟨#[]⟩ z0; have := hv0.1; omega
  have htz : t.size ≤ 1000000000000000000 := by rw [ht]; have := textB_size raw z1; have := hv1.1; omega
  have hsm : s.size ≤ maxLen := by unfold maxLen; omega
  have htm : t.size ≤ maxLen := by unfold maxLen; omega
  have C1 : Calls Tryd.prog 14 #[v0, .string ⟨#[]⟩] W0 fun e w' => e = .returned (.string s) ∧ Below W0.heap.size W0 w' := by rw [hs]; exact text2_any v0 z0 ⟨#[]⟩ (by unfold maxLen; decide) W0 hv0
  have C2 : ∀ w, Below W0.heap.size W0 w → Calls Tryd.prog 14 #[v1, .string raw] w fun e w' => e = .returned (.string t) ∧ Below w.heap.size w w' := fun w hw => by rw [ht]; exact text2_any v1 z1 raw hrm w (hv1.below hw)
  obtain ⟨u, hu⟩ : ∃ u, u = s ++ ⟨#[10]⟩ ++ t := ⟨_, rfl⟩
  have hul : u.data.toList = s.data.toList ++ 10 :: t.data.toList := by rw [hu]; exact glue_list s t
  have husz : u.size = s.size + 1 + t.size := by rw [size_length, hul, size_length s, size_length t]; simp; omega
  have hum : u.size ≤ maxLen := by rw [husz]; unfold maxLen; omega
  have hub : ¬ 6000 < s.size + t.size + 1 → ∃ p, lexAll u.data.toList = .bad p := by
    intro hn
    have hsl := size_length s
    have htl := size_length t
    rw [hul, prefix_join (by simp; omega)]
    rcases hout with h | ⟨p, h⟩ | ⟨p, h⟩
    · exact absurd h hn
    · rw [h]; exact ⟨p, rfl⟩
    · rw [h]
      cases lexAll s.data.toList with
      | bad q => exact ⟨q, rfl⟩
      | good ts => exact ⟨_, rfl⟩
  have HU := Lib.hid hu
  have C3 : ∀ w, Below W0.heap.size W0 w → _ := fun w hw => tokens_gen s hsm w (hE.below hw hE.size)
  have C4 : ∀ w, Below W0.heap.size W0 w → _ := fun w hw => tokens_gen t htm w (hE.below hw hE.size)
  have C5 : ∀ w, Below W0.heap.size W0 w → _ := fun w hw => tokens_gen u hum w (hE.below hw hE.size)
  have C6 : ∀ w, Below W0.heap.size W0 w → _ := fun w hw => known2 w (hE.below hw hE.size)
  have C1h := Lib.hid C1
  have C2h := Lib.hid C2
  have C3h := Lib.hid C3
  have C4h := Lib.hid C4
  have C5h := Lib.hid C5
  have C6h := Lib.hid C6
  have HO := Lib.hid hout
  have HUB := Lib.hid hub
  clear C1 C2 C3 C4 C5 C6 hs ht hv0 hv1 hu hul husz hout hub
  by_cases hlong : 6000 < s.size + t.size + 1
  · have d2 : decide ((6000 : Int) < (s.size : Int) + (t.size : Int) + 1) = true := by simp; omega
    go_enter Tryd.func4, Tryd.ntmps4
    go_wp2_with fail
    refine C1h.out.mono ?_
    rintro e w1 ⟨rfl, hb1⟩
    have HB1 := Lib.hid hb1
    clear hb1
    go_wp2_with fail
    refine (C2h.out w1 HB1.out).mono ?_
    rintro e w2 ⟨rfl, hb2⟩
    have HB2 := Lib.hid (HB1.out.trans (hb2.mono HB1.out.size))
    clear hb2 HB1
    go_wp2_with fail
    refine (C3h.out w2 HB2.out).mono ?_
    rintro e w3 ⟨p1, x1, q1, rfl, hq1, hq1b, hb3⟩
    have HB3 := Lib.hid (HB2.out.trans (hb3.mono HB2.out.size))
    clear hb3 HB2 hq1 hq1b
    go_wp2_with fail
    refine (C4h.out w3 HB3.out).mono ?_
    rintro e w4 ⟨p2, x2, q2, rfl, hq2, hq2b, hb4⟩
    have HB4 := Lib.hid (HB3.out.trans (hb4.mono HB3.out.size))
    clear hb4 HB3 hq2 hq2b
    go_wp2_with fail
    rw [← HU.out]
    refine (C5h.out w4 HB4.out).mono ?_
    rintro e w5 ⟨p3, x3, q3, rfl, hq3, hq3b, hb5⟩
    have HB5 := Lib.hid (HB4.out.trans (hb5.mono HB4.out.size))
    clear hb5 HB4 hq3 hq3b
    go_wp2_with (go_at_call 16; refine (C6h.out w5 HB5.out).mono ?_; rintro e w6 ⟨rfl, hb6⟩; have HB6 := Lib.hid (HB5.out.trans (hb6.mono HB5.out.size)); clear hb6)
    go_ret
    exact ⟨rfl, HB6.out⟩
  · have d2 : decide ((6000 : Int) < (s.size : Int) + (t.size : Int) + 1) = false := by simp; omega
    go_enter Tryd.func4, Tryd.ntmps4
    go_wp2_with fail
    refine C1h.out.mono ?_
    rintro e w1 ⟨rfl, hb1⟩
    have HB1 := Lib.hid hb1
    clear hb1
    go_wp2_with fail
    refine (C2h.out w1 HB1.out).mono ?_
    rintro e w2 ⟨rfl, hb2⟩
    have HB2 := Lib.hid (HB1.out.trans (hb2.mono HB1.out.size))
    clear hb2 HB1
    go_wp2_with fail
    refine (C3h.out w2 HB2.out).mono ?_
    rintro e w3 ⟨p1, x1, q1, rfl, hq1, hq1b, hb3⟩
    have HB3 := Lib.hid (HB2.out.trans (hb3.mono HB2.out.size))
    have HQ1 := Lib.hid hq1
    have HQ1b := Lib.hid hq1b
    clear hb3 HB2 hq1 hq1b
    go_wp2_with fail
    refine (C4h.out w3 HB3.out).mono ?_
    rintro e w4 ⟨p2, x2, q2, rfl, hq2, hq2b, hb4⟩
    have HB4 := Lib.hid (HB3.out.trans (hb4.mono HB3.out.size))
    have HQ2b := Lib.hid hq2b
    clear hb4 HB3 hq2 hq2b
    go_wp2_with fail
    rw [← HU.out]
    refine (C5h.out w4 HB4.out).mono ?_
    rintro e w5 ⟨p3, x3, q3, rfl, hq3, hq3b, hb5⟩
    have HB5 := Lib.hid (HB4.out.trans (hb5.mono HB4.out.size))
    obtain rfl : q3 = 2 := hq3b (HUB.out hlong)
    clear hb5 HB4 hq3 hq3b
    have hcase : q1 = 2 ∨ (q1 = 0 ∧ q2 = 2) := by
      rcases HO.out with h | h | h
      · exact absurd h hlong
      · exact .inl (HQ1b.out h)
      · rcases HQ1.out with h1 | h1
        · exact .inr ⟨h1, HQ2b.out h⟩
        · exact .inl h1
    rcases hcase with rfl | ⟨rfl, rfl⟩
    · go_wp2_with (first | (go_at_call 16; refine (C6h.out _ HB5.out).mono ?_; rintro e w6 ⟨rfl, hb6⟩; have HB6 := Lib.hid (HB5.out.trans (hb6.mono HB5.out.size)); clear hb6 HB5) | (go_at_call 16; refine (C6h.out _ HB6.out).mono ?_; rintro e w7 ⟨rfl, hb7⟩; have HB7 := Lib.hid (HB6.out.trans (hb7.mono HB6.out.size)); clear hb7))
      go_ret
      exact ⟨rfl, HB7.out⟩
    · go_wp2_with (first | (go_at_call 16; refine (C6h.out _ HB5.out).mono ?_; rintro e w6 ⟨rfl, hb6⟩; have HB6 := Lib.hid (HB5.out.trans (hb6.mono HB5.out.size)); clear hb6 HB5) | (go_at_call 16; refine (C6h.out _ HB6.out).mono ?_; rintro e w7 ⟨rfl, hb7⟩; have HB7 := Lib.hid (HB6.out.trans (hb7.mono HB6.out.size)); clear hb7))
      go_ret
      exact ⟨rfl, HB7.out⟩

set_option maxRecDepth 100000 in
set_option maxHeartbeats 4000000 in
theorem lexPrefix_in (W0 : World) (hE : Env W0) (v0 : Value) (z0 : List Int) (hv0 : IntsAt W0 v0 z0) (v1 : Value) (z1 : List Int) (hv1 : IntsAt W0 v1 z1) (raw : ByteArray) (hraw : raw.size ≤ 140737488355328)
    (s t : ByteArray) (hs : s = textB ⟨#[]⟩ z0) (ht : t = textB raw z1) (hlen : s.size + t.size + 1 ≤ 6000) (ts us : List Tok) (h1 : lexAll s.data.toList = .good ts) (h2 : lexAll t.data.toList = .good us) :
    Calls Tryd.prog 4 #[v0, v1, .string raw] W0 fun e w' => e = .returned (.bool true) ∧ Below W0.heap.size W0 w' := by
  have hrm : raw.size ≤ maxLen := by unfold maxLen; omega
  have C1 : Calls Tryd.prog 14 #[v0, .string ⟨#[]⟩] W0 fun e w' => e = .returned (.string s) ∧ Below W0.heap.size W0 w' := by rw [hs]; exact text2_any v0 z0 ⟨#[]⟩ (by unfold maxLen; decide) W0 hv0
  have C2 : ∀ w, Below W0.heap.size W0 w → Calls Tryd.prog 14 #[v1, .string raw] w fun e w' => e = .returned (.string t) ∧ Below w.heap.size w w' := fun w hw => by rw [ht]; exact text2_any v1 z1 raw hrm w (hv1.below hw)
  obtain ⟨u, hu⟩ : ∃ u, u = s ++ ⟨#[10]⟩ ++ t := ⟨_, rfl⟩
  have hul : u.data.toList = s.data.toList ++ 10 :: t.data.toList := by rw [hu]; exact glue_list s t
  have hsl := size_length s
  have htl := size_length t
  have h3 : lexAll u.data.toList = .good (ts.dropLast ++ us.map (Tok.up (s.data.toList.length + 1))) := by
    rw [hul, prefix_join (by simp; omega), h1, h2]; rfl
  have HU := Lib.hid hu
  have C3 : ∀ w, Below W0.heap.size W0 w → _ := fun w hw => tokens_good s h1 w (hE.below hw hE.size)
  have C4 : ∀ w, Below W0.heap.size W0 w → _ := fun w hw => tokens_good t h2 w (hE.below hw hE.size)
  have C5 : ∀ w, Below W0.heap.size W0 w → _ := fun w hw => tokens_good u h3 w (hE.below hw hE.size)
  have C6 : ∀ w, Below W0.heap.size W0 w → _ := fun w hw => known2 w (hE.below hw hE.size)
  have C1h := Lib.hid C1
  have C2h := Lib.hid C2
  have C3h := Lib.hid C3
  have C4h := Lib.hid C4
  have C5h := Lib.hid C5
  have C6h := Lib.hid C6
  have hna0 : 1 ≤ ts.length := by have := lexAll_ne h1; cases ts <;> simp at *
  have hna := lexAll_len h1
  have hnb := lexAll_len h2
  obtain ⟨toks, htoks⟩ : ∃ toks, toks = ts.dropLast ++ us.map (Tok.up (s.data.toList.length + 1)) := ⟨_, rfl⟩
  have hncE : toks.length = ts.length - 1 + us.length := by rw [htoks]; simp
  rw [← htoks] at C5h
  -- what stands in the third list: the first's, all but its end; then the second's
  have hlow : ∀ i, i < ts.length - 1 → ∃ x, toks[i]? = some x ∧ ts[i]? = some x ∧ spotL (u.data.toList.take x.pos) = spotL (s.data.toList.take x.pos) := by
    intro i hi
    refine ⟨ts[i]'(by omega), ?_, List.getElem?_eq_getElem _, ?_⟩
    · rw [htoks, List.getElem?_append_left (by simp; omega), List.getElem?_dropLast, if_pos (by omega), List.getElem?_eq_getElem]
    · rw [hul, List.take_append_of_le_length (lexAll_pos h1 _ (List.getElem_mem _))]
  have hhigh : ∀ i, ts.length - 1 ≤ i → i < toks.length → ∃ x y, toks[i]? = some x ∧ us[i - (ts.length - 1)]? = some y ∧ x.kind = y.kind ∧ x.text = y.text ∧ x.n = y.n := by
    intro i hi hi2
    have hj : i - (ts.length - 1) < us.length := by omega
    refine ⟨(us[i - (ts.length - 1)]'hj).up (s.data.toList.length + 1), us[i - (ts.length - 1)]'hj, ?_, List.getElem?_eq_getElem _, rfl, rfl, rfl⟩
    rw [htoks, List.getElem?_append_right (by simp; omega), List.getElem?_map]
    simp only [List.length_dropLast]
    rw [List.getElem?_eq_getElem hj]; rfl
  have hspots : ∀ (i : Nat) (x : Tok), toks[i]? = some x → (spotL (u.data.toList.take x.pos)).1 < 6100 ∧ (spotL (u.data.toList.take x.pos)).2 < 6100 := by
    intro i x _
    refine spot_small _ ?_
    have := List.length_take_le x.pos u.data.toList
    have h6 := lexAll_short h3
    simp only [List.length_take]; omega
  obtain ⟨na, hna'⟩ : ∃ na, ts.length = na := ⟨_, rfl⟩
  obtain ⟨nb, hnb'⟩ : ∃ nb, us.length = nb := ⟨_, rfl⟩
  obtain ⟨nc, hnc'⟩ : ∃ nc, toks.length = nc := ⟨_, rfl⟩
  rw [hna', hnb', hnc'] at hncE
  rw [hna'] at hna hna0 hlow
  rw [hnb'] at hnb
  rw [hna', hnc'] at hhigh
  have q1 : nc + 1 ≤ na + nb := by omega
  have q2 : na + nb ≤ nc + 1 := by omega
  have d1 : ((nc : Int) != (na : Int) + (nb : Int) - 1) = false := by simp; omega
  have d2 : decide ((6000 : Int) < (s.size : Int) + (t.size : Int) + 1) = false := by simp; omega
  have HLow := Lib.hid hlow
  have HHigh := Lib.hid hhigh
  have HSp := Lib.hid hspots
  clear C1 C2 C3 C4 C5 C6 hs ht hv0 hv1 hu hul hsl htl h1 h2 h3 htoks hncE hlow hhigh hspots
  go_enter Tryd.func4, Tryd.ntmps4
  go_wp2_with fail
  refine C1h.out.mono ?_
  rintro e w1 ⟨rfl, hb1⟩
  have HB1 := Lib.hid hb1
  clear hb1
  go_wp2_with fail
  refine (C2h.out w1 HB1.out).mono ?_
  rintro e w2 ⟨rfl, hb2⟩
  have HB2 := Lib.hid (HB1.out.trans (hb2.mono HB1.out.size))
  clear hb2 HB1
  go_wp2_with fail
  refine (C3h.out w2 HB2.out).mono ?_
  rintro e w3 ⟨b1, o1, c1, rfl, hc1, hm1, hl1, ht1, hb3⟩
  have HB3 := Lib.hid (HB2.out.trans (hb3.mono HB2.out.size))
  have HT1 := Lib.hid ht1
  clear hb3 ht1 HB2
  go_wp2_with fail
  refine (C4h.out w3 HB3.out).mono ?_
  rintro e w4 ⟨b2, o2, c2, rfl, hc2, hm2, hl2, ht2, hb4⟩
  have HB4 := Lib.hid (HB3.out.trans (hb4.mono HB3.out.size))
  have HT2 := Lib.hid ht2
  have HT1b := Lib.hid (fun i t h => (HT1.out i t h).below hb4 hl1)
  have hl1b : b1 < w4.heap.size := Nat.lt_of_lt_of_le hl1 hb4.size
  clear hb4 ht2 HB3 HT1 hl1
  go_wp2_with fail
  rw [← HU.out]
  refine (C5h.out w4 HB4.out).mono ?_
  rintro e w5 ⟨b3, o3, c3, rfl, hc3, hm3, hl3, ht3, hb5⟩
  rw [hna'] at hc1
  rw [hnb'] at hc2
  rw [hnc'] at hc3
  have HB5 := Lib.hid (HB4.out.trans (hb5.mono HB4.out.size))
  have HT3 := Lib.hid ht3
  have HT1c := Lib.hid (fun i t h => (HT1b.out i t h).below hb5 hl1b)
  have HT2c := Lib.hid (fun i t h => (HT2.out i t h).below hb5 hl2)
  have hl1c : b1 < w5.heap.size := Nat.lt_of_lt_of_le hl1b hb5.size
  have hl2c : b2 < w5.heap.size := Nat.lt_of_lt_of_le hl2 hb5.size
  clear hb5 ht3 HB4 HT1b HT2 hl1b hl2
  go_wp2_with (go_at_call 16; refine (C6h.out w5 HB5.out).mono ?_; rintro e w6 ⟨rfl, hb6⟩; have HB6 := Lib.hid (HB5.out.trans (hb6.mono HB5.out.size)); have HT1 := Lib.hid (fun i t h => (HT1c.out i t h).below hb6 hl1c); have HT2 := Lib.hid (fun i t h => (HT2c.out i t h).below hb6 hl2c); have HT3b := Lib.hid (fun i t h => (HT3.out i t h).below hb6 hl3); have hl1 : b1 < w6.heap.size := Nat.lt_of_lt_of_le hl1c hb6.size; have hl2 : b2 < w6.heap.size := Nat.lt_of_lt_of_le hl2c hb6.size; have hl3b : b3 < w6.heap.size := Nat.lt_of_lt_of_le hl3 hb6.size; clear hb6)
  go_loopw [85] (fun i wr => ∃ j : Nat, j ≤ nc ∧ i = .int .i64 j ∧ Below w6.heap.size w6 wr) (fun i _ => nc - (intOf i).toNat)
  case atStart => exact ⟨0, Nat.zero_le _, rfl, Below.refl _ _⟩
  case round =>
    obtain ⟨j, hj, rfl, hbr⟩ := hrel
    have hszr := hbr.size
    have HBR := Lib.hid hbr
    clear hbr
    by_cases hlt : j < nc
    · by_cases hlo : j < na - 1
      · obtain ⟨x, hx3, hx1, hsp⟩ := HLow.out j hlo
        have hA := (HT3b.out j x hx3).below HBR.out hl3b
        have hB := (HT1.out j x hx1).below HBR.out hl1
        have hq := HSp.out j x hx3
        obtain ⟨X, Y, hXY⟩ : ∃ X Y, plc (spotL (u.data.toList.take x.pos)) = .complex .f64 X Y := ⟨_, _, rfl⟩
        have hneq := fun Z => tok_neq_same x.kind x.n ⟨x.text.toArray⟩ hq Z
        rw [hXY] at hneq
        obtain ⟨a0, a1, a2, a3⟩ := hA
        obtain ⟨e0, e1, e2, e3⟩ := hB
        rw [hXY] at a3
        rw [← hsp, hXY] at e3
        have g1 : j < na := by omega
        have i1 : (0 : Int) ≤ (j : Int) := by omega
        have i2 : (j : Int) < (na : Int) := by omega
        have l1 : b1 < wr.heap.size := by omega
        have hji : (j : Int) < (na : Int) - 1 := by omega
        clear hsp hx3 hx1 hq hXY
        go_wp2_with (refine store_fresh rfl 31 _ _ rfl #[.int .i64 x.kind, .string ⟨x.text.toArray⟩, .int .i64 x.n, .complex .f64 X Y] rfl rfl 31 _ info31 rfl (by simp [Value.oneCell']) ?_)
        go_quiet (fail)
        go_wp2
        go_roundw
        case rel => exact ⟨j + 1, by omega, by go_num, below_drewN (HBR.out.alloc HBR.out.size _) _⟩
        case measure => simp [intOf]; omega
      · obtain ⟨x, y, hx3, hy2, ek, et, en⟩ := HHigh.out j (by omega) hlt
        have hA := (HT3b.out j x hx3).below HBR.out hl3b
        have hB := (HT2.out _ y hy2).below HBR.out hl2
        obtain ⟨k, hk⟩ : ∃ k, k = j - (na - 1) := ⟨_, rfl⟩
        rw [← hk] at hB
        have hk2 : (j : Int) - (na : Int) + 1 = (k : Int) := by omega
        have hkb : k < nb := by omega
        obtain ⟨X, Y, hXY⟩ : ∃ X Y, plc (spotL (u.data.toList.take x.pos)) = .complex .f64 X Y := ⟨_, _, rfl⟩
        obtain ⟨X2, Y2, hXY2⟩ : ∃ X Y, plc (spotL (t.data.toList.take y.pos)) = .complex .f64 X Y := ⟨_, _, rfl⟩
        obtain ⟨a0, a1, a2, a3⟩ := hA
        obtain ⟨e0, e1, e2, e3⟩ := hB
        rw [ek] at a0
        rw [et] at a1
        rw [en] at a2
        rw [hXY] at a3
        rw [hXY2] at e3
        have hji : ¬ (j : Int) < (na : Int) - 1 := by omega
        have l2 : b2 < wr.heap.size := by omega
        have l2' : b2 < wr.heap.size + 1 := by omega
        clear hx3 hy2 ek et en hXY hXY2 hk
        go_wp2_with (first | (refine store_fresh rfl 31 _ _ rfl #[.int .i64 y.kind, .string ⟨y.text.toArray⟩, .int .i64 y.n, .complex .f64 X Y] rfl rfl 31 _ info31 rfl (by simp [Value.oneCell']) ?_) | (refine store_freshH rfl 31 _ _ rfl #[.int .i64 y.kind, .string ⟨y.text.toArray⟩, .int .i64 y.n, .complex .f64 X2 Y2] _ (by simp) rfl rfl 31 _ info31 rfl (by simp [Value.oneCell']) ?_))
        go_roundw
        case rel => exact ⟨j + 1, by omega, by go_num, (HBR.out.alloc HBR.out.size _).alloc (by simp; omega) _⟩
        case measure => simp [intOf]; omega
    · have hz : ¬ (j : Int) < (nc : Int) := by omega
      go_wp2
      go_ret
      exact ⟨rfl, HB6.out.trans (HBR.out.mono HB6.out.size)⟩

theorem lexPrefix_walk (W0 : World) (hE : Env W0) (v0 : Value) (z0 : List Int) (hv0 : IntsAt W0 v0 z0) (v1 : Value) (z1 : List Int) (hv1 : IntsAt W0 v1 z1) (raw : ByteArray) (hraw : raw.size ≤ 140737488355328) :
    Calls Tryd.prog 4 #[v0, v1, .string raw] W0 fun e w' => e = .returned (.bool true) ∧ Below W0.heap.size W0 w' := by
  by_cases h1 : 6000 < (textB ⟨#[]⟩ z0).size + (textB raw z1).size + 1
  · exact lexPrefix_out W0 hE v0 z0 hv0 v1 z1 hv1 raw hraw _ _ rfl rfl (.inl h1)
  · cases h2 : lexAll (textB ⟨#[]⟩ z0).data.toList with
    | bad p => exact lexPrefix_out W0 hE v0 z0 hv0 v1 z1 hv1 raw hraw _ _ rfl rfl (.inr (.inl ⟨p, h2⟩))
    | good ts =>
      cases h3 : lexAll (textB raw z1).data.toList with
      | bad p => exact lexPrefix_out W0 hE v0 z0 hv0 v1 z1 hv1 raw hraw _ _ rfl rfl (.inr (.inr ⟨p, h3⟩))
      | good us => exact lexPrefix_in W0 hE v0 z0 hv0 v1 z1 hv1 raw hraw _ _ rfl rfl (by omega) ts us h2 h3

end Go.Proofs.YtgkfmeccipgnjaaDoor
