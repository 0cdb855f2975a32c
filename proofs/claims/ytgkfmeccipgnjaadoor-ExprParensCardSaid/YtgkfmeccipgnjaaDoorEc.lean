/- Plain: expr.Print as a function; the laws of chapter 4. No program in sight. -/
import Derived.Test.YtgkfmeccipgnjaaDoorEb
namespace Go.Proofs.YtgkfmeccipgnjaaDoor

theorem tokAt_num {l : List UInt8} {size : Nat} {n : Int} (h : tokAt l = some (2, size, n)) : 0 ≤ n ∧ n ≤ 9223372036854775807 ∧ l.take size = Lib.itoa n := by
  cases l with
  | nil => simp [tokAt] at h
  | cons c r =>
    rw [tokAt] at h
    split at h
    · split at h
      · cases h
      · simp at h
    · split at h
      · rename_i hd
        split at h
        · rename_i hi
          simp only [Option.some.injEq, Prod.mk.injEq, true_and] at h
          obtain ⟨rfl, rfl⟩ := h
          have hne : (c :: r).take (runL digitB (c :: r)) ≠ [] := by
            have := runL_pos (r := r) hd
            intro e
            have hl := congrArg List.length e
            simp at hl; omega
          obtain ⟨a1, a2⟩ := num_law hne (runL_all (p := digitB) (c :: r))
          have hv := a1.mp hi
          have := a2 hv.1
          refine ⟨by omega, by omega, hi.symm⟩
        · cases h
      · split at h
        · simp at h
        · cases h
theorem lexF_numok {f : Nat} {l : List UInt8} {off : Nat} {ts : List Tok} (h : lexF f l off = .good ts) : ∀ t ∈ ts, NumOk t := by
  intro t ht hk
  rcases lexF_toks _ _ _ _ h t ht with he | ⟨j, size, n, _, h3, h4⟩
  · rw [he] at hk; simp at hk
  · rw [hk] at h3
    obtain ⟨a1, a2, a3⟩ := tokAt_num h3
    rw [h4]
    exact ⟨a1, a2, a3⟩
theorem lexAll_short' {L : List UInt8} {ts : List Tok} (h : lexAll L = .good ts) : L.length ≤ 6000 := by
  rcases Nat.lt_or_ge 6000 L.length with hlt | hge
  · rw [lexAll, if_pos hlt] at h; cases h
  · exact hge
theorem lexAll_numok {L : List UInt8} {ts : List Tok} (h : lexAll L = .good ts) : ∀ t ∈ ts, NumOk t := by
  rw [lexAll_eq (lexAll_short' h)] at h
  exact lexF_numok h

/-- expr.Print. -/
def printP (e : Ex) : List UInt8 := match lexAll (printF e 0) with
  | .bad _ => []
  | .good ts => match readF ts with
    | .ok e' (t :: _) => if t.kind = 4 ∧ e' = e then printF e 0 else []
    | _ => []

theorem plen_pos {e : Ex} (hg : Good e) : ∀ lv, 0 < plen e lv := by
  intro lv
  cases e with
  | leaf k n nm =>
    rcases hg with ⟨rfl, h0, h1, rfl⟩ | ⟨rfl, rfl, hn⟩
    · obtain ⟨_, hne, _⟩ := atoi_itoa h0 h1
      simp only [plen, printF, if_true]
      exact List.length_pos_iff.mpr hne
    · obtain ⟨hne, _⟩ := nameL_word hn
      rw [plen, printF_name]
      exact List.length_pos_iff.mpr hne
  | un k a => simp [plen, printF]
  | bin k a b => rw [plen_bin]; omega

theorem print_good {e : Ex} (hg : Good e) (hn : need e 0 ≤ 8) (hl : plen e 0 ≤ 6000) :
    ∃ ts, lexAll (printF e 0) = .good (ts ++ [⟨4, [], 0, plen e 0⟩]) ∧ ts.map bare = ptoks e 0 ∧ readF (ts ++ [⟨4, [], 0, plen e 0⟩]) = .ok e [⟨4, [], 0, plen e 0⟩] ∧ printP e = printF e 0 := by
  obtain ⟨ts, h1, h2⟩ := lex_print e hg 0 [] 0 (fun c h => by simp at h)
  rw [List.append_nil, lexG_nil, Nat.zero_add] at h2
  have h3 : lexAll (printF e 0) = .good (ts ++ [⟨4, [], 0, plen e 0⟩]) := by rw [lexG_all hl, h2]; rfl
  have h4 : readF (ts ++ [⟨4, [], 0, plen e 0⟩]) = .ok e [⟨4, [], 0, plen e 0⟩] := (reads_good e hg 8).low hn ts _ h1 (stops_end rfl)
  refine ⟨ts, h3, h1, h4, ?_⟩
  simp [printP, h3, h4]

theorem print_some {e : Ex} (h : printP e ≠ []) : Good e ∧ need e 0 ≤ 8 ∧ plen e 0 ≤ 6000 ∧ printP e = printF e 0 := by
  unfold printP at h
  cases hx : lexAll (printF e 0) with
  | bad p => rw [hx] at h; simp at h
  | good ts =>
    rw [hx] at h
    simp only at h
    cases hy : readF ts with
    | bad r => rw [hy] at h; simp at h
    | ok e' r =>
      rw [hy] at h
      cases r with
      | nil => simp at h
      | cons t r =>
        simp only at h
        by_cases hc : t.kind = 4 ∧ e' = e
        · obtain ⟨h4, rfl⟩ := hc
          have hw := read_was hy (lexAll_numok hx)
          refine ⟨hw.good, hw.need, lexAll_short' hx, ?_⟩
          simp [printP, hx, hy, h4]
        · rw [if_neg hc] at h; simp at h

theorem printF_ne {e : Ex} (hg : Good e) (lv : Nat) : printF e lv ≠ [] := by
  intro h
  have := plen_pos hg lv
  simp [plen, h] at this

theorem print_iff (e : Ex) : printP e ≠ [] ↔ Good e ∧ need e 0 ≤ 8 ∧ plen e 0 ≤ 6000 := by
  constructor
  · intro h; have := print_some h; exact ⟨this.1, this.2.1, this.2.2.1⟩
  · rintro ⟨h1, h2, h3⟩
    obtain ⟨_, _, _, _, h4⟩ := print_good h1 h2 h3
    rw [h4]; exact printF_ne h1 0

/-- A text in parentheses. -/
theorem parens_law {e : Ex} (h : printP e ≠ []) {ts : List Tok} {x : Ex} {r : List Tok} (hl : lexAll (40 :: (printF e 0 ++ [41])) = .good ts) (hr : readF ts = .ok x r) : x = e := by
  obtain ⟨hg, hn, _, _⟩ := print_some h
  rw [lexG_all (lexAll_short' hl), lexG_one (by decide) (by decide)] at hl
  obtain ⟨us, h1, h2⟩ := lex_print e hg 0 [41] (0 + 1) (delim_cons (by decide))
  rw [h2, lexG_one (by decide) (by decide), lexG_nil] at hl
  simp only [LexR.pre, LexR.good.injEq] at hl
  have h9 := lev_more (fac_more 8) 3 _ _ _ hr
  rw [← hl] at h9
  have h5 := (reads_good e hg 8).low hn us (⟨3, [41], 0, 0 + 1 + plen e 0⟩ :: [⟨4, [], 0, 0 + 1 + plen e 0 + 1⟩]) h1 (stops_close rfl)
  have h6 := facF_paren (t := ⟨3, [40], 0, 0⟩) rfl rfl h5
  have h7 := lift_to (up := 0) h6 3 (by omega) (stops_end rfl)
  have e1 : [(⟨3, [40], 0, 0⟩ : Tok)] ++ (us ++ ([⟨3, [41], 0, 0 + 1 + plen e 0⟩] ++ [⟨4, [], 0, 0 + 1 + plen e 0 + 1⟩])) = ⟨3, [40], 0, 0⟩ :: (us ++ (⟨3, [41], 0, 0 + 1 + plen e 0⟩ :: [⟨4, [], 0, 0 + 1 + plen e 0 + 1⟩])) := by simp
  rw [e1] at h9
  have h8 := h9.symm.trans h7
  simp only [ERes.ok.injEq] at h8
  exact h8.1

theorem minus_law {e : Ex} (h : printP e ≠ []) {ts : List Tok} {x : Ex} {r : List Tok} (hl : lexAll (45 :: 40 :: (printF e 0 ++ [41])) = .good ts) (hr : readF ts = .ok x r) : x = .un 3 e := by
  obtain ⟨hg, hn, _, _⟩ := print_some h
  rw [lexG_all (lexAll_short' hl), lexG_one (by decide) (by decide), lexG_one (by decide) (by decide)] at hl
  obtain ⟨us, h1, h2⟩ := lex_print e hg 0 [41] (0 + 1 + 1) (delim_cons (by decide))
  rw [h2, lexG_one (by decide) (by decide), lexG_nil] at hl
  simp only [LexR.pre, LexR.good.injEq] at hl
  have h9 := lev_more (fac_more 9) 3 _ _ _ (lev_more (fac_more 8) 3 _ _ _ hr)
  rw [← hl] at h9
  have h5 := (reads_good e hg 8).low hn us (⟨3, [41], 0, 0 + 1 + 1 + plen e 0⟩ :: [⟨4, [], 0, 0 + 1 + 1 + plen e 0 + 1⟩]) h1 (stops_close rfl)
  have h6 := facF_minus (t := ⟨3, [45], 0, 0⟩) rfl (facF_paren (t := ⟨3, [40], 0, 0 + 1⟩) rfl rfl h5)
  have h7 := lift_to (up := 0) h6 3 (by omega) (stops_end rfl)
  have e1 : [(⟨3, [45], 0, 0⟩ : Tok)] ++ ([⟨3, [40], 0, 0 + 1⟩] ++ (us ++ ([⟨3, [41], 0, 0 + 1 + 1 + plen e 0⟩] ++ [⟨4, [], 0, 0 + 1 + 1 + plen e 0 + 1⟩]))) = ⟨3, [45], 0, 0⟩ :: ⟨3, [40], 0, 0 + 1⟩ :: (us ++ (⟨3, [41], 0, 0 + 1 + 1 + plen e 0⟩ :: [⟨4, [], 0, 0 + 1 + 1 + plen e 0 + 1⟩])) := by simp
  rw [e1] at h9
  have h8 := h9.symm.trans h7
  simp only [ERes.ok.injEq] at h8
  exact h8.1

theorem left_toks (F : List Tok → ERes) (e : Ex) (k : Nat) (hk : k = 4 ∨ k = 5 ∨ k = 6 ∨ k = 7 ∨ k = 8) (l : List Tok) (p1 p2 p3 p4 p5 : Nat)
    (h0 : F l = .ok e (⟨3, (signP k).1, 0, p1⟩ :: ⟨2, [51], 3, p2⟩ :: ⟨3, [45], 0, p3⟩ :: ⟨2, [52], 4, p4⟩ :: [⟨4, [], 0, p5⟩]))
    (h3 : ∀ m, F (⟨2, [51], 3, p2⟩ :: m) = .ok (.leaf 1 3 []) m) (h4 : ∀ m, F (⟨2, [52], 4, p4⟩ :: m) = .ok (.leaf 1 4 []) m) :
    levF F 3 l = .ok (.bin 5 (.bin k e (.leaf 1 3 [])) (.leaf 1 4 [])) [⟨4, [], 0, p5⟩] := by
  rcases hk with rfl | rfl | rfl | rfl | rfl <;> simp [levF, h0, h3, h4, loopF, opP, signP]

/-- One more at the end is the last one's operator. -/
theorem left_law {e : Ex} (h : printP e ≠ []) (k : Nat) (hk : k = 4 ∨ k = 5 ∨ k = 6 ∨ k = 7 ∨ k = 8) {ts : List Tok} {x : Ex} {r : List Tok}
    (hl : lexAll (40 :: (printF e 0 ++ (41 :: 32 :: ((signP k).1 ++ 32 :: [51, 32, 45, 32, 52])))) = .good ts) (hr : readF ts = .ok x r) : x = .bin 5 (.bin k e (.leaf 1 3 [])) (.leaf 1 4 []) := by
  obtain ⟨hg, hn, _, _⟩ := print_some h
  obtain ⟨us, h1, h2⟩ := lex_print e hg 0 (41 :: 32 :: ((signP k).1 ++ 32 :: [51, 32, 45, 32, 52])) (0 + 1) (delim_cons (by decide))
  have t3 : ∀ off, lexG [51, 32, 45, 32, 52] off = (lexG [32, 45, 32, 52] (off + 1)).pre [⟨2, [51], 3, off⟩] := fun off => by
    have h := lexG_numW (n := 3) (tail := [32, 45, 32, 52]) (off := off) (by decide) (by decide) (delim_cons (by decide))
    rw [show Lib.itoa 3 = [51] by decide +kernel] at h; exact h
  have t4 : ∀ off, lexG [52] off = (lexG [] (off + 1)).pre [⟨2, [52], 4, off⟩] := fun off => by
    have h := lexG_numW (n := 4) (tail := []) (off := off) (by decide) (by decide) (fun c h => by simp at h)
    rw [show Lib.itoa 4 = [52] by decide +kernel] at h; exact h
  rw [lexG_all (lexAll_short' hl), lexG_one (by decide) (by decide), h2, lexG_one (by decide) (by decide), lexG_sp, lexG_opW (by omega) (by omega), lexG_sp, t3, lexG_sp, lexG_one (by decide) (by decide), lexG_sp, t4, lexG_nil] at hl
  simp only [LexR.pre, LexR.good.injEq] at hl
  have h9 := lev_more (fac_more 8) 3 _ _ _ hr
  rw [← hl] at h9
  have h5 := fun rest u (hu : bare u = (3, [41], 0)) => (reads_good e hg 8).low hn us (u :: rest) h1 (stops_close hu)
  have h6 := fun rest u (hu : bare u = (3, [41], 0)) => facF_paren (t := ⟨3, [40], 0, 0⟩) rfl hu (h5 rest u hu)
  have h7 := left_toks (facF 9) e k hk _ _ _ _ _ _ (h6 (⟨3, (signP k).1, 0, 0 + 1 + plen e 0 + 1 + 1⟩ :: ⟨2, [51], 3, 0 + 1 + plen e 0 + 1 + 1 + (signP k).1.length + 1⟩ :: ⟨3, [45], 0, 0 + 1 + plen e 0 + 1 + 1 + (signP k).1.length + 1 + 1 + 1⟩ :: ⟨2, [52], 4, 0 + 1 + plen e 0 + 1 + 1 + (signP k).1.length + 1 + 1 + 1 + 1 + 1⟩ :: [⟨4, [], 0, 0 + 1 + plen e 0 + 1 + 1 + (signP k).1.length + 1 + 1 + 1 + 1 + 1 + 1⟩]) ⟨3, [41], 0, 0 + 1 + plen e 0⟩ rfl)
    (fun m => by simp [facF, facStep]) (fun m => by simp [facF, facStep])
  simp only [List.cons_append, List.nil_append] at h9
  have h8 := h9.symm.trans h7
  simp only [ERes.ok.injEq] at h8
  exact h8.1

-- chapter 4's raw texts

def parts4 : List (List UInt8) := [[120], [121], [97], [55], [48], [49, 50], [43], [45], [42], [47], [37], [60], [61, 61], [40], [41], [120], [51], [45], [40], [41], [103, 111], [61], [123], [57]]

theorem part_lex : ∀ p ∈ parts4, ∀ (r : List UInt8) (off : Nat), ∃ k n, lexG (p ++ 32 :: r) off = (lexG (32 :: r) (off + p.length)).pre [⟨k, p, n, off⟩] := by
  have hd : ∀ r, Delim (32 :: r) := fun r => delim_cons (by decide)
  have w : ∀ p : List UInt8, p ≠ [] → wordL p = p.length → ∀ (r : List UInt8) (off : Nat), ∃ k n, lexG (p ++ 32 :: r) off = (lexG (32 :: r) (off + p.length)).pre [⟨k, p, n, off⟩] := fun p h1 h2 r off => ⟨_, _, lexG_nameW h1 h2 (hd r)⟩
  have nm : ∀ (n : Int) (p : List UInt8), Lib.itoa n = p → 0 ≤ n → n ≤ 9223372036854775807 → ∀ (r : List UInt8) (off : Nat), ∃ k n, lexG (p ++ 32 :: r) off = (lexG (32 :: r) (off + p.length)).pre [⟨k, p, n, off⟩] := fun n p hp h1 h2 r off => ⟨2, n, by rw [← hp]; exact lexG_numW h1 h2 (hd r)⟩
  have sg : ∀ c : UInt8, c ∈ signsL → c ≠ 61 → ∀ (r : List UInt8) (off : Nat), ∃ k n, lexG ([c] ++ 32 :: r) off = (lexG (32 :: r) (off + 1)).pre [⟨k, [c], n, off⟩] := fun c h1 h2 r off => ⟨_, _, lexG_one h1 h2⟩
  have e1 : ∀ (r : List UInt8) (off : Nat), ∃ k n, lexG ([61] ++ 32 :: r) off = (lexG (32 :: r) (off + 1)).pre [⟨k, [61], n, off⟩] := fun r off => by
    refine ⟨3, 0, ?_⟩
    have et : tokAt (61 :: 32 :: r) = some (3, 1, 0) := by
      rw [tokAt, if_neg (by decide), if_neg (by decide), if_pos (by decide)]
      simp [signSize, List.isPrefixOf]
    rw [List.singleton_append, lexG_tok (by decide) (by decide), et]; rfl
  intro p hp
  simp only [parts4, List.mem_cons, List.not_mem_nil, or_false] at hp
  rcases hp with rfl | rfl | rfl | rfl | rfl | rfl | rfl | rfl | rfl | rfl | rfl | rfl | rfl | rfl | rfl | rfl | rfl | rfl | rfl | rfl | rfl | rfl | rfl | rfl
  · exact w _ (by decide) (by decide)
  · exact w _ (by decide) (by decide)
  · exact w _ (by decide) (by decide)
  · exact nm 7 _ (by decide +kernel) (by decide) (by decide)
  · exact nm 0 _ (by decide +kernel) (by decide) (by decide)
  · exact nm 12 _ (by decide +kernel) (by decide) (by decide)
  · exact sg _ (by decide) (by decide)
  · exact sg _ (by decide) (by decide)
  · exact sg _ (by decide) (by decide)
  · exact sg _ (by decide) (by decide)
  · exact sg _ (by decide) (by decide)
  · exact sg _ (by decide) (by decide)
  · exact fun r off => ⟨_, _, lexG_two⟩
  · exact sg _ (by decide) (by decide)
  · exact sg _ (by decide) (by decide)
  · exact w _ (by decide) (by decide)
  · exact nm 3 _ (by decide +kernel) (by decide) (by decide)
  · exact sg _ (by decide) (by decide)
  · exact sg _ (by decide) (by decide)
  · exact sg _ (by decide) (by decide)
  · exact w _ (by decide) (by decide)
  · exact e1
  · exact sg _ (by decide) (by decide)
  · exact nm 9 _ (by decide +kernel) (by decide) (by decide)

/-- A text of such parts, each with a blank behind it. -/
def rawText (ps : List (List UInt8)) : List UInt8 := ps.flatMap fun p => p ++ [32]
theorem raw_lex : ∀ (ps : List (List UInt8)), (∀ p ∈ ps, p ∈ parts4) → ∀ off, ∃ ts, lexG (rawText ps) off = .good ts ∧ srcLen ts = (rawText ps).length + 1 := by
  intro ps
  induction ps with
  | nil => intro _ off; exact ⟨_, lexG_nil off, by simp [srcLen, rawText]⟩
  | cons p ps ih =>
    intro h off
    obtain ⟨k, n, h1⟩ := part_lex p (h p (by simp)) (rawText ps) off
    obtain ⟨ts, h2, h3⟩ := ih (fun q hq => h q (by simp [hq])) (off + p.length + 1)
    refine ⟨⟨k, p, n, off⟩ :: ts, ?_, ?_⟩
    · have e : rawText (p :: ps) = p ++ 32 :: rawText ps := by simp [rawText]
      rw [e, h1, lexG_sp, h2]; rfl
    · rw [srcLen_cons, h3]; simp [rawText]; omega

/-- What is read of such a text is printed, in fewer bytes. -/
theorem back_law {ps : List (List UInt8)} (hp : ∀ p ∈ ps, p ∈ parts4) {ts : List Tok} {x : Ex} {r : List Tok} (hl : lexAll (rawText ps) = .good ts) (hr : readF ts = .ok x r) (hne : r ≠ []) : printP x ≠ [] := by
  have hs := lexAll_short' hl
  obtain ⟨us, h1, h2⟩ := raw_lex ps hp 0
  rw [lexG_all hs, h1] at hl
  simp only [LexR.good.injEq] at hl
  subst hl
  have hw := read_was hr (lexF_numok h1)
  have hlen := hw.len
  rw [print_iff]
  refine ⟨hw.good, hw.need, ?_⟩
  have : 1 ≤ srcLen r := by
    cases r with
    | nil => exact absurd rfl hne
    | cons t r => rw [srcLen_cons]; omega
  omega

end Go.Proofs.YtgkfmeccipgnjaaDoor
