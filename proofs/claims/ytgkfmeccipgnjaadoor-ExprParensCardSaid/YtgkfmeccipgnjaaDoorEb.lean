/- Plain: what was read is good; how long it is printed; its text is lexed as its tokens. No program in sight. -/
import Derived.Test.YtgkfmeccipgnjaaDoorEa
import Derived.Test.YtgkfmeccipgnjaaDoorLt
namespace Go.Proofs.YtgkfmeccipgnjaaDoor

/-- A number token spells its number. -/
def NumOk (t : Tok) : Prop := t.kind = 2 → 0 ≤ t.n ∧ t.n ≤ 9223372036854775807 ∧ t.text = Lib.itoa t.n
def srcLen (l : List Tok) : Nat := (l.map fun t => t.text.length + 1).sum
theorem srcLen_cons (t : Tok) (l : List Tok) : srcLen (t :: l) = t.text.length + 1 + srcLen l := by simp [srcLen]
def plen (e : Ex) (lv : Nat) : Nat := (printF e lv).length

theorem plen_bin (k : Int) (a b : Ex) (lv : Nat) : plen (.bin k a b) lv = plen a (leftL k) + plen b (ownL k + 1) + (signP k).1.length + 2 + (if ownL k < lv then 2 else 0) := by
  simp only [plen, printF]
  split <;> simp only [List.length_append, List.length_cons, List.length_nil] <;> omega
theorem printF_name (nm : List UInt8) (lv : Nat) : printF (.leaf 2 0 nm) lv = nm := by simp [printF]
theorem plen_mono (e : Ex) {a b : Nat} (h : a ≤ b) : plen e a ≤ plen e b := by
  cases e with
  | leaf k n nm => exact Nat.le_refl _
  | un k x => exact Nat.le_refl _
  | bin k x y => rw [plen_bin, plen_bin]; split <;> split <;> omega
theorem plen_par (e : Ex) (lv : Nat) : plen e lv ≤ plen e 0 + 2 := by
  cases e with
  | leaf k n nm => simp [plen, printF]
  | un k x => simp [plen, printF]
  | bin k x y => rw [plen_bin, plen_bin]; split <;> split <;> omega
theorem need_mono (e : Ex) {a b : Nat} (h : a ≤ b) : need e a ≤ need e b := by
  cases e with
  | leaf k n nm => exact Nat.le_refl _
  | un k x => exact Nat.le_refl _
  | bin k x y => simp only [need]; split <;> split <;> omega
theorem need_par (e : Ex) (lv : Nat) : need e lv ≤ need e 0 + 1 := by
  cases e with
  | leaf k n nm => simp [need]
  | un k x => simp [need]
  | bin k x y => simp only [need]; split <;> split <;> omega

structure Was (d lv : Nat) (l : List Tok) (e : Ex) (r : List Tok) : Prop where
  good : Good e
  need : need e lv ≤ d
  len : plen e lv + 1 + srcLen r ≤ srcLen l
  suf : r <:+ l

theorem loop_was {d level : Nat} {next : List Tok → ERes} (hn : ∀ l e r, next l = .ok e r → (∀ t ∈ l, NumOk t) → Was d (level + 1) l e r) :
    ∀ (f : Nat) (e : Ex) (l : List Tok) (e' : Ex) (r : List Tok), loopF level next f e l = .ok e' r → (∀ t ∈ l, NumOk t) → Good e → need e (if level = 0 then 1 else level) ≤ d →
      Good e' ∧ need e' level ≤ d ∧ plen e' level + srcLen r ≤ plen e (if level = 0 then 1 else level) + srcLen l ∧ r <:+ l := by
  intro f
  induction f with
  | zero =>
    intro e l e' r h _ hg hd
    simp only [loopF, ERes.ok.injEq] at h
    obtain ⟨rfl, rfl⟩ := h
    have hm : level ≤ (if level = 0 then 1 else level) := by split <;> omega
    exact ⟨hg, Nat.le_trans (need_mono _ hm) hd, by have := plen_mono e hm; omega, List.suffix_refl _⟩
  | succ f ih =>
    intro e l e' r h hl hg hd
    have hm : level ≤ (if level = 0 then 1 else level) := by split <;> omega
    cases l with
    | nil =>
      simp only [loopF, ERes.ok.injEq] at h
      obtain ⟨rfl, rfl⟩ := h
      exact ⟨hg, Nat.le_trans (need_mono _ hm) hd, by have := plen_mono e hm; omega, List.suffix_refl _⟩
    | cons t more =>
      simp only [loopF] at h
      by_cases ho : opP level t = 0
      · rw [if_pos ho] at h
        simp only [ERes.ok.injEq] at h
        obtain ⟨rfl, rfl⟩ := h
        exact ⟨hg, Nat.le_trans (need_mono _ hm) hd, by have := plen_mono e hm; omega, List.suffix_refl _⟩
      · rw [if_neg ho] at h
        cases hx : next more with
        | bad q => rw [hx] at h; cases h
        | ok e2 q =>
          rw [hx] at h
          obtain ⟨g2, n2, l2, s2⟩ := hn _ _ _ hx (fun t ht => hl t (List.mem_cons_of_mem _ ht))
          obtain ⟨k1, k2, k3, k4, k5⟩ := sign_of_op ho
          have hsrc := srcLen_cons t more
          rw [k4] at hsrc
          have hleft : leftL (opP level t : Int) = (if level = 0 then 1 else level) := by simp [leftL, k5]
          have hnew : Good (.bin (opP level t) e e2) := ⟨k1, k2, hg, g2⟩
          have hneed : need (.bin (opP level t) e e2) level ≤ d := by
            simp only [need, hleft, k5, Nat.lt_irrefl, if_false]
            omega
          have hlen := plen_bin (opP level t) e e2 level
          simp only [hleft, k5, Nat.lt_irrefl, if_false] at hlen
          by_cases h0 : level = 0
          · simp only [h0, if_true] at h
            subst h0
            simp only [ERes.ok.injEq] at h
            obtain ⟨rfl, rfl⟩ := h
            refine ⟨hnew, hneed, by omega, s2.trans (List.suffix_cons _ _)⟩
          · simp only [h0, if_false] at h
            obtain ⟨r1, r2, r3, r4⟩ := ih _ _ _ _ h (fun t ht => hl t (List.mem_cons_of_mem _ (s2.mem ht))) hnew (by rw [if_neg h0]; exact hneed)
            rw [if_neg h0] at r3 hlen ⊢
            exact ⟨r1, r2, by omega, r4.trans (s2.trans (List.suffix_cons _ _))⟩

theorem lev_was {d : Nat} {F : List Tok → ERes} (hF : ∀ l e r, F l = .ok e r → (∀ t ∈ l, NumOk t) → Was d 3 l e r) :
    ∀ up, up ≤ 3 → ∀ l e r, levF F up l = .ok e r → (∀ t ∈ l, NumOk t) → Was d (3 - up) l e r := by
  intro up
  induction up with
  | zero => intro _; exact hF
  | succ up ih =>
    intro hu l e r h hl
    have ih := ih (by omega)
    rw [levF] at h
    cases hx : levF F up l with
    | bad q => rw [hx] at h; cases h
    | ok e1 q =>
      rw [hx] at h
      obtain ⟨g1, n1, l1, s1⟩ := ih _ _ _ hx hl
      have e3 : 3 - up = (2 - up) + 1 := by omega
      rw [e3] at ih n1 l1
      have hm : (if 2 - up = 0 then 1 else 2 - up) ≤ 2 - up + 1 := by split <;> omega
      obtain ⟨r1, r2, r3, r4⟩ := loop_was ih _ _ _ _ _ h (fun t ht => hl t (s1.mem ht)) g1 (Nat.le_trans (need_mono _ hm) n1)
      have := plen_mono e1 hm
      have e4 : 3 - (up + 1) = 2 - up := by omega
      rw [e4]
      exact ⟨r1, r2, by omega, r4.trans s1⟩

theorem facStep_was {d : Nat} {sub : Option (List Tok → ERes)} (hs : ∀ F, sub = some F → 1 ≤ d ∧ ∀ l e r, F l = .ok e r → (∀ t ∈ l, NumOk t) → Was (d - 1) 3 l e r) {l : List Tok} {e : Ex} {r : List Tok}
    (h : facStep sub l = .ok e r) (hl : ∀ t ∈ l, NumOk t) : Was d 3 l e r := by
  cases l with
  | nil => cases h
  | cons t more =>
    have hsrc := srcLen_cons t more
    simp only [facStep] at h
    by_cases h2 : t.kind = 2
    · rw [if_pos h2] at h
      simp only [ERes.ok.injEq] at h
      obtain ⟨rfl, rfl⟩ := h
      obtain ⟨a1, a2, a3⟩ := hl t (by simp) h2
      refine ⟨.inl ⟨rfl, a1, a2, rfl⟩, by simp [Go.Proofs.YtgkfmeccipgnjaaDoor.need], ?_, List.suffix_cons _ _⟩
      rw [a3] at hsrc
      simp only [plen, printF, if_true]; omega
    · rw [if_neg h2] at h
      by_cases h1 : t.kind = 1 ∧ nameL t.text = true
      · rw [if_pos h1] at h
        simp only [ERes.ok.injEq] at h
        obtain ⟨rfl, rfl⟩ := h
        refine ⟨.inr ⟨rfl, rfl, h1.2⟩, by simp [Go.Proofs.YtgkfmeccipgnjaaDoor.need], ?_, List.suffix_cons _ _⟩
        rw [plen, printF_name]; omega
      · rw [if_neg h1] at h
        cases sub with
        | none => cases h
        | some F =>
          obtain ⟨hd, hF⟩ := hs F rfl
          simp only at h
          by_cases h3 : t.kind = 3 ∧ t.text = [45]
          · rw [if_pos h3] at h
            cases hx : F more with
            | bad q => rw [hx] at h; cases h
            | ok e1 q =>
              rw [hx] at h
              obtain ⟨g1, n1, l1, s1⟩ := hF _ _ _ hx (fun t ht => hl t (List.mem_cons_of_mem _ ht))
              simp only [ERes.ok.injEq] at h
              obtain ⟨rfl, rfl⟩ := h
              rw [h3.2] at hsrc
              refine ⟨⟨rfl, g1⟩, by simp only [Go.Proofs.YtgkfmeccipgnjaaDoor.need]; omega, ?_, s1.trans (List.suffix_cons _ _)⟩
              simp only [plen, printF, List.length_cons, List.length_nil] at l1 hsrc ⊢; omega
          · rw [if_neg h3] at h
            by_cases h4 : t.kind = 3 ∧ t.text = [40]
            · rw [if_pos h4] at h
              cases hx : levF F 3 more with
              | bad q => rw [hx] at h; cases h
              | ok e1 q =>
                rw [hx] at h
                obtain ⟨g1, n1, l1, s1⟩ := lev_was hF 3 (Nat.le_refl _) _ _ _ hx (fun t ht => hl t (List.mem_cons_of_mem _ ht))
                cases q with
                | nil => cases h
                | cons u q =>
                  simp only at h
                  split at h
                  · rename_i h5
                    simp only [ERes.ok.injEq] at h
                    obtain ⟨rfl, rfl⟩ := h
                    rw [h4.2] at hsrc
                    have hu := srcLen_cons u q
                    rw [h5.2] at hu
                    have p1 := plen_par e1 3
                    have p2 := need_par e1 3
                    rw [Nat.sub_self] at n1 l1
                    simp only [List.length_cons, List.length_nil] at hsrc hu
                    exact ⟨g1, by omega, by omega, (List.suffix_cons _ _).trans (s1.trans (List.suffix_cons _ _))⟩
                  · cases h
            · rw [if_neg h4] at h; cases h

theorem fac_was : ∀ d l e r, facF d l = .ok e r → (∀ t ∈ l, NumOk t) → Was d 3 l e r := by
  intro d
  induction d with
  | zero => intro l e r h hl; exact facStep_was (fun F hF => by cases hF) h hl
  | succ d ih => intro l e r h hl; exact facStep_was (fun F hF => by injection hF with hF; rw [← hF]; exact ⟨by omega, ih⟩) h hl
theorem read_was {l : List Tok} {e : Ex} {r : List Tok} (h : readF l = .ok e r) (hl : ∀ t ∈ l, NumOk t) : Was 8 0 l e r := lev_was (fac_was 8) 3 (Nat.le_refl _) l e r h hl

/-- More depth changes nothing that is read. -/
theorem loop_more {level : Nat} {f g : List Tok → ERes} (h : ∀ l e r, f l = .ok e r → g l = .ok e r) : ∀ n e l e' r, loopF level f n e l = .ok e' r → loopF level g n e l = .ok e' r := by
  intro n
  induction n with
  | zero => intro e l e' r hx; exact hx
  | succ n ih =>
    intro e l e' r hx
    cases l with
    | nil => exact hx
    | cons t more =>
      simp only [loopF] at hx ⊢
      split
      · rename_i h0; rw [if_pos h0] at hx; exact hx
      · rename_i h0
        rw [if_neg h0] at hx
        cases hf : f more with
        | bad q => rw [hf] at hx; cases hx
        | ok e2 q =>
          rw [hf] at hx
          rw [h _ _ _ hf]
          simp only at hx ⊢
          split
          · rename_i h1; rw [if_pos h1] at hx; exact hx
          · rename_i h1; rw [if_neg h1] at hx; exact ih _ _ _ _ hx
theorem lev_more {F G : List Tok → ERes} (h : ∀ l e r, F l = .ok e r → G l = .ok e r) : ∀ up l e r, levF F up l = .ok e r → levF G up l = .ok e r := by
  intro up
  induction up with
  | zero => exact h
  | succ up ih =>
    intro l e r hx
    rw [levF] at hx ⊢
    cases hf : levF F up l with
    | bad q => rw [hf] at hx; cases hx
    | ok e1 q =>
      rw [hf] at hx
      rw [ih _ _ _ hf]
      exact loop_more ih _ _ _ _ _ hx
theorem fac_more : ∀ d l e r, facF d l = .ok e r → facF (d + 1) l = .ok e r := by
  have key : ∀ (sub : Option (List Tok → ERes)) (G : List Tok → ERes), (∀ F, sub = some F → ∀ l e r, F l = .ok e r → G l = .ok e r) → ∀ l e r, facStep sub l = .ok e r → facStep (some G) l = .ok e r := by
    intro sub G hs l e r h
    cases l with
    | nil => exact h
    | cons t more =>
      simp only [facStep] at h ⊢
      by_cases h2 : t.kind = 2
      · rw [if_pos h2] at h ⊢; exact h
      · rw [if_neg h2] at h ⊢
        by_cases h1 : t.kind = 1 ∧ nameL t.text = true
        · rw [if_pos h1] at h ⊢; exact h
        · rw [if_neg h1] at h ⊢
          cases sub with
          | none => cases h
          | some F =>
            have hF := hs F rfl
            simp only at h
            by_cases h3 : t.kind = 3 ∧ t.text = [45]
            · rw [if_pos h3] at h ⊢
              cases hx : F more with
              | bad q => rw [hx] at h; cases h
              | ok e1 q => rw [hx] at h; rw [hF _ _ _ hx]; exact h
            · rw [if_neg h3] at h ⊢
              by_cases h4 : t.kind = 3 ∧ t.text = [40]
              · rw [if_pos h4] at h ⊢
                cases hx : levF F 3 more with
                | bad q => rw [hx] at h; cases h
                | ok e1 q => rw [hx] at h; rw [lev_more hF 3 _ _ _ hx]; exact h
              · rw [if_neg h4] at h; cases h
  intro d
  induction d with
  | zero => exact key none _ (fun F hF => by cases hF)
  | succ d ih => exact key (some (facF d)) _ (fun F hF => by injection hF with hF; rw [← hF]; exact ih)

-- the text

theorem runL_all_app {p : UInt8 → Bool} {l tail : List UInt8} (h : runL p l = l.length) (ht : ∀ c, tail.head? = some c → p c = false) : runL p (l ++ tail) = l.length := by
  induction l with
  | nil => cases tail with
    | nil => rfl
    | cons c r => rw [List.nil_append, runL_no (by rw [ht c rfl]; simp)]; rfl
  | cons c l ih =>
    by_cases hc : p c = true
    · rw [runL_yes hc] at h
      rw [List.cons_append, runL_yes hc, ih (by simpa using h), List.length_cons]
    · rw [runL_no hc] at h; simp at h
theorem runL_of_all {p : UInt8 → Bool} {l : List UInt8} (h : ∀ c ∈ l, p c = true) : runL p l = l.length := by
  induction l with
  | nil => rfl
  | cons c l ih => rw [runL_yes (h c (by simp)), ih (fun x hx => h x (by simp [hx])), List.length_cons]

/-- What may stand behind a word or a number. -/
def Delim (l : List UInt8) : Prop := ∀ c, l.head? = some c → wordB c = false

theorem nameL_word {l : List UInt8} (h : nameL l = true) : l ≠ [] ∧ wordL l = l.length ∧ keywordB ⟨l.toArray⟩ = false := by
  simp only [nameL, isNameB, Bool.and_eq_true, bne_iff_ne, beq_iff_eq, Bool.not_eq_true'] at h
  obtain ⟨⟨h1, h2⟩, h3⟩ := h
  simp only [size_length] at h1 h2
  refine ⟨?_, h2, h3⟩
  rintro rfl; exact h1 rfl
theorem lexG_nameW {nm tail : List UInt8} {off : Nat} (h0 : nm ≠ []) (hw : wordL nm = nm.length) (ht : Delim tail) : lexG (nm ++ tail) off = (lexG tail (off + nm.length)).pre [⟨1, nm, 0, off⟩] := by
  cases nm with
  | nil => exact absurd rfl h0
  | cons c r =>
    have hne : wordL (c :: r) ≠ 0 := by rw [hw]; simp
    obtain ⟨hl, h12⟩ := wordL_letter hne
    obtain ⟨hb, h35⟩ := letter_notblank hl
    have hrun : runL wordB (c :: r) = (c :: r).length := by
      simp only [wordL, hl, if_true] at hw
      split at hw
      · exact hw
      · simp at hw
    have hrun2 := runL_all_app hrun ht
    have hw2 : wordL (c :: (r ++ tail)) = (c :: r).length := by
      simp only [wordL, hl, if_true]
      have : runL wordB (c :: (r ++ tail)) = (c :: r).length := hrun2
      rw [this, if_pos (by rw [← hw]; exact h12)]
    have et : tokAt (c :: (r ++ tail)) = some (1, (c :: r).length, 0) := by
      rw [tokAt, if_pos hl, hw2, if_neg (by simp)]
    rw [List.cons_append, lexG_tok h35 (by simp [hb]), et]
    simp only
    rw [show c :: (r ++ tail) = (c :: r) ++ tail from rfl, List.drop_left, List.take_left]

theorem dec_digits (u : Nat) : ∀ c ∈ Lib.decDigits u, digitB c = true := by
  induction u using Nat.strongRecOn with
  | _ u ih =>
    intro c hc
    rw [Lib.decDigits] at hc
    have key : ∀ k, k < 10 → digitB (UInt8.ofNat (48 + k)) = true := by
      intro k hk
      simp only [digitB, ofNat_digit hk, Bool.and_eq_true, decide_eq_true_eq]; omega
    split at hc
    · rename_i h
      simp only [List.mem_singleton] at hc
      rw [hc]; exact key _ h
    · rename_i h
      simp only [List.mem_append, List.mem_singleton] at hc
      rcases hc with hc | hc
      · exact ih _ (by omega) c hc
      · rw [hc]; exact key _ (by omega)
theorem digit_not {c : UInt8} (h : digitB c = true) : letterB c = false ∧ blankB c = false ∧ ¬ c.toNat = 35 ∧ wordB c = true := by
  simp only [digitB, letterB, blankB, wordB, Bool.and_eq_true, decide_eq_true_eq, Bool.or_eq_false_iff, beq_eq_false_iff_ne, ne_eq, Bool.and_eq_false_iff, decide_eq_false_iff_not, Bool.or_eq_true] at h ⊢
  omega
theorem atoi_itoa {n : Int} (h0 : 0 ≤ n) (h1 : n ≤ 9223372036854775807) : atoiV (Lib.itoa n) = n ∧ Lib.itoa n ≠ [] ∧ ∀ c ∈ Lib.itoa n, digitB c = true := by
  obtain ⟨u, rfl⟩ : ∃ u : Nat, n = u := ⟨n.toNat, by omega⟩
  rw [itoa_nat]
  obtain ⟨c, r, h, _, _⟩ := dec_head u
  have hne : Lib.decDigits u ≠ [] := by rw [h]; simp
  refine ⟨?_, hne, dec_digits u⟩
  have := (num_law hne (dec_digits u)).2
  rw [valD_dec] at this
  exact this (by omega)
theorem lexG_numW {n : Int} {tail : List UInt8} {off : Nat} (h0 : 0 ≤ n) (h1 : n ≤ 9223372036854775807) (ht : Delim tail) :
    lexG (Lib.itoa n ++ tail) off = (lexG tail (off + (Lib.itoa n).length)).pre [⟨2, Lib.itoa n, n, off⟩] := by
  obtain ⟨hv, hne, hd⟩ := atoi_itoa h0 h1
  obtain ⟨d, hdd⟩ : ∃ d, Lib.itoa n = d := ⟨_, rfl⟩
  rw [hdd] at hv hne hd ⊢
  cases d with
  | nil => exact absurd rfl hne
  | cons c r =>
    have hc := hd c (by simp)
    obtain ⟨a1, a2, a3, _⟩ := digit_not hc
    have hrun : runL digitB (c :: (r ++ tail)) = (c :: r).length := runL_all_app (runL_of_all hd) (fun x hx => by
      have := ht x hx
      simp only [wordB, Bool.or_eq_false_iff] at this
      exact this.2)
    have htk : (c :: (r ++ tail)).take (c :: r).length = c :: r := by rw [show c :: (r ++ tail) = (c :: r) ++ tail from rfl, List.take_left]
    have et : tokAt (c :: (r ++ tail)) = some (2, (c :: r).length, n) := by
      rw [tokAt, if_neg (by rw [a1]; simp), if_pos hc, hrun, htk, hv, hdd, if_pos rfl]
    rw [List.cons_append, lexG_tok a3 (by rw [a2]; simp), et]
    simp only
    rw [show c :: (r ++ tail) = (c :: r) ++ tail from rfl, List.drop_left, List.take_left]
theorem lexG_one {c : UInt8} {r : List UInt8} {off : Nat} (hs : c ∈ signsL) (h61 : c ≠ 61) : lexG (c :: r) off = (lexG r (off + 1)).pre [⟨3, [c], 0, off⟩] := by
  have hz : signSize (c :: r) = 1 := by
    simp only [signSize, List.isPrefixOf]
    have : (61 == c) = false := by simp; exact fun h => h61 h.symm
    simp [this]
  have ha : ∀ x ∈ signsL, letterB x = false ∧ digitB x = false ∧ blankB x = false ∧ ¬ x.toNat = 35 := by decide
  obtain ⟨a1, a2, a3, a4⟩ := ha c hs
  have et : tokAt (c :: r) = some (3, 1, 0) := by
    rw [tokAt, if_neg (by rw [a1]; simp), if_neg (by rw [a2]; simp), if_pos hs, hz]
  rw [lexG_tok a4 (by rw [a3]; simp), et]; rfl
theorem lexG_two {r : List UInt8} {off : Nat} : lexG (61 :: 61 :: r) off = (lexG r (off + 2)).pre [⟨3, [61, 61], 0, off⟩] := by
  have et : tokAt (61 :: 61 :: r) = some (3, 2, 0) := by
    rw [tokAt, if_neg (by decide), if_neg (by decide), if_pos (by decide)]
    simp [signSize, List.isPrefixOf]
  rw [lexG_tok (by decide) (by decide), et]; rfl
theorem lexG_sp {r : List UInt8} {off : Nat} : lexG (32 :: r) off = lexG r (off + 1) := lexG_blank (by decide)

theorem delim_cons {c : UInt8} {r : List UInt8} (h : wordB c = false) : Delim (c :: r) := fun x hx => by simp at hx; rw [← hx]; exact h

theorem lexG_opW {k : Int} (h1 : 4 ≤ k) (h2 : k ≤ 10) {r : List UInt8} {off : Nat} : lexG ((signP k).1 ++ 32 :: r) off = (lexG (32 :: r) (off + (signP k).1.length)).pre [⟨3, (signP k).1, 0, off⟩] := by
  rcases sign_cases h1 h2 with rfl | rfl | rfl | rfl | rfl | rfl | rfl
  · exact lexG_one (c := 43) (by decide) (by decide)
  · exact lexG_one (c := 45) (by decide) (by decide)
  · exact lexG_one (c := 42) (by decide) (by decide)
  · exact lexG_one (c := 47) (by decide) (by decide)
  · exact lexG_one (c := 37) (by decide) (by decide)
  · exact lexG_one (c := 60) (by decide) (by decide)
  · exact lexG_two

/-- The text of a good tree is lexed as its tokens. -/
theorem lex_print : ∀ (e : Ex), Good e → ∀ (lv : Nat) (tail : List UInt8) (off : Nat), Delim tail → ∃ toks, toks.map bare = ptoks e lv ∧ lexG (printF e lv ++ tail) off = (lexG tail (off + plen e lv)).pre toks := by
  intro e
  induction e with
  | leaf k n nm =>
    intro hg lv tail off ht
    rcases hg with ⟨rfl, h0, h1, rfl⟩ | ⟨rfl, rfl, hn⟩
    · refine ⟨[⟨2, Lib.itoa n, n, off⟩], by simp [ptoks, bare], ?_⟩
      simp only [printF, plen, if_true]
      exact lexG_numW h0 h1 ht
    · obtain ⟨a1, a2, _⟩ := nameL_word hn
      refine ⟨[⟨1, nm, 0, off⟩], by simp [ptoks, bare], ?_⟩
      rw [plen, printF_name]
      exact lexG_nameW a1 a2 ht
  | un k a ih =>
    intro hg lv tail off ht
    obtain ⟨rfl, hg⟩ := hg
    obtain ⟨toks, h1, h2⟩ := ih hg 3 tail (off + 1) ht
    refine ⟨⟨3, [45], 0, off⟩ :: toks, by simp [ptoks, bare, h1], ?_⟩
    simp only [printF, List.cons_append]
    rw [lexG_one (by decide) (by decide), h2, LexR.pre_pre]
    simp only [plen, printF, List.length_cons, List.singleton_append]
    rw [show off + 1 + (printF a 3).length = off + ((printF a 3).length + 1) by omega]
  | bin k a b i1 i2 =>
    intro hg lv tail off ht
    obtain ⟨h1, h2, ga, gb⟩ := hg
    have body : ∀ (tail : List UInt8) (off : Nat), Delim tail → ∃ toks, toks.map bare = ptoks a (leftL k) ++ (3, (signP k).1, 0) :: ptoks b (ownL k + 1) ∧
        lexG (printF a (leftL k) ++ [32] ++ (signP k).1 ++ [32] ++ printF b (ownL k + 1) ++ tail) off = (lexG tail (off + (plen a (leftL k) + plen b (ownL k + 1) + (signP k).1.length + 2))).pre toks := by
      intro tail off ht
      obtain ⟨ta, a1, a2⟩ := i1 ga (leftL k) (32 :: ((signP k).1 ++ 32 :: (printF b (ownL k + 1) ++ tail))) off (delim_cons (by decide))
      obtain ⟨tb, b1, b2⟩ := i2 gb (ownL k + 1) tail (off + plen a (leftL k) + 1 + (signP k).1.length + 1) ht
      refine ⟨ta ++ (⟨3, (signP k).1, 0, off + plen a (leftL k) + 1⟩ :: tb), by simp [a1, b1, bare], ?_⟩
      have e1 : printF a (leftL k) ++ [32] ++ (signP k).1 ++ [32] ++ printF b (ownL k + 1) ++ tail = printF a (leftL k) ++ (32 :: ((signP k).1 ++ 32 :: (printF b (ownL k + 1) ++ tail))) := by simp
      rw [e1, a2, lexG_sp, lexG_opW h1 h2, lexG_sp, b2, LexR.pre_pre, LexR.pre_pre]
      rw [show off + plen a (leftL k) + 1 + (signP k).1.length + 1 + plen b (ownL k + 1) = off + (plen a (leftL k) + plen b (ownL k + 1) + (signP k).1.length + 2) by omega]
      simp
    rw [plen_bin]
    by_cases hlv : ownL k < lv
    · obtain ⟨toks, t1, t2⟩ := body (41 :: tail) (off + 1) (delim_cons (by decide))
      refine ⟨⟨3, [40], 0, off⟩ :: (toks ++ [⟨3, [41], 0, off + 1 + (plen a (leftL k) + plen b (ownL k + 1) + (signP k).1.length + 2)⟩]), by simp [ptoks, hlv, bare, t1], ?_⟩
      simp only [printF, if_pos hlv]
      have e1 : [40] ++ (printF a (leftL k) ++ [32] ++ (signP k).1 ++ [32] ++ printF b (ownL k + 1)) ++ [41] ++ tail = 40 :: (printF a (leftL k) ++ [32] ++ (signP k).1 ++ [32] ++ printF b (ownL k + 1) ++ (41 :: tail)) := by simp
      rw [e1, lexG_one (by decide) (by decide), t2, lexG_one (by decide) (by decide), LexR.pre_pre, LexR.pre_pre]
      rw [show off + 1 + (plen a (leftL k) + plen b (ownL k + 1) + (signP k).1.length + 2) + 1 = off + (plen a (leftL k) + plen b (ownL k + 1) + (signP k).1.length + 2 + 2) by omega]
      simp
    · obtain ⟨toks, t1, t2⟩ := body tail off ht
      refine ⟨toks, by simp [ptoks, hlv, t1], ?_⟩
      simp only [printF, if_neg hlv, Nat.add_zero]
      exact t2

end Go.Proofs.YtgkfmeccipgnjaaDoor
