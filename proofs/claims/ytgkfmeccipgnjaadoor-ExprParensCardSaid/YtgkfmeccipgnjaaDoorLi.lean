/- The contract of lex.Tokens. -/
import Derived.Test.YtgkfmeccipgnjaaDoorLh
import Derived.WalkMore
import Derived.Outline
import Derived.IntWalk
namespace Go.Proofs.YtgkfmeccipgnjaaDoor
open Go.RowKit

def tk0 (s : ByteArray) (pos : Nat) : Array Value := #[.int .i64 0, .string ⟨#[]⟩, .int .i64 0, plc (spotL (s.data.toList.take pos))]

/-- What holds at label l, the number n. -/
def JT (s : ByteArray) (w0 : World) (l n : Nat) (a : Act) (w : World) : Prop :=
  ∃ (f : Nat) (acc : List Tok) (pos : Nat) (v5 : Value) (tc : Array Value) (v8 : Value), TI s w0 v5 acc pos tc w ∧
    IsFr a (.string s) v5 (.pointer (some ⟨w0.heap.size, 0, none⟩)) (.int .i64 pos) v8 ∧
    (match l with
    | 0 => n = 8 * f ∧ s.size < f + pos ∧ lexAll s.data.toList = lexN s.data.toList f pos acc
    | 1 => n = 8 * f + 1 ∧ pos = s.size ∧ tc = tk0 s pos ∧ lexAll s.data.toList = .good (acc ++ [⟨4, [], 0, pos⟩])
    | 2 => n = 8 * f + 3 ∧ s.size ≤ f + pos ∧ (∃ h : pos < s.size, s[pos].toNat = 35) ∧ lexAll s.data.toList = lexN s.data.toList f (pos + runL noteB (s.data.toList.drop pos)) acc
    | 3 => n = 8 * f + 3 ∧ s.size ≤ f + pos ∧ tc = tk0 s pos ∧ lexAll s.data.toList = closeTok s.data.toList (lexN s.data.toList f) pos acc 1 (wordL (s.data.toList.drop pos)) 0
    | 4 => n = 8 * f + 3 ∧ s.size ≤ f + pos ∧ tc = tk0 s pos ∧ lexAll s.data.toList = numTok s.data.toList (lexN s.data.toList f) pos acc
    | 5 => n = 8 * f + 1 ∧ tc[3]? = some (plc (spotL (s.data.toList.take pos))) ∧ lexAll s.data.toList = .bad pos
    | _ => n = 8 * f + 2 ∧ s.size ≤ f + pos ∧ ∃ (kind size : Nat) (m : Int), v8 = .int .i64 size ∧ pos + size ≤ s.size ∧ tc = #[.int .i64 kind, .string ⟨#[]⟩, .int .i64 m, plc (spotL (s.data.toList.take pos))] ∧ lexAll s.data.toList = closeTok s.data.toList (lexN s.data.toList f) pos acc kind size m)

/-- What lex.Tokens answers. -/
def TokPost (s : ByteArray) (w : World) (e : Ending) (w' : World) : Prop :=
  Below w.heap.size w w' ∧ (match lexAll s.data.toList with
    | .bad pos => e = .returned (.tuple #[.slice none 0 0, plc (spotL (s.data.toList.take pos)), .int .i64 2])
    | .good toks => ∃ v, e = .returned (.tuple #[v, .complex .f64 0 0, .int .i64 0]) ∧ SliceAt w' v toks.length (cellsOf s toks))

theorem store_tok0 {ops : Array Oper} {rest : List Oper} {o : Oper} {a : Act} {w : World} {Q : Exit → Act → World → Prop} (hgd : o.guard = none) (x y : Operand) (ho : o.op = .store 31 x y)
    {s : ByteArray} {w0 : World} {v5 : Value} {acc : List Tok} {pos : Nat} {tc : Array Value} (hT : TI s w0 v5 acc pos tc w) (p : Nat) (h1 : pos ≤ p) (h2 : p ≤ s.size) (X Y : Nat)
    (hXY : plc (spotL (s.data.toList.take p)) = .complex .f64 X Y)
    (hx : a.eval x = .pointer (some ⟨w0.heap.size, 0, none⟩)) (hy : a.eval y = .agg #[.int .i64 0, .string ⟨#[]⟩, .int .i64 0, .complex .f64 X Y])
    (h : ∀ w1, TI s w0 v5 acc p (tk0 s p) w1 → wpList Tryd.prog ops Q rest (a.put o.dst undef) w1) : wpList Tryd.prog ops Q (o :: rest) a w :=
  wpList_store_row hgd 31 x y ho w0.heap.size #[.int .i64 0, .string ⟨#[]⟩, .int .i64 0, .complex .f64 X Y] hx hy 31 tc hT.blk info31 hT.four (by simp [Value.oneCell'])
    (h _ (by have := hT.row (tk0 s p) rfl p h1 h2; rw [tk0, hXY] at this; rw [tk0, hXY]; exact this))

theorem own_ge {w : World} {base : Nat} {e : TypeId} {size n : Nat} {v : Value} {xs : List Value} (h : w.ownsRow base e size v n xs) {k : Nat} (hk : v.ownBlock = some k) : base ≤ k := by
  rcases h.2 with ⟨rfl, _⟩ | ⟨g, cap, cur, rfl, hg, _⟩
  · simp [Value.ownBlock] at hk
  · simp [Value.ownBlock] at hk; omega

theorem append_tok {ops : Array Oper} {rest : List Oper} {o : Oper} {a : Act} {w : World} {Q : Exit → Act → World → Prop} (hgd : o.guard = none) (x y : Operand)
    (ho : o.op = .call { callee := .builtin .append, args := #[x, y], argTypes := #[24, 24] })
    {s : ByteArray} {w0 : World} {v5 : Value} {acc : List Tok} {pos : Nat} {tc : Array Value} (hT : TI s w0 v5 acc pos tc w) (hs : s.size ≤ 6000) (cs : Array Value) (t : Tok) (hcs : cs.toList = tokCells s t)
    (H : Nat) (hH : w.heap.size = H) (hx : a.eval x = v5) (hy : a.eval y = .slice (some ⟨H, 0, none⟩) 1 1)
    (h : ∀ v' w', w'.ownsRow (w0.heap.size + 1) 31 4 v' (acc.length + 1) (cellsOf s (acc ++ [t])) → w'.heap[w0.heap.size]? = some (.cells tc 31 (0, 0)) → Below w0.heap.size w0 w' → wpList Tryd.prog ops Q rest (a.put o.dst v') w') :
    wpList Tryd.prog ops Q (o :: rest) a (w.alloc (.cells cs 31)) := by
  subst hH
  obtain ⟨i0, hi, hz0, hz1, hz2⟩ := info_parts info31b
  have hlt := hT.lt
  have hlen := hT.len
  have hpl := hT.posle
  refine wpList_append_own _ hgd x y 24 ho (w0.heap.size + 1) 31 i0 _ 4 48 Tryd.underlying24 hi hz0 hz1 hz2 rfl (by decide) v5 acc.length (cellsOf s acc) hx (hT.own.alloc _) ⟨w.heap.size, 0, none⟩ 1 1 (tokCells s t) hy rfl ?_ ?_ (by unfold maxLen; omega) (by omega) (by simp; omega) ?_
  · intro j u hu
    have e : (⟨w.heap.size, 0, none⟩ : Addr).add j = ⟨w.heap.size, j, none⟩ := by
      unfold Addr.add; split
      · rename_i h0; subst h0; rfl
      · simp
    rw [e, World.cell?_alloc_new, ← Array.getElem?_toList, hcs]; exact hu
  · intro u hu
    simp only [tokCells, List.mem_cons, List.not_mem_nil, or_false] at hu
    rcases hu with rfl | rfl | rfl | rfl <;> simp [Value.oneCell', plc]
  · intro v' w' hown hg _
    refine h v' w' (by simpa [cellsOf] using hown) ?_ ?_
    · rw [hg.block _ (by simp; omega) (fun e => by have := own_ge hT.own e.symm; omega), Below.heap_alloc _ _ _ hlt]; exact hT.blk
    · exact (hT.below.alloc (Nat.le_of_lt hlt) _).grown hg (by simp; omega) (fun k hk => by have := own_ge hT.own hk; omega)

theorem clip_tok (v : Value) (s : ByteArray) {w : World} {base n : Nat} {l : List Tok} (hown : w.ownsRow base 31 4 v (n + 1) (cellsOf s l)) (w1 : World) :
    Calls Tryd.prog 45 #[v] w1 fun e w' => ∃ ve, e = .returned ve ∧ SliceAt w ve (n + 1) (cellsOf s l) ∧ w1 = w' := by
  have hl := hown.1
  rcases hown.2 with ⟨_, h0⟩ | ⟨g, cap, cur, rfl, _, hh, hc, hm, hcur, htk⟩
  · omega
  · have hlt : g < w.heap.size := by
      rcases Nat.lt_or_ge g w.heap.size with hlt | hge
      · exact hlt
      · rw [Array.getElem?_eq_none hge] at hh; cases hh
    have hm' := hm
    unfold maxLen at hm'
    have HS := Lib.hid (show SliceAt w (.slice (some ⟨g, 0, none⟩) (n + 1) (n + 1)) (n + 1) (cellsOf s l) by
      refine ⟨_, _, rfl, Nat.le_refl _, by unfold maxLen; omega, .inr ⟨g, 0, rfl, hlt, fun j u hu => ?_⟩⟩
      rw [Nat.zero_add, cell_of_row w g j cur 31 (0, 0) hh]
      rw [← htk, List.getElem?_take] at hu
      split at hu
      · rw [← Array.getElem?_toList]; exact hu
      · cases hu)
    clear hl htk hh hcur
    go_enter Tryd.func45, Tryd.ntmps45
    go_wp2
    go_ret
    exact ⟨_, rfl, HS.out, rfl⟩

theorem lex_end {L : List UInt8} {f pos p : Nat} {acc : List Tok} (hp : p = pos + runL blankB (L.drop pos)) (h : L.length ≤ p) : lexN L (f + 1) pos acc = .good (acc ++ [⟨4, [], 0, p⟩]) := by
  subst hp; rw [lexN, List.getElem?_eq_none h]
theorem lex_more {L : List UInt8} {f pos p : Nat} {acc : List Tok} (hp : p = pos + runL blankB (L.drop pos)) (h : p < L.length) : lexN L (f + 1) pos acc = oneTok L (lexN L f) p acc L[p] := by
  subst hp; rw [lexN, List.getElem?_eq_getElem h]
theorem tok_note {L : List UInt8} {go} {p : Nat} {acc : List Tok} {c : UInt8} (h : c.toNat = 35) : oneTok L go p acc c = go (p + runL noteB (L.drop p)) acc := by
  unfold oneTok; rw [if_pos h]
theorem tok_word {L : List UInt8} {go} {p : Nat} {acc : List Tok} {c : UInt8} (h : ¬ c.toNat = 35) (hl : letterB c = true) : oneTok L go p acc c = closeTok L go p acc 1 (wordL (L.drop p)) 0 := by
  unfold oneTok; rw [if_neg h, if_pos hl]
theorem tok_num {L : List UInt8} {go} {p : Nat} {acc : List Tok} {c : UInt8} (h : ¬ c.toNat = 35) (hl : letterB c = false) (hd : digitB c = true) : oneTok L go p acc c = numTok L go p acc := by
  unfold oneTok; rw [if_neg h, if_neg (by simp [hl]), if_pos hd]
theorem tok_sign {L : List UInt8} {go} {p : Nat} {acc : List Tok} {c : UInt8} (h : ¬ c.toNat = 35) (hl : letterB c = false) (hd : digitB c = false) (hs : c ∈ signsL) : oneTok L go p acc c = closeTok L go p acc 3 (signSize (L.drop p)) 0 := by
  unfold oneTok; rw [if_neg h, if_neg (by simp [hl]), if_neg (by simp [hd]), if_pos hs]
theorem tok_none {L : List UInt8} {go} {p : Nat} {acc : List Tok} {c : UInt8} (h : ¬ c.toNat = 35) (hl : letterB c = false) (hd : digitB c = false) (hs : c ∉ signsL) : oneTok L go p acc c = .bad p := by
  unfold oneTok; rw [if_neg h, if_neg (by simp [hl]), if_neg (by simp [hd]), if_neg hs]

theorem not35 {c : UInt8} (h : ((c.toNat : Int) == 35) = false) : ¬ c.toNat = 35 := by
  intro e; rw [e] at h; simp at h
theorem sign_yes {c : UInt8} (h : 0 ≤ Lib.indexByte signsL c) : c ∈ signsL := by
  apply Decidable.byContradiction
  intro hn
  have := (indexByte_neg signsL c).mpr hn
  omega
theorem two_fit {s : ByteArray} {p : Nat} (h : [61, 61].isPrefixOf (s.data.toList.drop p) = true) (_hp : p ≤ s.size) : p + 2 ≤ s.size := by
  have h1 := (List.isPrefixOf_iff_prefix.mp h).length_le
  rw [List.length_drop, ← size_length] at h1
  simp at h1; omega
theorem note_pos {s : ByteArray} {p : Nat} (h : p < s.size) (h35 : s[p].toNat = 35) : 1 ≤ runL noteB (s.data.toList.drop p) := by
  rw [runL_go noteB s.data.toList p (by simpa using h) (by show noteB s[p] = true; simp [noteB, h35])]
  omega
theorem tk0_one (s : ByteArray) (p : Nat) : (tk0 s p).all (fun x => x.oneCell') = true := by simp [tk0, plc, Value.oneCell']

set_option maxRecDepth 100000 in
set_option maxHeartbeats 4000000 in
theorem tokens_small (s : ByteArray) (hs : s.size ≤ 6000) (w : World) (hE : Env w) :
    Calls Tryd.prog 15 #[.string s] w fun e w' => TokPost s w e w' := by
  obtain ⟨L, hL⟩ : ∃ L, L = s.data.toList := ⟨_, rfl⟩
  have hLs : L.length = s.size := by rw [hL]; exact (size_length s).symm
  go_enter Tryd.func15, Tryd.ntmps15
  go_wp2
  refine wp_scope_seven (JT s w) rfl rfl rfl rfl rfl rfl rfl ?p0 ?p1 ?p2 ?p3 ?p4 ?p5 ?p6 ?first
  case p0 =>
    intro n a wr hJ
    obtain ⟨f, acc, pos, v5, tc, v8, hT, hF, rfl, hf, hR⟩ := hJ
    obtain ⟨u, rfl⟩ := hF.frame
    unfold frT
    obtain ⟨f, rfl⟩ : ∃ f', f = f' + 1 := ⟨f - 1, by have := hT.posle; omega⟩
    have hpos := hT.posle
    have hle := runL_drop_le blankB s.data.toList pos (by rw [← size_length]; exact hpos)
    rw [← size_length] at hle
    have hk1 : runL blankB (s.data.toList.drop pos) ≤ 6000 := by omega
    obtain ⟨p, hp⟩ : ∃ p : Nat, (pos : Int) + (runL blankB (s.data.toList.drop pos) : Int) = p := ⟨pos + runL blankB (s.data.toList.drop pos), by simp⟩
    have hps : p ≤ s.size := by omega
    have hpp : pos ≤ p := by omega
    have HP := Lib.hid (show p = pos + runL blankB (s.data.toList.drop pos) by omega)
    obtain ⟨X, Y, hXY⟩ : ∃ X Y, plc (spotL (s.data.toList.take p)) = .complex .f64 X Y := ⟨_, _, rfl⟩
    have HXY := Lib.hid hXY
    have HT := Lib.hid hT
    have HR := Lib.hid hR
    have HLs := Lib.hid hLs
    have HL := Lib.hid hL
    clear hF hT hR hLs hL
    by_cases hend : p = s.size
    · have hq : ((p : Int) == (s.size : Int)) = true := by simp [hend]
      have HE := Lib.hid hend
      clear hend
      go_wp2_with (first | (go_at_call 35; refine (run_blank_at s pos hs _).mono ?_; rintro e w' ⟨rfl, rfl⟩) | (go_at_call 34; refine (place_of s p (by omega) hps (by omega) _).mono ?_; rintro e w' ⟨rfl, rfl⟩) | (refine store_tok0 rfl _ _ rfl HT.out p hpp hps X Y HXY.out rfl rfl ?_; intro w1 hw1; have HT1 := Lib.hid hw1; clear hw1))
      go_step3
      refine ⟨by decide, 8 * f + 1, by omega, f, acc, p, v5, tk0 s p, _, HT1.out, ⟨rfl, rfl, rfl, rfl, rfl, rfl, rfl⟩, rfl, HE.out, rfl, ?_⟩
      rw [HR.out, lex_end HP.out (by rw [← size_length, HE.out]; exact Nat.le_refl _)]
    · have hlt : p < s.size := by omega
      have hq : ((p : Int) == (s.size : Int)) = false := by simp; omega
      clear hend
      have HM := Lib.hid (lex_more (f := f) (acc := acc) HP.out (by rw [← size_length]; exact hlt))
      go_wp2_with (first | (go_at_call 35; refine (run_blank_at s pos hs _).mono ?_; rintro e w' ⟨rfl, rfl⟩) | (go_at_call 34; refine (place_of s p (by omega) hps (by omega) _).mono ?_; rintro e w' ⟨rfl, rfl⟩) | (refine store_tok0 rfl _ _ rfl HT.out p hpp hps X Y HXY.out rfl rfl ?_; intro w1 hw1; have hc0 : w1.cell? ⟨w.heap.size, 0, none⟩ = some (.int .i64 0) := hw1.cell 0; have hf0 := hw1.frozen 0; have HT1 := Lib.hid hw1; clear hw1) | (go_at_call 37; refine (letter_any _ _).mono ?_; rintro e w' ⟨rfl, rfl⟩) | (go_at_call 38; refine (digit_any _ _).mono ?_; rintro e w' ⟨rfl, rfl⟩) | (go_at_call 39; refine (eqeq_at _ _ _).mono ?_; rintro e w' ⟨rfl, rfl⟩) | (go_at_call 40; refine (sign_at _ _).mono ?_; rintro e w' ⟨rfl, rfl⟩))
      · have h1 : (s[p].toNat : Int) = 35 := by simpa using (show ((s[p].toNat : Int) == 35) = true by assumption)
        have h35 : s[p].toNat = 35 := by omega
        go_step3
        refine ⟨by decide, 8 * f + 3, by omega, f, acc, p, v5, tk0 s p, _, HT1.out, ⟨rfl, rfl, rfl, rfl, rfl, rfl, rfl⟩, rfl, by omega, ⟨hlt, h35⟩, ?_⟩
        rw [HR.out, HM.out]; exact tok_note h35
      · have h1 : ¬ s[p].toNat = 35 := not35 (by assumption)
        have h2 : letterB s[p] = true := by assumption
        go_step3
        refine ⟨by decide, 8 * f + 3, by omega, f, acc, p, v5, tk0 s p, _, HT1.out, ⟨rfl, rfl, rfl, rfl, rfl, rfl, rfl⟩, rfl, by omega, rfl, ?_⟩
        rw [HR.out, HM.out]; exact tok_word h1 h2
      · have h1 : ¬ s[p].toNat = 35 := not35 (by assumption)
        have h2 : letterB s[p] = false := by assumption
        have h3 : digitB s[p] = true := by assumption
        go_step3
        refine ⟨by decide, 8 * f + 3, by omega, f, acc, p, v5, tk0 s p, _, HT1.out, ⟨rfl, rfl, rfl, rfl, rfl, rfl, rfl⟩, rfl, by omega, rfl, ?_⟩
        rw [HR.out, HM.out]; exact tok_num h1 h2 h3
      · have h1 : ¬ s[p].toNat = 35 := not35 (by assumption)
        have h2 : letterB s[p] = false := by assumption
        have h3 : digitB s[p] = false := by assumption
        have h4 : s[p] ∉ signsL := (indexByte_neg _ _).mp (by assumption)
        go_step3
        refine ⟨by decide, 8 * f + 1, by omega, f, acc, p, v5, tk0 s p, _, HT1.out, ⟨rfl, rfl, rfl, rfl, rfl, rfl, rfl⟩, rfl, rfl, ?_⟩
        rw [HR.out, HM.out]; exact tok_none h1 h2 h3 h4
      · have h1 : ¬ s[p].toNat = 35 := not35 (by assumption)
        have h2 : letterB s[p] = false := by assumption
        have h3 : digitB s[p] = false := by assumption
        have h4 : s[p] ∈ signsL := sign_yes (by assumption)
        have h5 : [61, 61].isPrefixOf (s.data.toList.drop p) = true := by assumption
        go_step3
        refine ⟨by decide, 8 * f + 2, by omega, f, acc, p, v5, _, _, HT1.out.set 0 (.int .i64 3), ⟨rfl, rfl, rfl, rfl, rfl, rfl, rfl⟩, rfl, by omega, 3, 2, 0, rfl, two_fit h5 hps, rfl, ?_⟩
        rw [HR.out, HM.out]; exact (tok_sign h1 h2 h3 h4).trans (by rw [signSize, if_pos h5])
      · have h1 : ¬ s[p].toNat = 35 := not35 (by assumption)
        have h2 : letterB s[p] = false := by assumption
        have h3 : digitB s[p] = false := by assumption
        have h4 : s[p] ∉ signsL := (indexByte_neg _ _).mp (by assumption)
        go_step3
        refine ⟨by decide, 8 * f + 1, by omega, f, acc, p, v5, tk0 s p, _, HT1.out, ⟨rfl, rfl, rfl, rfl, rfl, rfl, rfl⟩, rfl, rfl, ?_⟩
        rw [HR.out, HM.out]; exact tok_none h1 h2 h3 h4
      · have h1 : ¬ s[p].toNat = 35 := not35 (by assumption)
        have h2 : letterB s[p] = false := by assumption
        have h3 : digitB s[p] = false := by assumption
        have h4 : s[p] ∈ signsL := sign_yes (by assumption)
        have h5 : [61, 61].isPrefixOf (s.data.toList.drop p) = false := by assumption
        go_step3
        refine ⟨by decide, 8 * f + 2, by omega, f, acc, p, v5, _, _, HT1.out.set 0 (.int .i64 3), ⟨rfl, rfl, rfl, rfl, rfl, rfl, rfl⟩, rfl, by omega, 3, 1, 0, rfl, by omega, rfl, ?_⟩
        rw [HR.out, HM.out]; exact (tok_sign h1 h2 h3 h4).trans (by rw [signSize, if_neg (by simp [h5])])
  case p2 =>
    intro n a wr hJ
    obtain ⟨f, acc, pos, v5, tc, v8, hT, hF, rfl, hf, ⟨hlt, h35⟩, hR⟩ := hJ
    obtain ⟨u, rfl⟩ := hF.frame
    unfold frT
    have hpos := hT.posle
    have hle := runL_drop_le noteB s.data.toList pos (by rw [← size_length]; exact hpos)
    rw [← size_length] at hle
    have hge : 1 ≤ runL noteB (s.data.toList.drop pos) := note_pos hlt h35
    have hk1 : runL noteB (s.data.toList.drop pos) ≤ 6000 := by omega
    obtain ⟨p, hp⟩ : ∃ p : Nat, (pos : Int) + (runL noteB (s.data.toList.drop pos) : Int) = p := ⟨pos + runL noteB (s.data.toList.drop pos), by simp⟩
    have hps : p ≤ s.size := by omega
    have HP := Lib.hid (show p = pos + runL noteB (s.data.toList.drop pos) by omega)
    have HT := Lib.hid hT
    have HR := Lib.hid hR
    clear hF hT hR hLs hL h35
    go_wp2_with (first | (go_at_call 35; refine (run_note_at s pos hs _).mono ?_; rintro e w' ⟨rfl, rfl⟩))
    go_step3
    refine ⟨by decide, 8 * f, by omega, f, acc, p, v5, tc, _, ⟨hps, HT.out.own, HT.out.blk, HT.out.four, HT.out.below, by have := HT.out.len; omega⟩, ⟨rfl, rfl, rfl, rfl, rfl, rfl, rfl⟩, rfl, by omega, ?_⟩
    rw [HR.out, HP.out]
  case p3 =>
    intro n a wr hJ
    obtain ⟨f, acc, pos, v5, tc, v8, hT, hF, rfl, hf, rfl, hR⟩ := hJ
    obtain ⟨u, rfl⟩ := hF.frame
    unfold frT
    have hpos := hT.posle
    have hle := wordL_le (s.data.toList.drop pos)
    rw [List.length_drop, ← size_length] at hle
    have hc0 : wr.cell? ⟨w.heap.size, 0, none⟩ = some (.int .i64 0) := hT.cell 0
    have hf0 := hT.frozen 0
    have HT := Lib.hid hT
    have HR := Lib.hid hR
    clear hF hT hR hLs hL
    go_wp2_with (first | (go_at_call 42; refine (word_at s pos hs _).mono ?_; rintro e w' ⟨rfl, rfl⟩))
    go_step3
    refine ⟨by decide, 8 * f + 2, by omega, f, acc, pos, v5, _, _, HT.out.set 0 (.int .i64 1), ⟨rfl, rfl, rfl, rfl, rfl, rfl, rfl⟩, rfl, by omega, 1, wordL (s.data.toList.drop pos), 0, rfl, by omega, rfl, HR.out⟩
  case p6 =>
    intro n a wr hJ
    obtain ⟨f, acc, pos, v5, tc, v8, hT, hF, rfl, hf, kind, size, m, rfl, hsz, htc, hR⟩ := hJ
    obtain ⟨u, rfl⟩ := hF.frame
    unfold frT
    have hpos := hT.posle
    by_cases h0 : size = 0
    · have hq : ((size : Int) == 0) = true := by simp [h0]
      have HT := Lib.hid hT
      have HR := Lib.hid (show lexAll s.data.toList = .bad pos by rw [hR, closeTok, if_pos h0])
      have HC := Lib.hid htc
      clear hF hT hR hLs hL htc h0
      go_wp2
      go_step3
      refine ⟨by decide, 8 * f + 1, by omega, f, acc, pos, v5, tc, _, HT.out, ⟨rfl, rfl, rfl, rfl, rfl, rfl, rfl⟩, rfl, by rw [HC.out]; rfl, HR.out⟩
    · have hq : ((size : Int) == 0) = false := by simp; omega
      obtain ⟨p, hp⟩ : ∃ p : Nat, (pos : Int) + (size : Int) = p := ⟨pos + size, by simp⟩
      have hpp : p ≤ s.size := by omega
      have hpq : pos ≤ p := by omega
      have hs1 : 1 ≤ size := by omega
      have HP := Lib.hid (show p = pos + size by omega)
      have HR := Lib.hid (show lexAll s.data.toList = lexN s.data.toList f (pos + size) (acc ++ [⟨kind, (s.data.toList.drop pos).take size, m, pos⟩]) by rw [hR, closeTok, if_neg h0])
      obtain ⟨X, Y, hXY⟩ : ∃ X Y, plc (spotL (s.data.toList.take pos)) = .complex .f64 X Y := ⟨_, _, rfl⟩
      rw [hXY] at htc
      have hc0 : wr.cell? ⟨w.heap.size, 0, none⟩ = some (.int .i64 kind) := by rw [hT.cell 0, htc]; rfl
      have hc1 : wr.cell? ⟨w.heap.size, 1, none⟩ = some (.string ⟨#[]⟩) := by rw [hT.cell 1, htc]; rfl
      have hc2 : wr.cell? ⟨w.heap.size, 2, none⟩ = some (.int .i64 m) := by rw [hT.cell 2, htc]; rfl
      have hc3 : wr.cell? ⟨w.heap.size, 3, none⟩ = some (.complex .f64 X Y) := by rw [hT.cell 3, htc]; rfl
      have hf1 := hT.frozen 1
      have HXY := Lib.hid hXY
      have HT := Lib.hid hT
      have HC := Lib.hid htc
      have Hsz := Lib.hid hsz
      clear hF hT hR hLs hL htc h0 hXY
      have HS := Lib.hid (HT.out.set 1 (.string (s.extract pos p)))
      have Hcs := Lib.hid (show (#[.int .i64 (kind : Int), .string (s.extract pos p), .int .i64 m, .complex .f64 X Y] : Array Value).toList = tokCells s ⟨kind, (s.data.toList.drop pos).take size, m, pos⟩ by
        unfold tokCells; rw [HXY.out, HP.out, bytes_of_list (extract_mid s pos size)])
      go_wp2_with (at_builtin; refine append_tok rfl _ _ rfl HS.out hs _ ⟨kind, (s.data.toList.drop pos).take size, m, pos⟩ Hcs.out _ (by simp) rfl rfl ?_; intro v' w' hown hblk hbel; have Hown := Lib.hid hown; have Hblk := Lib.hid hblk; have Hbel := Lib.hid hbel; clear hown hblk hbel)
      go_step3
      refine ⟨by decide, 8 * f, by omega, f, acc ++ [⟨kind, (s.data.toList.drop pos).take size, m, pos⟩], p, v', _, _, ⟨hpp, by simpa using Hown.out, Hblk.out, by simp [HT.out.four], Hbel.out, by have := HT.out.len; simp; omega⟩, ⟨rfl, rfl, rfl, rfl, rfl, rfl, rfl⟩, rfl, by omega, ?_⟩
      rw [HR.out, HP.out]
  case p4 =>
    intro hp6 n a wr hJ
    obtain ⟨f, acc, pos, v5, tc, v8, hT, hF, rfl, hf, rfl, hR⟩ := hJ
    obtain ⟨u, rfl⟩ := hF.frame
    unfold frT
    have hpos := hT.posle
    obtain ⟨k, hk⟩ : ∃ k, k = runL digitB (s.data.toList.drop pos) := ⟨_, rfl⟩
    have hle := runL_drop_le digitB s.data.toList pos (by rw [← size_length]; exact hpos)
    rw [← size_length, ← hk] at hle
    obtain ⟨p, hp⟩ : ∃ p : Nat, (pos : Int) + (k : Int) = p := ⟨pos + k, by simp⟩
    have hps : p ≤ s.size := by omega
    have hpq : pos ≤ p := by omega
    have HP := Lib.hid (show p = pos + k by omega)
    obtain ⟨d, hd⟩ : ∃ d, d = (s.data.toList.drop pos).take k := ⟨_, rfl⟩
    have HD := Lib.hid (show (s.extract pos p).data.toList = d by rw [hd, HP.out]; exact extract_mid s pos k)
    obtain ⟨m, hm⟩ : ∃ m, m = atoiV d := ⟨_, rfl⟩
    have hmb := atoiV_bounds d
    rw [← hm] at hmb
    obtain ⟨hm1, hm2⟩ := hmb
    have HR := Lib.hid (show lexAll s.data.toList = if Lib.itoa m = d then closeTok s.data.toList (lexN s.data.toList f) pos acc 2 k m else .bad pos by rw [hR, numTok, ← hk, ← hd, ← hm])
    have c35 : ∀ W, Calls Tryd.prog 35 #[.string (s.extract pos s.size), .func (.func 38) #[] #[]] W fun e w' => e = .returned (.int .i64 k) ∧ W = w' := fun W => by rw [hk]; exact run_digit_at s pos hs W
    have c43 : ∀ W, Env W → Calls Tryd.prog 43 #[.string (s.extract pos p)] W fun e w' => ∃ ev, e = .returned (.tuple #[.int .i64 m, ev]) ∧ Below W.heap.size W w' := fun W hW => by
      have h := atoi_at (s.extract pos p) (by simp; omega) W hW
      rw [HD.out, ← hm] at h; exact h
    have C35 := Lib.hid c35
    have C43 := Lib.hid c43
    have hc0 : wr.cell? ⟨w.heap.size, 0, none⟩ = some (.int .i64 0) := hT.cell 0
    have hf0 := hT.frozen 0
    have HE0 := Lib.hid (hE.below (hT.set 0 (.int .i64 2)).below hE.size)
    have HT := Lib.hid hT
    clear hF hT hR hLs hL hk hd hm c35 c43
    go_wp2_with (first | (go_at_call 35; refine (C35.out _).mono ?_; rintro e w' ⟨rfl, rfl⟩) | (go_at_call 43; refine (C43.out _ HE0.out).mono ?_; rintro e w1 ⟨ev, rfl, hb1⟩; have HT1 := Lib.hid ((HT.out.set 0 (.int .i64 2)).grow hb1); have hc2 : w1.cell? ⟨w.heap.size, 2, none⟩ = some (.int .i64 0) := HT1.out.cell 2; have hf2 := HT1.out.frozen 2; clear hb1))
    have HT2 := Lib.hid (HT1.out.set 2 (.int .i64 m))
    obtain ⟨W, hW⟩ : ∃ W, W = w1.setCell ⟨w.heap.size, 2, none⟩ (.int .i64 m) := ⟨_, rfl⟩
    rw [← hW] at HT2 ⊢
    clear hW hc2 hf2
    have hcW : W.cell? ⟨w.heap.size, 2, none⟩ = some (.int .i64 m) := HT2.out.cell 2
    have k1 := Go.cell_regrown hcW
    have cQ : ∀ dd os, Calls Tryd.prog 44 #[.int .i64 m] (Go.Sort.grow (Go.redrawn W dd) os) fun e w'' => e = .returned (.string ⟨(Lib.itoa m).toArray⟩) ∧ ∃ q : Go.Regrown, w'' = Go.Sort.grow (Go.redrawn W q.d) q.os := fun dd os => Go.Calls.regrown_of (itoa_at m hm1 hm2 _ ((hE.below HT2.out.below hE.size).below (Go.below_regrown W dd os) (hE.below HT2.out.below hE.size).size))
    have hwp : IntKind.i64.wrap (p : Int) = (p : Int) := IntWalk.i64_in _ (by omega)
    have i1 : (0 : Int) ≤ (pos : Int) := by omega
    have i2 : (pos : Int) ≤ (p : Int) := by omega
    have i3 : (p : Int) ≤ (s.size : Int) := by omega
    have i4 : (0 : Int) ≤ (p : Int) := by omega
    refine Go.wp_region_quiet_below (by kernel_rfl) (by kernel_rfl) ?_
    repeat (quiet_step (exact cQ _ _))
    refine wpQuiet_nil ?_
    intro _ hw'
    obtain ⟨⟨dq, osq⟩, hw''⟩ := hw'
    subst hw''
    clear cQ k1
    have H6 := Lib.hid hp6
    clear hp6
    have HT3 := Lib.hid (HT2.out.grow (Go.below_regrown W dq osq))
    go_wp2
    · have hq : (!Lib.itoa m == (s.extract pos p).toList) = true := by assumption
      rw [toList_data, HD.out] at hq
      have hne : ¬ Lib.itoa m = d := by simpa using hq
      go_step3
      refine ⟨by decide, 8 * f + 1, by omega, f, acc, pos, v5, _, _, HT3.out, ⟨rfl, rfl, rfl, rfl, rfl, rfl, rfl⟩, rfl, rfl, ?_⟩
      rw [HR.out, if_neg hne]
    · have hq : (!Lib.itoa m == (s.extract pos p).toList) = false := by assumption
      rw [toList_data, HD.out] at hq
      have heq : Lib.itoa m = d := by simpa using hq
      go_step3
      simp only [Exit.then]
      apply_assumption
      refine wp_mono (H6.out (8 * f + 2) _ _ ⟨f, acc, pos, v5, _, .int .i64 k, HT3.out, ⟨rfl, rfl, rfl, rfl, rfl, rfl, rfl⟩, rfl, hf, 2, k, m, rfl, hle, rfl, ?_⟩) (jumps_mono fun l a w h => ⟨h.1, by obtain ⟨_, n', h1, h2⟩ := h; exact ⟨n', by omega, h2⟩⟩)
      rw [HR.out, if_pos heq]
  case p5 =>
    intro n a wr hJ
    obtain ⟨f, acc, pos, v5, tc, v8, hT, hF, rfl, htc, hR⟩ := hJ
    obtain ⟨u, rfl⟩ := hF.frame
    unfold frT
    obtain ⟨X, Y, hXY⟩ : ∃ X Y, plc (spotL (s.data.toList.take pos)) = .complex .f64 X Y := ⟨_, _, rfl⟩
    have hc3 : wr.cell? ⟨w.heap.size, 3, none⟩ = some (.complex .f64 X Y) := by rw [hT.cell 3, htc, hXY]
    have HXY := Lib.hid hXY
    have HT := Lib.hid hT
    have HR := Lib.hid hR
    clear hF hT hR hLs hL htc hXY
    go_wp2
    go_quiet (fail)
    go_wp2
    simp only [jumpsTo]
    go_ret3
    refine ⟨below_drewN HT.out.below _, ?_⟩
    rw [HR.out]
    show Ending.returned (.tuple #[.slice none 0 0, .complex .f64 X Y, .int .i64 2]) = _
    rw [HXY.out]
  case p1 =>
    intro n a wr hJ
    obtain ⟨f, acc, pos, v5, tc, v8, hT, hF, rfl, hpe, rfl, hR⟩ := hJ
    obtain ⟨u, rfl⟩ := hF.frame
    unfold frT
    have hpos := hT.posle
    obtain ⟨X, Y, hXY⟩ : ∃ X Y, plc (spotL (s.data.toList.take pos)) = .complex .f64 X Y := ⟨_, _, rfl⟩
    have hc0 : wr.cell? ⟨w.heap.size, 0, none⟩ = some (.int .i64 0) := hT.cell 0
    have hc1 : wr.cell? ⟨w.heap.size, 1, none⟩ = some (.string ⟨#[]⟩) := hT.cell 1
    have hc2 : wr.cell? ⟨w.heap.size, 2, none⟩ = some (.int .i64 0) := hT.cell 2
    have hc3 : wr.cell? ⟨w.heap.size, 3, none⟩ = some (.complex .f64 X Y) := by rw [← hXY]; exact hT.cell 3
    have hf0 := hT.frozen 0
    have HS := Lib.hid (hT.set 0 (.int .i64 4))
    have Hcs := Lib.hid (show (#[.int .i64 4, .string ⟨#[]⟩, .int .i64 0, .complex .f64 X Y] : Array Value).toList = tokCells s ⟨4, [], 0, pos⟩ by
      unfold tokCells; rw [hXY]; rfl)
    have HR := Lib.hid hR
    clear hF hT hR hLs hL hXY hpe
    go_wp2_with (first | (at_builtin; refine append_tok rfl _ _ rfl HS.out hs _ ⟨4, [], 0, pos⟩ Hcs.out _ (by simp) rfl rfl ?_; intro v' w' hown hblk hbel; have Hown := Lib.hid hown; have Hbel := Lib.hid hbel; clear hown hblk hbel) | (go_at_call 45; refine (clip_tok _ _ Hown.out _).mono ?_; rintro e w'' ⟨ve, rfl, hsl, rfl⟩))
    simp only [jumpsTo]
    go_ret3
    refine ⟨Hbel.out, ?_⟩
    rw [HR.out]
    exact ⟨ve, rfl, by simpa using hsl⟩
  case first =>
    intro hp0
    have H0 := Lib.hid hp0
    clear hp0
    go_wp2
    go_step3
    simp only [Exit.then]
    apply_assumption
    refine wp_mono (H0.out (8 * (s.size + 1)) _ _ ⟨s.size + 1, [], 0, .slice none 0 0, #[.int .i64 0, .string ⟨#[]⟩, .int .i64 0, .complex .f64 0 0], .int .i64 0, ⟨Nat.zero_le _, ⟨rfl, .inl ⟨rfl, rfl⟩⟩, heap_alloc_new w _, rfl, (Below.refl _ _).alloc (Nat.le_refl _) _, Nat.le_refl _⟩, ⟨rfl, rfl, rfl, rfl, rfl, rfl, rfl⟩, rfl, by omega, ?_⟩) (jumps_mono fun l a w h => ⟨h.1, by obtain ⟨_, n', h1, h2⟩ := h; exact ⟨n', h2⟩⟩)
    rw [lexAll, if_neg (by rw [← size_length]; omega), ← size_length]

end Go.Proofs.YtgkfmeccipgnjaaDoor
