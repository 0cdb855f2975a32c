/- Contract of the reference's Tokens. -/
import Derived.Test.YtgkfmeccipgnjaaDoorLw
import Derived.Test.YtgkfmeccipgnjaaDoorLu
import Derived.WalkMore
namespace Go.Proofs.YtgkfmeccipgnjaaDoor
open Go.RowKit

theorem info41b : (Tryd.prog.info? 41).map (fun i => (i.zero, i.size, i.bytes)) = some (some (.agg #[.int .i64 0, .string ⟨#[]⟩, .int .i64 0, .int .i64 0]), 4, 40) := by kernel_rfl

def refsOf (l : List Tok) : List Value := l.flatMap refCells

theorem append_ref {ops : Array Oper} {rest : List Oper} {o : Oper} {a : Act} {w : World} {Q : Exit → Act → World → Prop} (hgd : o.guard = none) (x y : Operand)
    (ho : o.op = .call { callee := .builtin .append, args := #[x, y], argTypes := #[37, 37] })
    {w0 : World} {v5 : Value} {acc : List Tok} (hown : w.ownsRow w0.heap.size 41 4 v5 acc.length (refsOf acc)) (hlen : acc.length ≤ 6000) (hb : Below w0.heap.size w0 w) (cs : Array Value) (t : Tok) (hcs : cs.toList = refCells t)
    (H : Nat) (hH : w.heap.size = H) (hx : a.eval x = v5) (hy : a.eval y = .slice (some ⟨H, 0, none⟩) 1 1)
    (h : ∀ v' w', w'.ownsRow w0.heap.size 41 4 v' (acc.length + 1) (refsOf (acc ++ [t])) → Below w0.heap.size w0 w' → wpList Tryd.prog ops Q rest (a.put o.dst v') w') :
    wpList Tryd.prog ops Q (o :: rest) a (w.alloc (.cells cs 41)) := by
  subst hH
  obtain ⟨i0, hi, hz0, hz1, hz2⟩ := info_parts info41b
  have hsz := hb.size
  refine wpList_append_own _ hgd x y 37 ho w0.heap.size 41 i0 _ 4 40 Tryd.underlying37 hi hz0 hz1 hz2 rfl (by decide) v5 acc.length (refsOf acc) hx (hown.alloc _) ⟨w.heap.size, 0, none⟩ 1 1 (refCells t) hy rfl ?_ ?_ (by unfold maxLen; omega) (by omega) (by simp; omega) ?_
  · intro j u hu
    have e : (⟨w.heap.size, 0, none⟩ : Addr).add j = ⟨w.heap.size, j, none⟩ := by
      unfold Addr.add; split
      · rename_i h0; subst h0; rfl
      · simp
    rw [e, World.cell?_alloc_new, ← Array.getElem?_toList, hcs]; exact hu
  · intro u hu
    simp only [refCells, List.mem_cons, List.not_mem_nil, or_false] at hu
    rcases hu with rfl | rfl | rfl | rfl <;> simp [Value.oneCell']
  · intro v' w' hown' hg _
    refine h v' w' (by simpa [refsOf] using hown') ?_
    exact (hb.alloc hsz _).grown hg (by simp; omega) (fun k hk => own_ge hown hk)

theorem own_keep {w w' : World} {B e size n : Nat} {v : Value} {xs : List Value} (h : w.ownsRow B e size v n xs) (hb : Below w.heap.size w w') : w'.ownsRow B e size v n xs := by
  obtain ⟨h1, h2⟩ := h
  refine ⟨h1, ?_⟩
  rcases h2 with h2 | ⟨g, cap, cur, hv, hg, hh, r⟩
  · exact .inl h2
  · refine .inr ⟨g, cap, cur, hv, hg, ?_, r⟩
    have : g < w.heap.size := by
      rcases Nat.lt_or_ge g w.heap.size with hlt | hge
      · exact hlt
      · rw [Array.getElem?_eq_none hge] at hh; cases hh
    rw [hb.block g this]; exact hh
theorem ref_slice {w : World} {base : Nat} {v : Value} {n : Nat} {xs : List Value} (hown : w.ownsRow base 41 4 v (n + 1) xs) : SliceAt w v (n + 1) xs := by
  have hl := hown.1
  rcases hown.2 with ⟨_, h0⟩ | ⟨g, cap, cur, rfl, _, hh, hc, hm, hcur, htk⟩
  · omega
  · have hlt : g < w.heap.size := by
      rcases Nat.lt_or_ge g w.heap.size with hlt | hge
      · exact hlt
      · rw [Array.getElem?_eq_none hge] at hh; cases hh
    refine ⟨_, _, rfl, hc, hm, .inr ⟨g, 0, rfl, hlt, fun j u hu => ?_⟩⟩
    rw [Nat.zero_add, cell_of_row w g j cur 41 (0, 0) hh]
    rw [← htk, List.getElem?_take] at hu
    split at hu
    · rw [← Array.getElem?_toList]; exact hu
    · cases hu

/-- What the reference's Tokens answers. -/
def RefPost (s : ByteArray) (w : World) (e : Ending) (w' : World) : Prop :=
  Below w.heap.size w w' ∧ (match lexAll s.data.toList with
    | .bad pos => e = .returned (.tuple #[.slice none 0 0, .int .i64 pos, .int .i64 2])
    | .good toks => ∃ v, e = .returned (.tuple #[v, .int .i64 0, .int .i64 0]) ∧ SliceAt w' v toks.length (refsOf toks))

set_option maxRecDepth 100000 in
set_option maxHeartbeats 1000000 in
theorem reftok_big (s : ByteArray) (hs : 6000 < s.size) (hm : s.size ≤ maxLen) (w : World) :
    Calls Tryd.prog 20 #[.string s] w fun e w' => RefPost s w e w' := by
  unfold maxLen at hm
  have HR := Lib.hid (show lexAll s.data.toList = .bad 6000 by rw [lexAll, if_pos (by rw [← size_length]; exact hs)])
  go_enter Tryd.func20, Tryd.ntmps20
  go_wp2
  go_ret3
  refine ⟨Below.refl _ _, ?_⟩
  rw [HR.out]
  rfl

/-- What holds at the loop's head. -/
structure RI (s : ByteArray) (w0 : World) (acc : List Tok) (p : Nat) (v5 : Value) (w : World) : Prop where
  own : w.ownsRow w0.heap.size 41 4 v5 acc.length (refsOf acc)
  below : Below w0.heap.size w0 w
  len : acc.length ≤ p
  lex : lexAll s.data.toList = (lexG (s.data.toList.drop p) p).pre acc

theorem drop_at (s : ByteArray) (p : Nat) (h : p < s.size) : s.data.toList.drop p = s[p] :: s.data.toList.drop (p + 1) := List.drop_eq_getElem_cons (by simpa using h)
theorem RI.blank {s : ByteArray} {w0 w : World} {acc : List Tok} {p : Nat} {v5 : Value} (h : RI s w0 acc p v5 w) (hp : p < s.size) (hb : blankB s[p] = true) : RI s w0 acc (p + 1) v5 w :=
  ⟨h.own, h.below, by have := h.len; omega, by rw [h.lex, drop_at s p hp, lexG_blank hb]⟩
theorem RI.note {s : ByteArray} {w0 w : World} {acc : List Tok} {p q : Nat} {v5 : Value} (h : RI s w0 acc p v5 w) (hp : p < s.size) (hb : s[p].toNat = 35) (hq : q = p + runL noteB (s.data.toList.drop p)) : RI s w0 acc q v5 w := by
  refine ⟨h.own, h.below, by have := h.len; omega, ?_⟩
  have := lexG_note (off := p) (r := s.data.toList.drop (p + 1)) hb
  rw [← drop_at s p hp, List.drop_drop] at this
  rw [h.lex, this, hq]
theorem RI.tok {s : ByteArray} {w0 w : World} {acc : List Tok} {p : Nat} {v5 : Value} (h : RI s w0 acc p v5 w) (hp : p < s.size) (h35 : ¬ s[p].toNat = 35) (hb : ¬ blankB s[p] = true) :
    (oneR s.data.toList p = (zeroTok, 0) ∧ lexAll s.data.toList = .bad p) ∨
    ∃ t size, oneR s.data.toList p = ((refCells t).toArray, size) ∧ 1 ≤ size ∧ p + size ≤ s.size ∧ lexAll s.data.toList = (lexG (s.data.toList.drop (p + size)) (p + size)).pre (acc ++ [t]) := by
  have hl := lexG_tok (off := p) (r := s.data.toList.drop (p + 1)) h35 hb
  rw [← drop_at s p hp] at hl
  cases ht : tokAt (s.data.toList.drop p) with
  | none => left; rw [ht] at hl; exact ⟨by rw [oneR, ht], by rw [h.lex, hl]; rfl⟩
  | some q =>
    obtain ⟨k, size, n⟩ := q
    right
    have hsz := tokAt_size ht
    rw [List.length_drop, ← size_length] at hsz
    rw [ht] at hl
    refine ⟨⟨k, (s.data.toList.drop p).take size, n, p⟩, size, by rw [oneR, ht], hsz.1, by omega, ?_⟩
    rw [h.lex, hl]
    simp only
    rw [LexR.pre_pre, List.drop_drop]
theorem RI.done {s : ByteArray} {w0 w : World} {acc : List Tok} {p : Nat} {v5 : Value} (h : RI s w0 acc p v5 w) (hp : p = s.size) : lexAll s.data.toList = .good (acc ++ [⟨4, [], 0, p⟩]) := by
  rw [h.lex, hp, List.drop_eq_nil_of_le (by rw [← size_length]; exact Nat.le_refl _), lexG_nil]; rfl

set_option maxRecDepth 100000 in
set_option maxHeartbeats 4000000 in
theorem reftok_small (s : ByteArray) (hs : s.size ≤ 6000) (w : World) :
    Calls Tryd.prog 20 #[.string s] w fun e w' => RefPost s w e w' := by
  have hstart := Lib.hid (show RI s w [] 0 (.slice none 0 0) w from ⟨⟨rfl, .inl ⟨rfl, rfl⟩⟩, Below.refl _ _, Nat.le_refl _, by rw [lexG_all (by rw [← size_length]; exact hs)]; simp⟩)
  go_enter Tryd.func20, Tryd.ntmps20
  go_wp2
  go_loopw [5, 6] (fun v5 iv wr => ∃ (acc : List Tok) (p : Nat), p ≤ s.size ∧ iv = .int .i64 p ∧ Hid (RI s w acc p v5 wr)) (fun _ iv _ => s.size - (intOf iv).toNat)
  case atStart => exact ⟨[], 0, Nat.zero_le _, rfl, hstart⟩
  case round =>
    obtain ⟨acc, p, hp, rfl, HI⟩ := hrel
    by_cases hlt : p < s.size
    · by_cases hb : blankB s[p] = true
      · have HI2 := Lib.hid (HI.out.blank hlt hb)
        simp only [blankB, Bool.or_eq_true, beq_iff_eq] at hb
        clear HI
        rcases hb with (hb | hb) | hb
        · have g : ((s[p].toNat : Int) == 32) = true := by simp [hb]
          clear hb
          go_wp2
          go_roundw
          case rel => exact ⟨acc, p + 1, by omega, by go_num, HI2⟩
          case measure => simp [intOf]; omega
        · have g1 : ((s[p].toNat : Int) == 32) = false := by simp [hb]
          have g : ((s[p].toNat : Int) == 9) = true := by simp [hb]
          clear hb
          go_wp2
          go_roundw
          case rel => exact ⟨acc, p + 1, by omega, by go_num, HI2⟩
          case measure => simp [intOf]; omega
        · have g1 : ((s[p].toNat : Int) == 32) = false := by simp [hb]
          have g2 : ((s[p].toNat : Int) == 9) = false := by simp [hb]
          have g : ((s[p].toNat : Int) == 10) = true := by simp [hb]
          clear hb
          go_wp2
          go_roundw
          case rel => exact ⟨acc, p + 1, by omega, by go_num, HI2⟩
          case measure => simp [intOf]; omega
      · have HB := Lib.hid hb
        simp only [blankB, Bool.or_eq_true, beq_iff_eq, not_or] at hb
        obtain ⟨⟨b1, b2⟩, b3⟩ := hb
        have g1 : ((s[p].toNat : Int) == 32) = false := by simp only [beq_eq_false_iff_ne]; omega
        have g2 : ((s[p].toNat : Int) == 9) = false := by simp only [beq_eq_false_iff_ne]; omega
        have g3 : ((s[p].toNat : Int) == 10) = false := by simp only [beq_eq_false_iff_ne]; omega
        clear b1 b2 b3
        by_cases h35 : s[p].toNat = 35
        · have g4 : ((s[p].toNat : Int) == 35) = true := by simp [h35]
          obtain ⟨n, hn⟩ : ∃ n, n = runL noteB (s.data.toList.drop p) := ⟨_, rfl⟩
          have hn1 : 1 ≤ n := by rw [hn]; exact note_pos hlt h35
          have hle := runL_drop_le noteB s.data.toList p (by rw [← size_length]; omega)
          rw [← size_length, ← hn] at hle
          have HI2 := Lib.hid (HI.out.note hlt h35 (q := p + n) (by rw [hn]))
          have HN := Lib.hid hn
          clear h35 HI HB hn
          go_wp2
          go_loop [6] (fun jv => ∃ k : Nat, k ≤ n ∧ jv = .int .i64 (p + k : Nat) ∧ Hid (n = k + runL noteB (s.data.toList.drop (p + k)))) (fun jv => s.size - (intOf jv).toNat)
          case atStart => exact ⟨0, by omega, rfl, by unfold Hid; rw [Nat.zero_add]; exact HN.out⟩
          case round =>
            obtain ⟨k, hk, rfl, HK⟩ := hrel
            obtain ⟨q, hq⟩ : ∃ q : Nat, q = p + k := ⟨_, rfl⟩
            have hql : q ≤ s.size := by omega
            have hkq : (q : Int) - (p : Int) = (k : Int) := by omega
            have HQ := Lib.hid hq
            rw [← hq] at HK ⊢
            by_cases hkn : k < n
            · obtain ⟨hqs, hqn⟩ := runL_here hql (show 0 < runL noteB (s.data.toList.drop q) by have := HK.out; omega)
              have HK2 := Lib.hid (show n = k + 1 + runL noteB (s.data.toList.drop (p + (k + 1))) by
                have := HK.out; rw [runL_go noteB s.data.toList q (by simpa using hqs) (by rw [getL s q hqs]; exact hqn)] at this
                rw [show p + (k + 1) = q + 1 by omega]; omega)
              have g5 : ((s[q].toNat : Int) == 10) = false := by
                simp only [noteB, Bool.not_eq_true', beq_eq_false_iff_ne] at hqn
                simp only [beq_eq_false_iff_ne]; omega
              clear hq hqn
              go_wp2
              go_round
              case rel => exact ⟨k + 1, by omega, by have := HQ.out; go_num, HK2⟩
              case measure => simp [intOf]; omega
            · have hkn2 : k = n := by omega
              subst hkn2
              have hcase : s.size = q ∨ ∃ h : q < s.size, ((s[q].toNat : Int) == 10) = true := by
                rcases Nat.lt_or_ge q s.size with h | h
                · right
                  refine ⟨h, ?_⟩
                  have h2 := HK.out
                  cases hw : noteB s[q] with
                  | true => rw [runL_go noteB s.data.toList q (by simpa using h) (by rw [getL s q h]; exact hw)] at h2; omega
                  | false => simp only [noteB, Bool.not_eq_false', beq_iff_eq] at hw; simp [hw]
                · left; omega
              clear hq
              rcases hcase with he | ⟨h, g5⟩
              · go_wp2
                go_roundw
                case rel => exact ⟨acc, q, by omega, rfl, by rw [HQ.out]; exact HI2⟩
                case measure => simp [intOf]; omega
              · go_wp2
                go_roundw
                case rel => exact ⟨acc, q, by omega, rfl, by rw [HQ.out]; exact HI2⟩
                case measure => simp [intOf]; omega
        · have g4 : ((s[p].toNat : Int) == 35) = false := by simp only [beq_eq_false_iff_ne]; omega
          have hle := HI.out.len
          rcases HI.out.tok hlt h35 HB.out with ⟨ho, hbad⟩ | ⟨t, size, ho, hs1, hsz, hgood⟩
          · have C48 := Lib.hid (show ∀ W, Calls Tryd.prog 48 #[.string s, .int .i64 p] W fun e w' => e = .returned (.tuple #[.agg #[.int .i64 0, .string ⟨#[]⟩, .int .i64 0, .int .i64 0], .int .i64 0]) ∧ Below W.heap.size W w' from fun W => by
              have h := one_ref s p hs hlt W
              rw [ho] at h; exact h)
            have HBad := Lib.hid hbad
            clear ho hbad h35 hle
            go_wp2_with (go_at_call 48; refine (C48.out _).mono ?_; rintro e w1 ⟨rfl, hb1⟩; have HB1 := Lib.hid (HI.out.below.trans (hb1.mono HI.out.below.size)); clear hb1)
            go_ret3
            refine ⟨HB1.out.alloc HB1.out.size _, ?_⟩
            rw [HBad.out]
            rfl
          · have C48 := Lib.hid (show ∀ W, Calls Tryd.prog 48 #[.string s, .int .i64 p] W fun e w' => e = .returned (.tuple #[.agg #[.int .i64 t.kind, .string ⟨t.text.toArray⟩, .int .i64 t.n, .int .i64 t.pos], .int .i64 size]) ∧ Below W.heap.size W w' from fun W => by
              have h := one_ref s p hs hlt W
              rw [ho] at h; exact h)
            have HG := Lib.hid hgood
            have g5 : ((size : Int) == 0) = false := by simp only [beq_eq_false_iff_ne]; omega
            obtain ⟨q, hq⟩ : ∃ q : Nat, (p : Int) + (size : Int) = q := ⟨p + size, by simp⟩
            have hqs : q ≤ s.size := by omega
            have hpq : p < q := by omega
            have HQ := Lib.hid (show p + size = q by omega)
            clear ho hgood h35 hsz
            go_wp2_with (first | (go_at_call 48; refine (C48.out _).mono ?_; rintro e w1 ⟨rfl, hb1⟩; have HB1 := Lib.hid (HI.out.below.trans (hb1.mono HI.out.below.size)); have HO1 := Lib.hid (own_keep HI.out.own hb1); clear hb1) | (at_builtin; refine append_ref rfl _ _ rfl (HO1.out.alloc _) (by omega) (HB1.out.alloc HB1.out.size _) _ t rfl _ (by simp) rfl rfl ?_; intro v' w' hown hbel; have Hown := Lib.hid hown; have Hbel := Lib.hid hbel; clear hown hbel))
            go_roundw
            case rel => exact ⟨acc ++ [t], q, hqs, rfl, ⟨by simpa using Hown.out, Hbel.out, by simp; omega, by rw [HG.out, HQ.out]⟩⟩
            case measure => simp [intOf]; omega
    · have hz : p = s.size := by omega
      have HD := Lib.hid (HI.out.done hz)
      have hle := HI.out.len
      subst hz
      go_wp2_with (at_builtin; refine append_ref rfl _ _ rfl HI.out.own (by omega) HI.out.below _ ⟨4, [], 0, s.size⟩ rfl _ (by simp) rfl rfl ?_; intro v' w' hown hbel; have Hown := Lib.hid hown; have Hbel := Lib.hid hbel; clear hown hbel)
      go_ret3
      refine ⟨Hbel.out, ?_⟩
      rw [HD.out]
      exact ⟨v', rfl, by have := ref_slice Hown.out; simpa using this⟩

theorem reftok_any (s : ByteArray) (hm : s.size ≤ maxLen) (w : World) :
    Calls Tryd.prog 20 #[.string s] w fun e w' => RefPost s w e w' := by
  by_cases hs : s.size ≤ 6000
  · exact reftok_small s hs w
  · exact reftok_big s (by omega) hm w
end Go.Proofs.YtgkfmeccipgnjaaDoor
