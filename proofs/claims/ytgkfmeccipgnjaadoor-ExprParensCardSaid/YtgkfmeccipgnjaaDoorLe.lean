/- Contract of the text that a law makes of raw numbers. -/
import Derived.Test.YtgkfmeccipgnjaaDoorLd
import Derived.Laws.Tables
namespace Go.Proofs.YtgkfmeccipgnjaaDoor
open Go.RowKit

def partsB : List ByteArray := [⟨#[120]⟩, ⟨#[121]⟩, ⟨#[103, 111]⟩, ⟨#[32]⟩, ⟨#[10]⟩, ⟨#[123]⟩, ⟨#[125]⟩, ⟨#[61]⟩, ⟨#[61, 61]⟩, ⟨#[40]⟩, ⟨#[41]⟩, ⟨#[43]⟩, ⟨#[45]⟩, ⟨#[42]⟩, ⟨#[47]⟩, ⟨#[37]⟩, ⟨#[60]⟩, ⟨#[55]⟩, ⟨#[48]⟩, ⟨#[49, 50]⟩, ⟨#[114, 101, 112, 101, 97, 116]⟩, ⟨#[35, 32, 110, 111, 116, 101, 32, 61, 32, 123, 10]⟩, ⟨#[9]⟩, ⟨#[103, 111, 116, 111]⟩, ⟨#[108, 97, 98, 101, 108]⟩, ⟨#[122, 57]⟩, ⟨#[108, 111, 99, 107]⟩, ⟨#[57]⟩, ⟨#[97]⟩, ⟨#[112, 114, 105, 110, 116]⟩]

theorem parts_len : partsB.length = 30 := by decide
theorem parts_one : ((partsB.map Value.string).toArray.all fun x => x.oneCell') = true := by kernel_rfl
theorem info73 : (Tryd.prog.info? 73).map (·.size) = some 30 := by kernel_rfl
theorem parts_small : ∀ i : Fin 30, (partsB.getD i.val ByteArray.empty).size ≤ 11 := by decide +kernel

theorem wrap_tdiv {z d : Int} (h1 : -9223372036854775808 ≤ z) (h2 : z ≤ 9223372036854775807) (hd : 2 ≤ d) : wrap64 (z.tdiv d) = z.tdiv d := by
  have key : -9223372036854775808 ≤ z.tdiv d ∧ z.tdiv d ≤ 9223372036854775807 := by
    by_cases h0 : 0 ≤ z
    · rw [Int.tdiv_eq_ediv_of_nonneg h0]
      have a1 := Int.ediv_nonneg h0 (show 0 ≤ d by omega)
      have a2 := Int.ediv_le_self d h0
      omega
    · have e : z.tdiv d = -((-z).tdiv d) := by rw [Int.neg_tdiv]; omega
      rw [e, Int.tdiv_eq_ediv_of_nonneg (by omega)]
      have a1 := Int.ediv_nonneg (show 0 ≤ -z by omega) (show 0 ≤ d by omega)
      have a2 := Int.ediv_le_self d (show 0 ≤ -z by omega)
      omega
  unfold wrap64; omega

theorem setRow_alloc (w : World) (old cs : Array Value) (t : TypeId) : (w.alloc (.cells old t)).setRow w.heap.size cs = w.alloc (.cells cs t) := by
  unfold World.setRow World.alloc
  congr 1
  apply Array.ext
  · simp
  · intro i h1 h2
    simp at h1 h2
    rw [Array.getElem_modify]
    by_cases h : w.heap.size = i
    · subst h; simp
    · rw [if_neg h]
      rw [Array.getElem_push, Array.getElem_push]
      have : i < w.heap.size := by omega
      simp [this]

/-- A whole row stored into a block that has just been made. -/
theorem store_fresh {P : Program} {ops : Array Oper} {rest : List Oper} {o : Oper} {a : Act} {w : World} {Q : Exit → Act → World → Prop} (hgd : o.guard = none) (ty : TypeId) (x y : Operand) (ho : o.op = .store ty x y)
    (cells : Array Value) (hx : a.eval x = .pointer (some ⟨w.heap.size, 0, none⟩)) (hy : a.eval y = .agg cells)
    (t : TypeId) (old : Array Value) (hi : (P.info? ty).map (·.size) = some cells.size)
    (hold : old.size = cells.size) (h1 : cells.all (·.oneCell') = true)
    (h : wpList P ops Q rest (a.put o.dst undef) (w.alloc (.cells cells t))) : wpList P ops Q (o :: rest) a (w.alloc (.cells old t)) := by
  rw [← setRow_alloc w old cells t] at h
  exact wpList_store_row hgd ty x y ho w.heap.size cells hx hy t old (heap_alloc_new w _) hi hold h1 h

theorem few_int (s : ByteArray) (n : Int) (hs : s.size ≤ maxLen) (h0 : 0 ≤ n) (hn : n ≤ 100000) (w : World) :
    Calls Tryd.prog 33 #[.string s, .int .i64 n] w fun e w' => e = .returned (.string (fewB s n.toNat)) ∧ w = w' := by
  obtain ⟨k, rfl⟩ : ∃ k : Nat, n = k := ⟨n.toNat, by omega⟩
  exact few_any s k hs (by omega) w

/-- What one raw number adds to the text. -/
def pieceB (raw : ByteArray) (z : Int) : ByteArray := if z % 33 < 30 then partsB.getD (z % 33).toNat ByteArray.empty else fewB raw (1 + z.tdiv 33 % 3).toNat
def textB (raw : ByteArray) (zs : List Int) : ByteArray := zs.foldl (fun s z => s ++ pieceB raw z) ByteArray.empty

theorem textB_snoc (raw : ByteArray) (zs : List Int) (z : Int) : textB raw (zs ++ [z]) = textB raw zs ++ pieceB raw z := by simp [textB]
theorem piece_small (raw : ByteArray) (z : Int) : (pieceB raw z).size ≤ 11 := by
  unfold pieceB
  have h0 := Int.emod_nonneg z (b := 33) (by decide)
  have h1 := Int.emod_nonneg (z.tdiv 33) (b := 3) (by decide)
  have h2 := Int.emod_lt_of_pos (z.tdiv 33) (b := 3) (by decide)
  split
  · exact parts_small ⟨(z % 33).toNat, by omega⟩
  · unfold fewB; split <;> simp <;> omega
theorem textB_size (raw : ByteArray) (zs : List Int) : (textB raw zs).size ≤ 11 * zs.length := by
  have gen : ∀ (zs : List Int) (s : ByteArray), (zs.foldl (fun s z => s ++ pieceB raw z) s).size ≤ s.size + 11 * zs.length := by
    intro zs
    induction zs with
    | nil => intro s; simp
    | cons z zs ih =>
      intro s
      have := ih (s ++ pieceB raw z)
      have h := piece_small raw z
      simp only [List.foldl_cons, List.length_cons, ByteArray.size_append] at this ⊢
      omega
  have := gen zs ByteArray.empty
  simpa [textB] using this

theorem take_snocI (zs : List Int) (j : Nat) (h : j < zs.length) : zs.take (j + 1) = zs.take j ++ [zs.getD j 0] := by
  rw [List.take_succ_eq_append_getElem h]; simp [h]

/-- A slice value that reads as a list of whole numbers. -/
def IntsAt (w : World) (v : Value) (zs : List Int) : Prop :=
  zs.length * 8 ≤ 140737488355328 ∧ (∀ j, -9223372036854775808 ≤ zs.getD j 0 ∧ zs.getD j 0 ≤ 9223372036854775807) ∧ ∃ A c, v = .slice A zs.length c ∧ zs.length ≤ c ∧ (zs.length = 0 ∨ ∃ b off, A = some ⟨b, off, none⟩ ∧ b < w.heap.size ∧ ∀ j, j < zs.length → w.cell? ⟨b, off + j, none⟩ = some (.int .i64 (zs.getD j 0)))

set_option maxRecDepth 100000 in
set_option maxHeartbeats 1000000 in
theorem text2_any (v : Value) (zs : List Int) (raw : ByteArray) (hs : raw.size ≤ maxLen) (w : World) (hv : IntsAt w v zs) :
    Calls Tryd.prog 14 #[v, .string raw] w fun e w' => e = .returned (.string (textB raw zs)) ∧ Below w.heap.size w w' := by
  obtain ⟨h47, hzb, A, c, rfl, hc, hcell⟩ := hv
  have HZB := Lib.hid hzb
  clear hzb
  obtain ⟨n, hn⟩ : ∃ n, n = zs.length := ⟨_, rfl⟩
  rw [← hn] at h47 hc hcell ⊢
  have HN := Lib.hid hn
  clear hn
  go_enter Tryd.func14, Tryd.ntmps14
  go_wp2_with (refine store_fresh rfl 73 _ _ rfl (partsB.map Value.string).toArray rfl rfl 73 _ info73 rfl parts_one ?_)
  have hb : Below w.heap.size w (w.alloc (.cells (partsB.map Value.string).toArray 73)) := (Below.refl _ _).alloc (Nat.le_refl _) _
  have hp : ∀ k, k < 30 → (w.alloc (.cells (partsB.map Value.string).toArray 73)).cell? ⟨w.heap.size, k, none⟩ = some (.string (partsB.getD k ByteArray.empty)) := by
    intro k hk
    have hk' : k < partsB.length := by rw [parts_len]; exact hk
    rw [World.cell?_alloc_new]
    simp [hk']
  have hcell' : n = 0 ∨ ∃ b off, A = some ⟨b, off, none⟩ ∧ ∀ j, j < n → (w.alloc (.cells (partsB.map Value.string).toArray 73)).cell? ⟨b, off + j, none⟩ = some (.int .i64 (zs.getD j 0)) := by
    rcases hcell with h | ⟨b, off, hA, hblt, h⟩
    · exact .inl h
    · exact .inr ⟨b, off, hA, fun j hj => (hb.cell (p := ⟨b, off + j, none⟩) hblt).trans (h j hj)⟩
  clear hcell
  obtain ⟨w1, hw1⟩ : ∃ w1, w1 = w.alloc (.cells (partsB.map Value.string).toArray 73) := ⟨_, rfl⟩
  rw [← hw1] at hb hp hcell' ⊢
  have HP := Lib.hid hp
  have HC := Lib.hid hcell'
  clear hp hcell' hw1
  go_loop [6, 13] (fun s i => ∃ j : Nat, j ≤ n ∧ i = .int .i64 j ∧ s = .string (textB raw (zs.take j))) (fun _ i => n - (intOf i).toNat)
  case atStart => exact ⟨0, Nat.zero_le _, rfl, rfl⟩
  case round =>
    obtain ⟨j, hj, rfl, rfl⟩ := hrel
    have hsz := textB_size raw (zs.take j)
    have hlen : (zs.take j).length ≤ j := List.length_take_le _ _
    by_cases hlt : j < n
    · rcases HC.out with h0 | ⟨b, off, rfl, hcl⟩
      · omega
      · have hx := hcl j hlt
        have hT := Lib.hid (take_snocI zs j (by rw [← HN.out]; exact hlt))
        have hzb := HZB.out j
        clear hcl
        generalize zs.getD j 0 = z at hx hT hzb
        obtain ⟨hz1, hz2⟩ := hzb
        have hwr : wrap64 (z.tdiv 33) = z.tdiv 33 := wrap_tdiv hz1 hz2 (by decide)
        have hps := piece_small raw z
        have h0 := Int.emod_nonneg z (b := 33) (by decide)
        have h1 := Int.emod_nonneg (z.tdiv 33) (b := 3) (by decide)
        have h2 := Int.emod_lt_of_pos (z.tdiv 33) (b := 3) (by decide)
        by_cases hk : z % 33 < 30
        · obtain ⟨k, hk2⟩ : ∃ k : Nat, z % 33 = k := ⟨(z % 33).toNat, by omega⟩
          have hpc := HP.out k (by omega)
          have HPe : Hid (pieceB raw z = partsB[k]?.getD ByteArray.empty) := by unfold Hid pieceB; rw [if_pos hk, hk2]; rfl
          rw [HPe.out] at hps
          have HT2 := Lib.hid (show textB raw (zs.take (j + 1)) = textB raw (zs.take j) ++ partsB[k]?.getD ByteArray.empty by rw [hT.out, textB_snoc, HPe.out])
          clear hT HPe
          go_wp2_with (go_at_call 23; refine (pick_any _ _ (by decide) (by decide) _).mono ?_; rintro e w' ⟨rfl, rfl⟩)
          go_round
          case rel => exact ⟨j + 1, by omega, by go_num, by rw [HT2.out]⟩
          case measure => simp [intOf]; omega
        · have HPe : Hid (pieceB raw z = fewB raw (1 + z.tdiv 33 % 3).toNat) := by unfold Hid pieceB; rw [if_neg hk]
          rw [HPe.out] at hps
          have HT2 := Lib.hid (show textB raw (zs.take (j + 1)) = textB raw (zs.take j) ++ fewB raw (1 + z.tdiv 33 % 3).toNat by rw [hT.out, textB_snoc, HPe.out])
          clear hT HPe
          go_wp2_with (first | (go_at_call 23; refine (pick_any _ _ (by decide) (by decide) _).mono ?_; rintro e w' ⟨rfl, rfl⟩) | (go_at_call 33; refine (few_int _ _ hs (by omega) (by omega) _).mono ?_; rintro e w' ⟨rfl, rfl⟩))
          go_round
          case rel => exact ⟨j + 1, by omega, by go_num, by rw [HT2.out]⟩
          case measure => simp [intOf]; omega
    · have hz : Hid (j = n) := by unfold Hid; omega
      go_wp2
      go_ret
      exact ⟨ret_str (by rw [hz.out, HN.out, List.take_length]), hb⟩

end Go.Proofs.YtgkfmeccipgnjaaDoor
