/- LexKnown: the walk. -/
import Derived.Test.YtgkfmeccipgnjaaDoorN4
import Derived.Laws.MakeOwn
import Derived.Laws.IdiomStrings
namespace Go.Proofs.YtgkfmeccipgnjaaDoor
open Go.RowKit

theorem tok_bad (S : ByteArray) (hS : S.size ≤ maxLen) (p : Nat) (hl : lexAll S.data.toList = .bad p) (V : Value) (hV : plc (spotL (S.data.toList.take p)) = V) (w : World) (hE : Env w) :
    Calls Tryd.prog 15 #[.string S] w fun e w' => e = .returned (.tuple #[.slice none 0 0, V, .int .i64 2]) ∧ Below w.heap.size w w' :=
  (tokens_any S hS w hE).mono fun e w' ⟨hb, hr⟩ => by rw [hl] at hr; exact ⟨by rw [← hV]; exact hr, hb⟩

def spacesN (n : Nat) : ByteArray := ⟨(List.replicate n (32 : UInt8)).toArray⟩
theorem spacesN_list (n : Nat) : (spacesN n).data.toList = List.replicate n 32 := by simp [spacesN]
def spaces : ByteArray := spacesN 6001
theorem spaces_list : spaces.data.toList = List.replicate 6001 32 := spacesN_list 6001
theorem spot_spaces (n : Nat) : spotL (List.replicate n (32 : UInt8)) = (1, n + 1) := by
  induction n with
  | zero => rfl
  | succ n ih => rw [List.replicate_succ', spotL_snoc, ih]; rfl
theorem spaces_lex : lexAll spaces.data.toList = .bad 6000 := by
  unfold lexAll; rw [if_pos]; rw [spaces_list, List.length_replicate]; decide
theorem plc_6001 : plc (1, 6001) = .complex .f64 4607182418800017408 4663320183979376640 := by kernel_rfl
theorem spaces_plc : plc (spotL (spaces.data.toList.take 6000)) = .complex .f64 4607182418800017408 4663320183979376640 := by
  rw [spaces_list, List.take_replicate, spot_spaces]
  exact plc_6001
theorem spaces_size : spaces.size = 6001 := by rw [size_length, spaces_list, List.length_replicate]

theorem info5 : (Tryd.prog.info? 5).map (fun i => (i.zero, i.size, i.bytes)) = some (some (.int .u8 0), 1, 1) := by kernel_rfl
theorem make_spaces : ∃ Z : Array Value, Z.size = 6001 ∧ ∀ W : World, (Instr.makeSlice 35 (.int .i64 6001) (.int .i64 6001)).run Tryd.prog W = .ok (.slice (some ⟨W.heap.size, 0, none⟩) 6001 6001) (W.alloc (.cells Z 5)) := by
  obtain ⟨i, hi, hz, h1, h2⟩ := info_parts info5
  refine ⟨madeCells #[.int .u8 0] 6001, size_madeCells _ _, fun W => ?_⟩
  have h := run_make (P := Tryd.prog) W 35 5 i _ Tryd.underlying35 hi hz .i64 .i64 6001 6001 (by decide) (by decide) (by rw [h2]; decide) (by decide)
  rw [h1] at h
  exact h

theorem conv_spaces (W : World) (H : Nat) (h : ∀ j, j < 6001 → W.cell? ⟨H, j, none⟩ = some (.int .u8 32)) :
    (convert 35 9 (.slice (some ⟨H, 0, none⟩) 6001 6001)).run Tryd.prog W = .ok (.string spaces) W := by
  have hl : (List.replicate 6001 (32 : UInt8)).length = 6001 := List.length_replicate
  have h2 := run_convert_bytes_back (P := Tryd.prog) W 35 9 5 ⟨H, 0, none⟩ 6001 (List.replicate 6001 32) Tryd.underlying35 Tryd.underlying5 Tryd.underlying9 (by
    intro j hj
    rw [hl] at hj
    have e : (⟨H, 0, none⟩ : Addr).add j = ⟨H, j, none⟩ := by
      unfold Addr.add; split
      · rename_i h0; subst h0; rfl
      · simp
    rw [e, h j hj, List.getElem_replicate]; rfl)
  rw [hl] at h2
  exact h2

def k1 : ByteArray := ⟨#[103, 111, 123, 10, 9, 120, 57, 61, 40, 51, 41, 37, 50, 10, 125, 61, 61, 61]⟩
def k9 : ByteArray := ⟨#[32, 10, 32, 126]⟩
def k10 : ByteArray := ⟨#[97, 32, 57, 50, 50, 51, 51, 55, 50, 48, 51, 54, 56, 53, 52, 55, 55, 53, 56, 48, 56]⟩
def k11 : ByteArray := ⟨#[57, 50, 50, 51, 51, 55, 50, 48, 51, 54, 56, 53, 52, 55, 55, 53, 56, 48, 55, 120, 32, 48]⟩
def k12 : ByteArray := ⟨#[48, 32, 48, 49]⟩
def k13 : ByteArray := ⟨#[97, 98, 99, 100, 101, 102, 103, 104, 105, 106, 107, 108, 109]⟩
def k14 : ByteArray := ⟨#[97, 98, 99, 100, 101, 102, 103, 104, 105, 106, 107, 108, 35]⟩
def k16 : ByteArray := ⟨#[120, 89]⟩
theorem lex9 : lexAll k9.data.toList = .bad 3 := by decide +kernel
theorem lex10 : lexAll k10.data.toList = .bad 2 := by decide +kernel
theorem lex12 : lexAll k12.data.toList = .bad 2 := by decide +kernel
theorem lex13 : lexAll k13.data.toList = .bad 0 := by decide +kernel
theorem lex16 : lexAll k16.data.toList = .bad 1 := by decide +kernel
theorem lex1 : lexAll k1.data.toList = .good [⟨1, [103, 111], 0, 0⟩, ⟨3, [123], 0, 2⟩, ⟨1, [120, 57], 0, 5⟩, ⟨3, [61], 0, 7⟩, ⟨3, [40], 0, 8⟩, ⟨2, [51], 3, 9⟩, ⟨3, [41], 0, 10⟩, ⟨3, [37], 0, 11⟩, ⟨2, [50], 2, 12⟩, ⟨3, [125], 0, 14⟩, ⟨3, [61, 61], 0, 15⟩, ⟨3, [61], 0, 17⟩, ⟨4, [], 0, 18⟩] := by decide +kernel
theorem lex11 : lexAll k11.data.toList = .good [⟨2, [57, 50, 50, 51, 51, 55, 50, 48, 51, 54, 56, 53, 52, 55, 55, 53, 56, 48, 55], 9223372036854775807, 0⟩, ⟨1, [120], 0, 19⟩, ⟨2, [48], 0, 21⟩, ⟨4, [], 0, 22⟩] := by decide +kernel
theorem lex14 : lexAll k14.data.toList = .good [⟨1, [97, 98, 99, 100, 101, 102, 103, 104, 105, 106, 107, 108], 0, 0⟩, ⟨4, [], 0, 13⟩] := by decide +kernel
theorem lex15 : lexAll (⟨#[]⟩ : ByteArray).data.toList = .good [⟨4, [], 0, 0⟩] := by decide +kernel
theorem plc9 : plc (spotL (k9.data.toList.take 3)) = .complex .f64 4611686018427387904 4611686018427387904 := by kernel_rfl
theorem plc10 : plc (spotL (k10.data.toList.take 2)) = .complex .f64 4607182418800017408 4613937818241073152 := by kernel_rfl
theorem plc12 : plc (spotL (k12.data.toList.take 2)) = .complex .f64 4607182418800017408 4613937818241073152 := by kernel_rfl
theorem plc13 : plc (spotL (k13.data.toList.take 0)) = .complex .f64 4607182418800017408 4607182418800017408 := by kernel_rfl
theorem plc16 : plc (spotL (k16.data.toList.take 1)) = .complex .f64 4607182418800017408 4611686018427387904 := by kernel_rfl
theorem plc1 : plc (spotL (k1.data.toList.take 5)) = .complex .f64 4611686018427387904 4611686018427387904 := by kernel_rfl
theorem kwA : keywordB ⟨#[114, 101, 112, 101, 97, 116]⟩ = true := by decide +kernel
theorem kwB : keywordB ⟨#[120]⟩ = false := by decide +kernel
theorem nmA : isNameB ⟨#[102, 105, 120, 48]⟩ = true := by decide +kernel
theorem nmB : isNameB ⟨#[103, 111]⟩ = false := by decide +kernel
theorem nmC : isNameB ⟨#[]⟩ = false := by decide +kernel
theorem nmD : isNameB ⟨#[48, 97]⟩ = false := by decide +kernel
theorem nmE : isNameB ⟨#[97, 98, 99, 100, 101, 102, 103, 104, 105, 106, 107, 108, 109]⟩ = false := by decide +kernel
theorem nmF : isNameB ⟨#[97, 32, 98]⟩ = false := by decide +kernel

set_option maxRecDepth 100000 in
set_option maxHeartbeats 8000000 in
theorem lexKnown_walk (W0 : World) (hE : Env W0) :
    Calls Tryd.prog 5 #[] W0 fun e w' => e = .returned (.bool true) ∧ Below W0.heap.size W0 w' := by
  have HE := Lib.hid (fun w (hw : Below W0.heap.size W0 w) => hE.below hw hE.size)
  clear hE
  obtain ⟨Z, hZ, hmk⟩ := make_spaces
  have HZ := Lib.hid hZ
  clear hZ
  go_enter Tryd.func5, Tryd.ntmps5
  go_wp2_with fail
  refine (tokens_good k1 lex1 W0 (HE.out W0 (Below.refl _ _))).mono ?_
  rintro e w1 ⟨b1, o1, c1, rfl, hc1, hm1, hl1, ht1, hb⟩
  have HT1 := Lib.hid ht1
  have HB := Lib.hid hb
  clear ht1 hb
  go_wp2_with fail
  obtain ⟨H, hH⟩ : ∃ H, H = w1.heap.size := ⟨_, rfl⟩
  rw [← hH]
  have hH2 := Lib.hid hH
  go_loopw [41] (fun i wr => ∃ (j : Nat) (C : Array Value), j ≤ 6001 ∧ i = .int .i64 j ∧ Hid (wr.heap[H]? = some (.cells C 5 (0, 0)) ∧ C.size = 6001 ∧ (∀ k, k < j → C[k]? = some (.int .u8 32)) ∧ Below H w1 wr)) (fun i _ => 6001 - (intOf i).toNat)
  case atStart => exact ⟨0, Z, by omega, rfl, by rw [hH2.out]; exact heap_alloc_new w1 _, HZ.out, fun k hk => by omega, by rw [hH2.out]; exact (Below.refl _ _).alloc (Nat.le_refl _) _⟩
  case round =>
    obtain ⟨j, C, hj, rfl, HI⟩ := hrel
    by_cases hlt : j < 6001
    · have hf : wr.frozen? ⟨H, j, none⟩ = false := by simp [World.frozen?, HI.out.1]
      obtain ⟨u, hu⟩ : ∃ u, wr.cell? ⟨H, j, none⟩ = some u := by
        rw [cell_of_row wr H j C 5 (0, 0) HI.out.1]
        exact ⟨_, Array.getElem?_eq_getElem (by rw [HI.out.2.1]; exact hlt)⟩
      clear hH
      go_wp2_with fail
      go_roundw
      case rel =>
        refine ⟨j + 1, C.setIfInBounds j (.int .u8 32), by omega, by go_num, heap_setCell_same wr H j C 5 _ HI.out.1, by simp [HI.out.2.1], fun k hk => ?_, HI.out.2.2.2.setCell (p := ⟨H, j, none⟩) (Nat.le_refl _) _⟩
        by_cases hkj : k = j
        · subst hkj; simp [HI.out.2.1, hlt]
        · rw [Array.getElem?_setIfInBounds_ne (by omega)]; exact HI.out.2.2.1 k (by omega)
      case measure => simp [intOf]; omega
    · have hz : j = 6001 := by omega
      have hcv := conv_spaces wr H (fun k hk => by rw [cell_of_row wr H k C 5 (0, 0) HI.out.1]; exact HI.out.2.2.1 k (by omega))
      have HB := Lib.hid (HB.out.trans (HI.out.2.2.2.mono (by rw [hH2.out]; exact HB.out.size)))
      have HT1 := Lib.hid (fun i t h => (HT1.out i t h).below HI.out.2.2.2 (by rw [hH2.out]; exact hl1))
      have hl1 : b1 < wr.heap.size := Nat.lt_of_lt_of_le hl1 HI.out.2.2.2.size
      subst hz
      clear HI hH
      go_wp2_with fail
      refine (tok_bad spaces (by rw [spaces_size]; unfold maxLen; decide) 6000 spaces_lex _ spaces_plc _ (HE.out _ HB.out)).mono ?_
      rintro e w2 ⟨rfl, hb⟩
      have HB := Lib.hid (HB.out.trans (hb.mono HB.out.size))
      have HT1 := Lib.hid (fun i t h => (HT1.out i t h).below hb hl1)
      have hl1 : b1 < w2.heap.size := Nat.lt_of_lt_of_le hl1 hb.size
      clear hb
      go_wp2_with fail
      refine (tok_bad k9 (by unfold maxLen; decide) 3 lex9 _ plc9 _ (HE.out _ HB.out)).mono ?_
      rintro e w2 ⟨rfl, hb⟩
      have HB := Lib.hid (HB.out.trans (hb.mono HB.out.size))
      have HT1 := Lib.hid (fun i t h => (HT1.out i t h).below hb hl1)
      have hl1 : b1 < w2.heap.size := Nat.lt_of_lt_of_le hl1 hb.size
      clear hb
      go_wp2_with fail
      refine (tok_bad k10 (by unfold maxLen; decide) 2 lex10 _ plc10 _ (HE.out _ HB.out)).mono ?_
      rintro e w2 ⟨rfl, hb⟩
      have HB := Lib.hid (HB.out.trans (hb.mono HB.out.size))
      have HT1 := Lib.hid (fun i t h => (HT1.out i t h).below hb hl1)
      have hl1 : b1 < w2.heap.size := Nat.lt_of_lt_of_le hl1 hb.size
      clear hb
      go_wp2_with fail
      refine (tokens_good k11 lex11 _ (HE.out _ HB.out)).mono ?_
      rintro e w2 ⟨b2, o2, c2, rfl, hc2, hm2, hl2, ht, hb⟩
      have HB := Lib.hid (HB.out.trans (hb.mono HB.out.size))
      have HT1 := Lib.hid (fun i t h => (HT1.out i t h).below hb hl1)
      have hl1 : b1 < w2.heap.size := Nat.lt_of_lt_of_le hl1 hb.size
      have HT2 := Lib.hid ht
      clear hb ht
      go_wp2_with fail
      refine (tok_bad k12 (by unfold maxLen; decide) 2 lex12 _ plc12 _ (HE.out _ HB.out)).mono ?_
      rintro e w2 ⟨rfl, hb⟩
      have HB := Lib.hid (HB.out.trans (hb.mono HB.out.size))
      have HT1 := Lib.hid (fun i t h => (HT1.out i t h).below hb hl1)
      have hl1 : b1 < w2.heap.size := Nat.lt_of_lt_of_le hl1 hb.size
      have HT2 := Lib.hid (fun i t h => (HT2.out i t h).below hb hl2)
      have hl2 : b2 < w2.heap.size := Nat.lt_of_lt_of_le hl2 hb.size
      clear hb
      go_wp2_with fail
      refine (tok_bad k13 (by unfold maxLen; decide) 0 lex13 _ plc13 _ (HE.out _ HB.out)).mono ?_
      rintro e w2 ⟨rfl, hb⟩
      have HB := Lib.hid (HB.out.trans (hb.mono HB.out.size))
      have HT1 := Lib.hid (fun i t h => (HT1.out i t h).below hb hl1)
      have hl1 : b1 < w2.heap.size := Nat.lt_of_lt_of_le hl1 hb.size
      have HT2 := Lib.hid (fun i t h => (HT2.out i t h).below hb hl2)
      have hl2 : b2 < w2.heap.size := Nat.lt_of_lt_of_le hl2 hb.size
      clear hb
      go_wp2_with fail
      refine (tokens_good k14 lex14 _ (HE.out _ HB.out)).mono ?_
      rintro e w2 ⟨b3, o3, c3, rfl, hc3, hm3, hl3, ht, hb⟩
      have HB := Lib.hid (HB.out.trans (hb.mono HB.out.size))
      have HT1 := Lib.hid (fun i t h => (HT1.out i t h).below hb hl1)
      have hl1 : b1 < w2.heap.size := Nat.lt_of_lt_of_le hl1 hb.size
      have HT2 := Lib.hid (fun i t h => (HT2.out i t h).below hb hl2)
      have hl2 : b2 < w2.heap.size := Nat.lt_of_lt_of_le hl2 hb.size
      clear hb ht
      go_wp2_with fail
      refine (tokens_good ⟨#[]⟩ lex15 _ (HE.out _ HB.out)).mono ?_
      rintro e w2 ⟨b4, o4, c4, rfl, hc4, hm4, hl4, ht, hb⟩
      have HB := Lib.hid (HB.out.trans (hb.mono HB.out.size))
      have HT1 := Lib.hid (fun i t h => (HT1.out i t h).below hb hl1)
      have hl1 : b1 < w2.heap.size := Nat.lt_of_lt_of_le hl1 hb.size
      have HT2 := Lib.hid (fun i t h => (HT2.out i t h).below hb hl2)
      have hl2 : b2 < w2.heap.size := Nat.lt_of_lt_of_le hl2 hb.size
      clear hb ht
      go_wp2_with fail
      refine (tok_bad k16 (by unfold maxLen; decide) 1 lex16 _ plc16 _ (HE.out _ HB.out)).mono ?_
      rintro e w2 ⟨rfl, hb⟩
      have HB := Lib.hid (HB.out.trans (hb.mono HB.out.size))
      have HT1 := Lib.hid (fun i t h => (HT1.out i t h).below hb hl1)
      have hl1 : b1 < w2.heap.size := Nat.lt_of_lt_of_le hl1 hb.size
      have HT2 := Lib.hid (fun i t h => (HT2.out i t h).below hb hl2)
      have hl2 : b2 < w2.heap.size := Nat.lt_of_lt_of_le hl2 hb.size
      clear hb
      go_wp2_with fail
      refine (known2 _ (HE.out _ HB.out)).mono ?_
      rintro e w2 ⟨rfl, hb⟩
      have HB := Lib.hid (HB.out.trans (hb.mono HB.out.size))
      have HT1 := Lib.hid (fun i t h => (HT1.out i t h).below hb hl1)
      have hl1 : b1 < w2.heap.size := Nat.lt_of_lt_of_le hl1 hb.size
      have HT2 := Lib.hid (fun i t h => (HT2.out i t h).below hb hl2)
      have hl2 : b2 < w2.heap.size := Nat.lt_of_lt_of_le hl2 hb.size
      clear hb
      have q1 : w2.cell? ⟨b1, o1 + 40 + 1, none⟩ = some (.string ⟨#[61, 61]⟩) := (HT1.out 10 _ rfl).text
      have q2 : w2.cell? ⟨b1, o1 + 44 + 1, none⟩ = some (.string ⟨#[61]⟩) := (HT1.out 11 _ rfl).text
      have q3 : w2.cell? ⟨b1, o1 + 8 + 3, none⟩ = some (.complex .f64 4611686018427387904 4611686018427387904) := by rw [← plc1]; exact (HT1.out 2 _ rfl).pos
      have q4 : w2.cell? ⟨b2, o2 + 2, none⟩ = some (.int .i64 9223372036854775807) := (HT2.out 0 _ rfl).num
      have q5 : w2.cell? ⟨b2, o2 + 4 + 1, none⟩ = some (.string ⟨#[120]⟩) := (HT2.out 1 _ rfl).text
      have e1 : ∀ W, (binOp .eql 25 (.complex .f64 4611686018427387904 4611686018427387904) (.complex .f64 4611686018427387904 4611686018427387904)).run Tryd.prog W = .ok (.bool true) W := fun W => by kernel_rfl
      have e2 : ∀ W, (binOp .eql 25 (.complex .f64 4607182418800017408 4663320183979376640) (.complex .f64 4607182418800017408 4663320183979376640)).run Tryd.prog W = .ok (.bool true) W := fun W => by kernel_rfl
      have e3 : ∀ W, (binOp .eql 25 (.complex .f64 4607182418800017408 4613937818241073152) (.complex .f64 4607182418800017408 4613937818241073152)).run Tryd.prog W = .ok (.bool true) W := fun W => by kernel_rfl
      have e4 : ∀ W, (binOp .eql 25 (.complex .f64 4607182418800017408 4607182418800017408) (.complex .f64 4607182418800017408 4607182418800017408)).run Tryd.prog W = .ok (.bool true) W := fun W => by kernel_rfl
      have e5 : ∀ W, (binOp .eql 25 (.complex .f64 4607182418800017408 4611686018427387904) (.complex .f64 4607182418800017408 4611686018427387904)).run Tryd.prog W = .ok (.bool true) W := fun W => by kernel_rfl
      have kA := kwA
      have kB := kwB
      have nA := nmA
      have nB := nmB
      have nC := nmC
      have nD := nmD
      have nE := nmE
      have nF := nmF
      clear hmk hcv
      go_wp2_with (first
        | (go_at_call 18; refine (keyword_any _ _).mono ?_; rintro e w' ⟨rfl, hb⟩; have HB := Lib.hid (HB.out.trans (hb.mono HB.out.size)); clear hb)
        | (go_at_call 19; refine (isName_any _ (by unfold maxLen; decide) _).mono ?_; rintro e w' ⟨rfl, hb⟩; have HB := Lib.hid (HB.out.trans (hb.mono HB.out.size)); clear hb))
      go_ret
      exact ⟨rfl, HB.out⟩
end Go.Proofs.YtgkfmeccipgnjaaDoor
