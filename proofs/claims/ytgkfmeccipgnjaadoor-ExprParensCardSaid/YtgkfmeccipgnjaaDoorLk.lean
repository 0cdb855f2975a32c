/- What chapter 2's example comes to. -/
import Derived.Test.YtgkfmeccipgnjaaDoorLj
namespace Go.Proofs.YtgkfmeccipgnjaaDoor
open Go.RowKit

def exS : ByteArray := ⟨#[120, 61, 61, 45, 49, 50, 32, 35, 32, 121]⟩
theorem exS_lex : lexAll exS.data.toList = .good [⟨1, [120], 0, 0⟩, ⟨3, [61, 61], 0, 1⟩, ⟨3, [45], 0, 3⟩, ⟨2, [49, 50], 12, 4⟩, ⟨4, [], 0, 10⟩] := by decide +kernel
theorem plc11 : plc (spotL (exS.data.toList.take 0)) = .complex .f64 4607182418800017408 4607182418800017408 := by kernel_rfl
theorem plc15 : plc (spotL (exS.data.toList.take 4)) = .complex .f64 4607182418800017408 4617315517961601024 := by kernel_rfl
theorem plc1b : plc (spotL (exS.data.toList.take 10)) = .complex .f64 4607182418800017408 4622382067542392832 := by kernel_rfl
theorem exCells : cellsOf exS [⟨1, [120], 0, 0⟩, ⟨3, [61, 61], 0, 1⟩, ⟨3, [45], 0, 3⟩, ⟨2, [49, 50], 12, 4⟩, ⟨4, [], 0, 10⟩] =
    [.int .i64 1, .string ⟨#[120]⟩, .int .i64 0, .complex .f64 4607182418800017408 4607182418800017408, .int .i64 3, .string ⟨#[61, 61]⟩, .int .i64 0, plc (spotL (exS.data.toList.take 1)),
     .int .i64 3, .string ⟨#[45]⟩, .int .i64 0, plc (spotL (exS.data.toList.take 3)), .int .i64 2, .string ⟨#[49, 50]⟩, .int .i64 12, .complex .f64 4607182418800017408 4617315517961601024,
     .int .i64 4, .string ⟨#[]⟩, .int .i64 0, .complex .f64 4607182418800017408 4622382067542392832] := by
  simp only [cellsOf, tokCells, List.flatMap_cons, List.flatMap_nil, plc11, plc15, plc1b]
  rfl

theorem eq31a (W : World) : (binOp .eql 31 (.agg #[.int .i64 1, .string ⟨#[120]⟩, .int .i64 0, .complex .f64 4607182418800017408 4607182418800017408]) (.agg #[.int .i64 1, .string ⟨#[120]⟩, .int .i64 0, .complex .f64 4607182418800017408 4607182418800017408])).run Tryd.prog W = .ok (.bool true) W := by kernel_rfl
theorem eq31b (W : World) : (binOp .eql 31 (.agg #[.int .i64 2, .string ⟨#[49, 50]⟩, .int .i64 12, .complex .f64 4607182418800017408 4617315517961601024]) (.agg #[.int .i64 2, .string ⟨#[49, 50]⟩, .int .i64 12, .complex .f64 4607182418800017408 4617315517961601024])).run Tryd.prog W = .ok (.bool true) W := by kernel_rfl
theorem eq31c (W : World) : (binOp .eql 31 (.agg #[.int .i64 4, .string ⟨#[]⟩, .int .i64 0, .complex .f64 4607182418800017408 4622382067542392832]) (.agg #[.int .i64 4, .string ⟨#[]⟩, .int .i64 0, .complex .f64 4607182418800017408 4622382067542392832])).run Tryd.prog W = .ok (.bool true) W := by kernel_rfl

set_option maxRecDepth 100000 in
set_option maxHeartbeats 1000000 in
theorem known2 (w : World) (hE : Env w) :
    Calls Tryd.prog 16 #[] w fun e w' => e = .returned (.bool true) ∧ Below w.heap.size w w' := by
  have c15 : Calls Tryd.prog 15 #[.string ⟨#[120, 61, 61, 45, 49, 50, 32, 35, 32, 121]⟩] w fun e w' => ∃ b off c, e = .returned (.tuple #[.slice (some ⟨b, off, none⟩) 5 c, .complex .f64 0 0, .int .i64 0]) ∧ 5 ≤ c ∧ Below w.heap.size w w' ∧
      (∀ (j : Nat) (u : Value), (cellsOf exS [⟨1, [120], 0, 0⟩, ⟨3, [61, 61], 0, 1⟩, ⟨3, [45], 0, 3⟩, ⟨2, [49, 50], 12, 4⟩, ⟨4, [], 0, 10⟩])[j]? = some u → w'.cell? ⟨b, off + j, none⟩ = some u) := by
    refine (tokens_any exS (by decide) w hE).mono fun e w' h => ?_
    obtain ⟨hb, h⟩ := h
    rw [exS_lex] at h
    obtain ⟨v, he, A, c, rfl, hc, _, h⟩ := h
    rcases h with h | ⟨b, off, rfl, _, h⟩
    · cases h
    · exact ⟨b, off, c, he, hc, hb, h⟩
  rw [exCells] at c15
  have C15 := Lib.hid c15
  have ea := eq31a
  have eb := eq31b
  have ec := eq31c
  clear c15
  go_enter Tryd.func16, Tryd.ntmps16
  go_wp2_with (go_at_call 15; refine C15.out.mono ?_; rintro e w' ⟨b, off, c, rfl, hc5, hb, hcell⟩; have Hb := Lib.hid hb; have HC := Lib.hid hcell; clear hb hcell; have c0 : w'.cell? ⟨b, off, none⟩ = some (.int .i64 1) := HC.out 0 _ rfl; have c1 := HC.out 1 _ rfl; have c2 := HC.out 2 _ rfl; have c3 := HC.out 3 _ rfl; have c5 := HC.out 5 _ rfl; have c8 := HC.out 8 _ rfl; have c12 := HC.out 12 _ rfl; have c13 : w'.cell? ⟨b, off + 12 + 1, none⟩ = _ := HC.out 13 _ rfl; have c14 : w'.cell? ⟨b, off + 12 + 2, none⟩ = _ := HC.out 14 _ rfl; have c15 : w'.cell? ⟨b, off + 12 + 3, none⟩ = _ := HC.out 15 _ rfl; have c16 := HC.out 16 _ rfl; have c17 : w'.cell? ⟨b, off + 16 + 1, none⟩ = _ := HC.out 17 _ rfl; have c18 : w'.cell? ⟨b, off + 16 + 2, none⟩ = _ := HC.out 18 _ rfl; have c19 : w'.cell? ⟨b, off + 16 + 3, none⟩ = _ := HC.out 19 _ rfl)
  go_ret
  exact ⟨rfl, Hb.out⟩

end Go.Proofs.YtgkfmeccipgnjaaDoor
