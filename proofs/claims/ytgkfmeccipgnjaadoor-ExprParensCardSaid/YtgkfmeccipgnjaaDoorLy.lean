/- From what the rows list to what the walks lean on; a world that meets it. -/
import Derived.Test.YtgkfmeccipgnjaaDoorRows
import Derived.Test.YtgkfmeccipgnjaaDoorLk
import Derived.ProofKit
import Derived.OpenShut
import Derived.ShutString
import Derived.ChangeOld
import Derived.LaidMore
import Derived.LaidHandle
import Derived.MakeChecks
import Derived.Stop.LaidErr
import Derived.Lib.LaidTab
import Derived.SevenTiedAt
namespace Go.Proofs.YtgkfmeccipgnjaaDoor
open Go.ChangeShapes Go.WideShapes Go.ChangeAt Go.RowKit

abbrev laidL : List (String × DataW Unit) := [("math/bits.deBruijn32tab", Rows.laid_math_bits_deBruijn32tab), ("math/bits.deBruijn64tab", Rows.laid_math_bits_deBruijn64tab), ("internal/strconv.uint64pow10", Rows.laid_internal_strconv_uint64pow10), ("strconv.ErrRange", Rows.laid_strconv_ErrRange), ("strconv.ErrSyntax", Rows.laid_strconv_ErrSyntax)]

theorem want3 : Tryd.prog.wantsStandIn 3 = false := by kernel_rfl
theorem want4 : Tryd.prog.wantsStandIn 4 = false := by kernel_rfl
theorem want9 : Tryd.prog.wantsStandIn 9 = false := by kernel_rfl
theorem want22 : Tryd.prog.wantsStandIn 22 = false := by kernel_rfl
theorem own : ownKnob Tryd.prog.godebug = none := by kernel_rfl
theorem laidOut : laidOutB Tryd.prog = true := by kernel_rfl
theorem row151 (u : TypeId) (h : Tryd.prog.typeName? 3 u = some "*errors.errorString") : u = 151 :=
  typeName_ptr_named (nm := "errors.errorString") (by rw [show "*" ++ "errors.errorString" = "*errors.errorString" by decide]; kernel_rfl) (by kernel_rfl) (by decide) u (by rw [show "*" ++ "errors.errorString" = "*errors.errorString" by decide]; exact h)

theorem size_of_var {P : Program} {W : World} {n : String} {g : Nat} {cs : Array Value} (hg : P.globalNamed n = some g) (h : W.var? P n = some cs) : g < W.heap.size := by
  unfold World.var? at h
  rw [hg] at h
  simp only [Option.bind_some] at h
  rcases Nat.lt_or_ge g W.heap.size with hlt | hge
  · exact hlt
  · rw [Array.getElem?_eq_none hge] at h; simp at h

theorem env_of_laid {W : World} (h : laidMetH Tryd.prog laidL W) : Env W := by
  rw [MakeChecks.laidMetH_plain _ _ _ (by kernel_rfl)] at h
  have hsz : 6 ≤ W.heap.size := by
    obtain ⟨ps, ⟨g, t, cs, fuel, p, q, hg, _, hv, _, _, _⟩, _⟩ := h.tail
    obtain rfl := Option.some.inj (hg.symm.trans (by kernel_rfl : Tryd.prog.globalNamed "math/bits.deBruijn64tab" = some 5))
    exact size_of_var (by kernel_rfl : Tryd.prog.globalNamed "math/bits.deBruijn64tab" = some 5) hv
  have h3 := h.tail.tail
  have hp := Lib.tabIs_of_head (zs := Lib.pow10Tab) glob3 (by kernel_rfl : (Tryd.prog.globals[3]?).map (·.type) = some 155) Tryd.underlying155 Tryd.underlying133 (by kernel_rfl) (by kernel_rfl) h3
  obtain ⟨a2, s2, hv2, _⟩ := laid_sentinel h3.tail (by kernel_rfl : Tryd.prog.globalNamed "strconv.ErrRange" = some 2) (by kernel_rfl : (Tryd.prog.globals[2]?).map (·.type) = some 81) Tryd.underlying81 row151 Tryd.underlying151 Tryd.underlying153 rfl rfl Tryd.underlying9 (by kernel_rfl) (by kernel_rfl)
  obtain ⟨a1, s1, hv1, _⟩ := laid_sentinel h3.tail.tail (by kernel_rfl : Tryd.prog.globalNamed "strconv.ErrSyntax" = some 1) (by kernel_rfl : (Tryd.prog.globals[1]?).map (·.type) = some 81) Tryd.underlying81 row151 Tryd.underlying151 Tryd.underlying153 rfl rfl Tryd.underlying9 (by kernel_rfl) (by kernel_rfl)
  exact ⟨hsz, hp, ⟨_, _, World.var?_cell (by kernel_rfl : Tryd.prog.globalNamed "strconv.ErrSyntax" = some 1) hv1 0⟩, ⟨_, _, World.var?_cell (by kernel_rfl : Tryd.prog.globalNamed "strconv.ErrRange" = some 2) hv2 0⟩⟩

theorem door_met (os : Os) (args : Array Value) : laidMetH Tryd.prog laidL ((World.doorLaid Tryd.prog 62 os).forCall (fun _ _ => 0) ⟨#[], args, []⟩).memory :=
  laidMetH_of_parts3 (fuel := 8) (laidMet_of_run' 8 (by kernel_rfl) (by kernel_rfl)) (by kernel_rfl) (by kernel_rfl)

theorem i64_bounds {x : Int} (h : (Lit.int .i64 x).wf = true) : -9223372036854775808 ≤ x ∧ x ≤ 9223372036854775807 := bounds_i64 h

theorem ints_nil (W : World) : IntsAt W (.slice none 0 0) [] := by
  refine ⟨by simp, fun j => by simp, none, 0, rfl, Nat.le_refl _, .inl rfl⟩

theorem ints_of_row {W : World} {a : Addr} {len cap : Nat} {zs : List Int} (hl : len ≤ cap) (_hm : cap ≤ maxLen) (hz : len ≤ zs.length) (hr : len * 8 ≤ 140737488355328)
    (hcell : ∀ i, i < zs.length → W.cell? (a.add i) = some (.int .i64 (zs.getD i 0))) (hwz : ∀ n ∈ zs, (Lit.int .i64 n).wf = true) : IntsAt W (.slice (some a) len cap) (zs.take len) := by
  have hlen : (zs.take len).length = len := by simp; omega
  refine ⟨by rw [hlen]; exact hr, fun j => ?_, some a, cap, by rw [hlen], by rw [hlen]; exact hl, ?_⟩
  · exact range_i64 (fun n hn => hwz n (List.mem_of_mem_take hn)) j
  · rw [hlen]
    by_cases h0 : len = 0
    · exact .inl h0
    · obtain ⟨b, off, rfl, hc⟩ := ints_at hcell (by omega)
      refine .inr ⟨b, off, rfl, ?_, fun j hj => ?_⟩
      · exact block_lt_of_cell (a := ⟨b, off + 0, none⟩) (hc 0 (by omega))
      · rw [hc j (by omega)]
        simp [hj]

end Go.Proofs.YtgkfmeccipgnjaaDoor
