/- Places are alike just if line and column are: the floats of small whole numbers compare as these do. -/
import Derived.Test.YtgkfmeccipgnjaaDoorLd
namespace Go.Proofs.YtgkfmeccipgnjaaDoor
open Go.RowKit

/-- The float of a small number reads as just that number. -/
def chkF (n : Nat) : Bool := match FloatKind.f64.format.read (floatOfInt .f64 n) with
  | .number false m p => decide (p ≤ 0) && m == n * 2 ^ (-p).toNat
  | _ => false
set_option maxRecDepth 100000 in
theorem chkF_all : (List.range 6100).all chkF = true := by decide +kernel

theorem read_small {n : Nat} (h : n < 6100) : ∃ k : Nat, FloatKind.f64.format.read (floatOfInt .f64 n) = .number false (n * 2 ^ k) (-(k : Int)) := by
  have hc : chkF n = true := (List.all_eq_true.1 chkF_all) n (by simpa using h)
  unfold chkF at hc
  split at hc
  · rename_i m p e
    simp only [Bool.and_eq_true, decide_eq_true_eq, beq_iff_eq] at hc
    obtain ⟨hp, rfl⟩ := hc
    refine ⟨(-p).toNat, ?_⟩
    rw [e]
    congr 1
    omega
  · cases hc

theorem mul_pow_inj {a b k : Nat} : a * 2 ^ k = b * 2 ^ k ↔ a = b :=
  ⟨fun h => Nat.eq_of_mul_eq_mul_right (Nat.two_pow_pos k) h, fun h => by rw [h]⟩

theorem order_small {a b : Nat} (ha : a < 6100) (hb : b < 6100) : (FloatKind.f64.format.order (floatOfInt .f64 a) (floatOfInt .f64 b) == some .eq) = decide (a = b) := by
  obtain ⟨k, hk⟩ := read_small ha
  obtain ⟨l, hl⟩ := read_small hb
  unfold Ieee.Format.order
  rw [hk, hl]
  simp only [Ieee.Datum.order]
  generalize hbase : min (-(k : Int)) (-(l : Int)) = base
  have e1 : (-(k : Int) - base).toNat + k = (-base).toNat := by omega
  have e2 : (-(l : Int) - base).toNat + l = (-base).toNat := by omega
  have f1 : a * 2 ^ k * 2 ^ (-(k : Int) - base).toNat = a * 2 ^ (-base).toNat := by rw [Nat.mul_assoc, ← Nat.pow_add, ← e1, Nat.add_comm]
  have f2 : b * 2 ^ l * 2 ^ (-(l : Int) - base).toNat = b * 2 ^ (-base).toNat := by rw [Nat.mul_assoc, ← Nat.pow_add, ← e2, Nat.add_comm]
  unfold Ieee.signed
  simp only [Bool.false_eq_true, if_false, Nat.shiftLeft_eq, f1, f2]
  by_cases h : a = b
  · subst h; simp
  · have hne : ¬ a * 2 ^ (-base).toNat = b * 2 ^ (-base).toNat := fun e => h (mul_pow_inj.mp e)
    simp only [h, decide_false, beq_eq_false_iff_ne, ne_eq, Option.some.injEq]
    intro hc
    exact hne (by have := Int.compare_eq_eq.mp hc; omega)

theorem spot_small (l : List UInt8) (h : l.length ≤ 6000) : (spotL l).1 < 6100 ∧ (spotL l).2 < 6100 := by
  have := spot_le l; omega

/-- Places compare as lines and columns do. -/
theorem plc_order {p q : Nat × Nat} (hp : p.1 < 6100 ∧ p.2 < 6100) (hq : q.1 < 6100 ∧ q.2 < 6100) :
    ((FloatKind.f64.format.order (floatOfInt .f64 p.1) (floatOfInt .f64 q.1) == some .eq) && (FloatKind.f64.format.order (floatOfInt .f64 p.2) (floatOfInt .f64 q.2) == some .eq)) = decide (p = q) := by
  rw [order_small hp.1 hq.1, order_small hp.2 hq.2]
  obtain ⟨p1, p2⟩ := p
  obtain ⟨q1, q2⟩ := q
  simp [Prod.ext_iff]

theorem plc_eql (t : TypeId) {p q : Nat × Nat} (hp : p.1 < 6100 ∧ p.2 < 6100) (hq : q.1 < 6100 ∧ q.2 < 6100) (W : World) : (binOp .eql t (plc p) (plc q)).run Tryd.prog W = .ok (.bool (decide (p = q))) W := by
  unfold plc; rw [run_eql_complex, plc_order hp hq]
theorem plc_neq (t : TypeId) {p q : Nat × Nat} (hp : p.1 < 6100 ∧ p.2 < 6100) (hq : q.1 < 6100 ∧ q.2 < 6100) (W : World) : (binOp .neq t (plc p) (plc q)).run Tryd.prog W = .ok (.bool (!decide (p = q))) W := by
  unfold plc; rw [run_neq_complex, plc_order hp hq]

end Go.Proofs.YtgkfmeccipgnjaaDoor
