/- A map of strings: an insertion of a key that is not there; a lookup. -/
import Derived.Test.YtgkfmeccipgnjaaDoorPi
import Derived.WideMake
namespace Go.Proofs.YtgkfmeccipgnjaaDoor
open Go

/-- What a list of entries answers for a string. -/
def entF (s : ByteArray) : List MapEntry → Nat → Option (Nat × Value)
  | [], _ => none
  | e :: es, i => match e.key with
    | .string t => if s == t then some (i, e.val) else entF s es (i + 1)
    | _ => entF s es (i + 1)
theorem entF_now (s : ByteArray) : ∀ (l : List MapEntry) (i : Nat), (∀ e ∈ l, ∃ t, e.key = .string t) → Instr.findNow .string (.string s) l i = some (entF s l i) := by
  intro l
  induction l with
  | nil => intro i _; rfl
  | cons e es ih =>
    intro i h
    obtain ⟨t, ht⟩ := h e (by simp)
    rw [Instr.findNow, entF, ht]
    simp only [Instr.sameNow]
    by_cases hst : (s == t) = true
    · simp [hst]
    · have : (s == t) = false := by simpa using hst
      simp only [this]
      exact ih _ (fun x hx => h x (by simp [hx]))

/-- An insertion of a key that is not there. -/
theorem run_ins {P : Program} (w : World) (mty kt et : TypeId) (r clock : Nat) (es : Array MapEntry) (s : ByteArray) (val : Value) (hm : P.underlying mty = some (.map kt et)) (hk : P.underlying kt = some .string)
    (hb : w.heap[r]? = some (.map es clock)) (hes : ∀ e ∈ es.toList, ∃ t, e.key = .string t) (hno : entF s es.toList 0 = none) :
    (Instr.mapUpdate mty (.map (some r)) (.string s) val).run P w = .ok () { w with heap := w.heap.setIfInBounds r (.map (es.push { key := .string s, val := val, born := clock }) (clock + 1)) } := by
  have hf : Instr.findNow .string (.string s) es.toList 0 = some none := by rw [entF_now s _ _ hes, hno]
  have hc : (Instr.checkKey false 10000 kt (.string s)).run P w = .ok () w := MapKept.run_checkKey (k := .string s) hk (by simp [MapKept.IsKey]) false 9999
  simp [Instr.mapUpdate, run_underlying hm, MapKept.run_getObj_map hb, hc, MapKept.run_findKey hk hf, MapKept.run_setObj_map _ hb, Result.andThen]
end Go.Proofs.YtgkfmeccipgnjaaDoor
