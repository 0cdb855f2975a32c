/- Plain functions on lists of bytes: what the lexer computes. No program in sight. -/
namespace Go.Proofs.YtgkfmeccipgnjaaDoor

def letterB (c : UInt8) : Bool := 97 ≤ c.toNat && c.toNat ≤ 122
def digitB (c : UInt8) : Bool := 48 ≤ c.toNat && c.toNat ≤ 57
def blankB (c : UInt8) : Bool := c.toNat == 32 || c.toNat == 9 || c.toNat == 10
def wordB (c : UInt8) : Bool := letterB c || digitB c
def noteB (c : UInt8) : Bool := !(c.toNat == 10)

/-- How many of the first bytes are such. -/
def runL (p : UInt8 → Bool) : List UInt8 → Nat
  | [] => 0
  | c :: s => if p c then runL p s + 1 else 0

theorem runL_le (p : UInt8 → Bool) (s : List UInt8) : runL p s ≤ s.length := by
  induction s with
  | nil => simp [runL]
  | cons c s ih => simp only [runL]; split <;> simp <;> omega

theorem runL_stop (p : UInt8 → Bool) (l : List UInt8) (k : Nat) (h : k < l.length) (hp : p l[k] = false) : runL p (l.drop k) = 0 := by
  rw [List.drop_eq_getElem_cons h]; simp [runL, hp]

theorem runL_go (p : UInt8 → Bool) (l : List UInt8) (k : Nat) (h : k < l.length) (hp : p l[k] = true) : runL p (l.drop k) = runL p (l.drop (k + 1)) + 1 := by
  rw [List.drop_eq_getElem_cons h]; simp [runL, hp]

end Go.Proofs.YtgkfmeccipgnjaaDoor
