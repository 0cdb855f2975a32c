/- Plain: the tokens of a text, as a function on lists of bytes. No program in sight. -/
import Derived.Test.YtgkfmeccipgnjaaDoorLp
import Derived.Lib.AtoiAll
import Derived.Lib.ItoaNum
namespace Go.Proofs.YtgkfmeccipgnjaaDoor

/-- A token: its kind, its text, its number, and at which byte it stands. -/
structure Tok where
  kind : Nat
  text : List UInt8
  n : Int
  pos : Nat
  deriving DecidableEq

/-- How long the word is that a text begins with; 0: there is none, or it is too long. -/
def wordL : List UInt8 → Nat
  | [] => 0
  | c :: s => if letterB c then (if runL wordB (c :: s) ≤ 12 then runL wordB (c :: s) else 0) else 0

/-- What the lexer answers: where it is none; or the tokens. -/
inductive LexR where
  | bad (pos : Nat)
  | good (toks : List Tok)
  deriving DecidableEq

/-- What Atoi answers, its error left aside. -/
def atoiV (d : List UInt8) : Int := match Lib.atoiAll d with
  | .ok v => v
  | .range => Lib.atoiSat d
  | _ => 0

def signsL : List UInt8 := [61, 60, 43, 45, 42, 47, 37, 40, 41, 123, 125]

/-- What comes behind a token of so many bytes; none: there is no token. -/
def closeTok (L : List UInt8) (go : Nat → List Tok → LexR) (pos : Nat) (acc : List Tok) (kind size : Nat) (n : Int) : LexR :=
  if size = 0 then .bad pos else go (pos + size) (acc ++ [⟨kind, (L.drop pos).take size, n, pos⟩])

def numTok (L : List UInt8) (go : Nat → List Tok → LexR) (pos : Nat) (acc : List Tok) : LexR :=
  if Lib.itoa (atoiV ((L.drop pos).take (runL digitB (L.drop pos)))) = (L.drop pos).take (runL digitB (L.drop pos)) then
    closeTok L go pos acc 2 (runL digitB (L.drop pos)) (atoiV ((L.drop pos).take (runL digitB (L.drop pos))))
  else .bad pos

def signSize (l : List UInt8) : Nat := if [61, 61].isPrefixOf l then 2 else 1

def oneTok (L : List UInt8) (go : Nat → List Tok → LexR) (pos : Nat) (acc : List Tok) (c : UInt8) : LexR :=
  if c.toNat = 35 then go (pos + runL noteB (L.drop pos)) acc
  else if letterB c then closeTok L go pos acc 1 (wordL (L.drop pos)) 0
  else if digitB c then numTok L go pos acc
  else if c ∈ signsL then closeTok L go pos acc 3 (signSize (L.drop pos)) 0
  else .bad pos

/-- From a byte on, with what has been found so far. -/
def lexN (L : List UInt8) : Nat → Nat → List Tok → LexR
  | 0, pos, _ => .bad pos
  | f + 1, pos0, acc =>
    match L[pos0 + runL blankB (L.drop pos0)]? with
    | none => .good (acc ++ [⟨4, [], 0, pos0 + runL blankB (L.drop pos0)⟩])
    | some c => oneTok L (lexN L f) (pos0 + runL blankB (L.drop pos0)) acc c

def lexAll (L : List UInt8) : LexR := if 6000 < L.length then .bad 6000 else lexN L (L.length + 1) 0 []

theorem wordL_le (l : List UInt8) : wordL l ≤ l.length := by
  cases l with
  | nil => simp [wordL]
  | cons c s =>
    have := runL_le wordB (c :: s)
    simp only [wordL]
    split
    · split <;> omega
    · omega
theorem runL_drop_le (p : UInt8 → Bool) (L : List UInt8) (k : Nat) (h : k ≤ L.length) : k + runL p (L.drop k) ≤ L.length := by
  have := runL_le p (L.drop k)
  simp at this; omega

example : lexAll [120, 61, 61, 45, 49, 50, 32, 35, 32, 121] = .good [⟨1, [120], 0, 0⟩, ⟨3, [61, 61], 0, 1⟩, ⟨3, [45], 0, 3⟩, ⟨2, [49, 50], 12, 4⟩, ⟨4, [], 0, 10⟩] := by decide +kernel

end Go.Proofs.YtgkfmeccipgnjaaDoor
