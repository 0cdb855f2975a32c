/- Expressions at their place in memory. -/
import Derived.Test.YtgkfmeccipgnjaaDoorPl
namespace Go.Proofs.YtgkfmeccipgnjaaDoor
open Go.RowKit

def Ex.kind : Ex → Int
  | .leaf k _ _ => k
  | .un k _ => k
  | .bin k _ _ => k
def Ex.num : Ex → Int
  | .leaf _ n _ => n
  | _ => 0
def Ex.nm : Ex → ByteArray
  | .leaf _ _ nm => ⟨nm.toArray⟩
  | _ => ⟨#[]⟩
def Ex.len : Ex → Nat
  | .leaf _ _ _ => 0
  | .un _ _ => 1
  | .bin _ _ _ => 2
/-- An expression's four cells; sl is the slice of what it is of. -/
def exC (e : Ex) (sl : Value) : Array Value := #[.int .i64 e.kind, .int .i64 e.num, .string e.nm, sl]

structure ExCells (w : World) (b off : Nat) (e : Ex) (sl : Value) : Prop where
  c0 : w.cell? ⟨b, off, none⟩ = some (.int .i64 e.kind)
  c1 : w.cell? ⟨b, off + 1, none⟩ = some (.int .i64 e.num)
  c2 : w.cell? ⟨b, off + 2, none⟩ = some (.string e.nm)
  c3 : w.cell? ⟨b, off + 3, none⟩ = some sl

/-- What an expression is of, in blocks that are such. -/
def OfAt (ok : Nat → Prop) (w : World) : Ex → Value → Prop
  | .leaf _ _ _, sl => ∃ A c, sl = .slice A 0 c ∧ c ≤ 9223372036854775807
  | .un _ a, sl => ∃ b off c sa, sl = .slice (some ⟨b, off, none⟩) 1 c ∧ 1 ≤ c ∧ c ≤ 9223372036854775807 ∧ ok b ∧ b < w.heap.size ∧ ExCells w b off a sa ∧ OfAt ok w a sa
  | .bin _ x y, sl => ∃ b off c sx sy, sl = .slice (some ⟨b, off, none⟩) 2 c ∧ 2 ≤ c ∧ c ≤ 9223372036854775807 ∧ ok b ∧ b < w.heap.size ∧ ExCells w b off x sx ∧ ExCells w b (off + 4) y sy ∧ OfAt ok w x sx ∧ OfAt ok w y sy

theorem cell_of_block {w w' : World} {b : Nat} (h : w'.heap[b]? = w.heap[b]?) (off : Nat) : w'.cell? ⟨b, off, none⟩ = w.cell? ⟨b, off, none⟩ := by
  simp only [World.cell?]; rw [h]
theorem ExCells.same {w w' : World} {b off : Nat} {e : Ex} {sl : Value} (h : ExCells w b off e sl) (hb : w'.heap[b]? = w.heap[b]?) : ExCells w' b off e sl :=
  ⟨(cell_of_block hb _).trans h.c0, (cell_of_block hb _).trans h.c1, (cell_of_block hb _).trans h.c2, (cell_of_block hb _).trans h.c3⟩
theorem OfAt.keep {ok : Nat → Prop} {w w' : World} (hs : w.heap.size ≤ w'.heap.size) (hb : ∀ k, ok k → k < w.heap.size → w'.heap[k]? = w.heap[k]?) : ∀ {e : Ex} {sl : Value}, OfAt ok w e sl → OfAt ok w' e sl := by
  intro e
  induction e with
  | leaf k n nm => intro sl h; exact h
  | un k a ih =>
    intro sl h
    obtain ⟨b, off, c, sa, h1, h2, h3, h4, h5, h6, h7⟩ := h
    exact ⟨b, off, c, sa, h1, h2, h3, h4, by omega, h6.same (hb b h4 h5), ih h7⟩
  | bin k x y i1 i2 =>
    intro sl h
    obtain ⟨b, off, c, sx, sy, h1, h2, h3, h4, h5, h6, h7, h8, h9⟩ := h
    exact ⟨b, off, c, sx, sy, h1, h2, h3, h4, by omega, h6.same (hb b h4 h5), h7.same (hb b h4 h5), i1 h8, i2 h9⟩
theorem OfAt.below {ok : Nat → Prop} {B : Nat} {w w' : World} {e : Ex} {sl : Value} (h : OfAt ok w e sl) (hb : Below B w w') (hB : w.heap.size ≤ B) : OfAt ok w' e sl := h.keep hb.size (fun k _ hk => hb.block k (by omega))
theorem OfAt.low {ok ok' : Nat → Prop} {w : World} (hl : ∀ k, k < w.heap.size → ok k → ok' k) : ∀ {e : Ex} {sl : Value}, OfAt ok w e sl → OfAt ok' w e sl := by
  intro e
  induction e with
  | leaf k n nm => intro sl h; exact h
  | un k a ih =>
    intro sl h
    obtain ⟨b, off, c, sa, h1, h2, h3, h4, h5, h6, h7⟩ := h
    exact ⟨b, off, c, sa, h1, h2, h3, hl b h5 h4, h5, h6, ih h7⟩
  | bin k x y i1 i2 =>
    intro sl h
    obtain ⟨b, off, c, sx, sy, h1, h2, h3, h4, h5, h6, h7, h8, h9⟩ := h
    exact ⟨b, off, c, sx, sy, h1, h2, h3, hl b h5 h4, h5, h6, h7, i1 h8, i2 h9⟩
theorem OfAt.slice {ok : Nat → Prop} {w : World} : ∀ {e : Ex} {sl : Value}, OfAt ok w e sl → ∃ A c, sl = .slice A e.len c ∧ e.len ≤ c ∧ c ≤ 9223372036854775807 := by
  intro e
  cases e with
  | leaf k n nm => intro sl h; obtain ⟨A, c, h1, h2⟩ := h; exact ⟨A, c, h1, Nat.zero_le _, h2⟩
  | un k a => intro sl h; obtain ⟨b, off, c, sa, h1, h2, h3, _⟩ := h; exact ⟨_, c, h1, h2, h3⟩
  | bin k x y => intro sl h; obtain ⟨b, off, c, sx, sy, h1, h2, h3, _⟩ := h; exact ⟨_, c, h1, h2, h3⟩

/-- What level and factor answer. -/
def EPost (R b off c : Nat) (ts : List Tok) (w : World) (res : ERes) (e : Ending) (w' : World) : Prop :=
  ∃ (x : Ex) (sl : Value) (q : Nat) (bad : Bool), e = .returned (.agg #[.int .i64 x.kind, .int .i64 x.num, .string x.nm, sl]) ∧ OfAt (w.heap.size ≤ ·) w' x sl ∧ RdAt w' R b off c ts.length q bad ∧ But R w w' ∧ q < ts.length ∧
    (match res with
    | .ok y r => x = y ∧ bad = false ∧ ts.drop q = r
    | .bad r => bad = true ∧ ts.drop q = r)

/-- No token but the last is an end. -/
structure EndOk (ts : List Tok) : Prop where
  more : ∀ (i : Nat) (t : Tok), ts[i]? = some t → t.kind ≠ 4 → i + 1 < ts.length
  small : ∀ (i : Nat) (t : Tok), ts[i]? = some t → t.text.length ≤ 6000

/-- The contracts that factor and level have of each other. -/
def FacC (R b off c : Nat) (s : ByteArray) (ts : List Tok) (d : Nat) : Prop :=
  ∀ (w : World) (p : Nat) (deep : Int), ToksAt w b off c s ts → RdAt w R b off c ts.length p false → p < ts.length → deep + d = 8 →
    Calls Tryd.prog 87 #[.pointer (some ⟨R, 0, none⟩), .int .i64 deep] w fun e w' => EPost R b off c ts w (facF d (ts.drop p)) e w'
def LevC (R b off c : Nat) (s : ByteArray) (ts : List Tok) (d up : Nat) : Prop :=
  ∀ (w : World) (p : Nat) (deep lv : Int), ToksAt w b off c s ts → RdAt w R b off c ts.length p false → p < ts.length → deep + d = 8 → lv + up = 3 →
    Calls Tryd.prog 68 #[.pointer (some ⟨R, 0, none⟩), .int .i64 lv, .int .i64 deep] w fun e w' => EPost R b off c ts w (levF (facF d) up (ts.drop p)) e w'

theorem RdAt.below {w w' : World} {R b off c n p : Nat} {bad : Bool} (h : RdAt w R b off c n p bad) {B : Nat} (hb : Below B w w') (hB : R < B) : RdAt w' R b off c n p bad := ⟨(hb.block R hB).trans h.blk⟩
theorem ToksAt.but {w w' : World} {b off c R : Nat} {s : ByteArray} {ts : List Tok} (h : ToksAt w b off c s ts) (hb : But R w w') (hR : b ≠ R) : ToksAt w' b off c s ts := by
  have hl := h.lt
  have he := hb.block b hl hR
  refine ⟨h.le, h.cap, by have := hb.size; omega, fun i t ht => ?_⟩
  obtain ⟨a1, a2, a3, a4⟩ := h.tok i t ht
  exact ⟨(cell_of_block he _).trans a1, (cell_of_block he _).trans a2, (cell_of_block he _).trans a3, (cell_of_block he _).trans a4⟩

end Go.Proofs.YtgkfmeccipgnjaaDoor
