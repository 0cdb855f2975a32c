/- Contracts of the hand's plain, Expr. -/
import Derived.Test.YtgkfmeccipgnjaaDoorEl
import Derived.Deep.RegionWith
namespace Go.Proofs.YtgkfmeccipgnjaaDoor
open Go.RowKit

def plainL : List (List UInt8) := [[120], [120], [121], [122], [97], [116], [120], [121]]
def plainN (z : Int) : List UInt8 := plainL.getD (z % 8).toNat []
theorem index45 (k : Nat) (hk : k < 8) (Z : World) : (Instr.index 45 (.agg #[.string ⟨#[120]⟩, .string ⟨#[120]⟩, .string ⟨#[121]⟩, .string ⟨#[122]⟩, .string ⟨#[97]⟩, .string ⟨#[116]⟩, .string ⟨#[120]⟩, .string ⟨#[121]⟩]) (.int .i64 k)).run Tryd.prog Z = .ok (.string ⟨(plainL.getD k []).toArray⟩) Z := by
  obtain rfl | rfl | rfl | rfl | rfl | rfl | rfl | rfl : k = 0 ∨ k = 1 ∨ k = 2 ∨ k = 3 ∨ k = 4 ∨ k = 5 ∨ k = 6 ∨ k = 7 := by omega
  all_goals kernel_rfl

set_option maxRecDepth 100000 in
set_option maxHeartbeats 1000000 in
theorem plain_any (z : Int) (w : World) : Calls Tryd.prog 53 #[.int .i64 z] w fun e w' => e = .returned (.string ⟨(plainN z).toArray⟩) ∧ w = w' := by
  have h0 := Int.emod_nonneg z (b := 8) (by decide)
  have h1 := Int.emod_lt_of_pos z (b := 8) (by decide)
  obtain ⟨k, hk⟩ : ∃ k : Nat, z % 8 = k := ⟨(z % 8).toNat, by omega⟩
  have hk8 : k < 8 := by omega
  have hp : plainN z = plainL.getD k [] := by unfold plainN; rw [hk]; rfl
  rw [hp]
  have hi := fun Z => index45 k hk8 Z
  obtain ⟨S, hS⟩ : ∃ S : ByteArray, S = ⟨(plainL.getD k []).toArray⟩ := ⟨_, rfl⟩
  rw [← hS] at hi ⊢
  clear hp h0 h1 hS
  go_enter Tryd.func53, Tryd.ntmps53
  go_wp2_with (go_at_call 23; refine (pick_any _ _ (by decide) (by decide) _).mono ?_; rintro e w' ⟨rfl, rfl⟩)
  go_ret
  exact ⟨rfl, rfl⟩

/-- suturehand.Expr, where so many levels may still come. -/
def handE : Nat → List Int → Ex
  | _, [] => .leaf 1 1 []
  | 0, n :: _ => .leaf 2 0 (plainN (n.tdiv 16))
  | f + 1, n :: rest =>
    if n % 16 < 5 then .leaf 2 0 (plainN (n.tdiv 16))
    else if n % 16 < 8 then .leaf 1 ((n.tdiv 16) % 5) []
    else if n % 16 = 8 then .un 3 (handE f rest)
    else .bin (4 + (n.tdiv 16) % 7) (handE f (rest.take ((n :: rest).length / 2))) (handE f (rest.drop ((n :: rest).length / 2)))

theorem plainN_len (z : Int) : (plainN z).length = 1 := by
  have h0 := Int.emod_nonneg z (b := 8) (by decide)
  have h1 := Int.emod_lt_of_pos z (b := 8) (by decide)
  have : ∀ k, k < 8 → (plainL.getD k []).length = 1 := by decide
  exact this _ (by omega)
theorem handE_wf : ∀ (f : Nat) (zs : List Int), wfE (handE f zs) := by
  intro f
  induction f with
  | zero => intro zs; cases zs <;> simp [handE, wfE]
  | succ f ih =>
    intro zs
    cases zs with
    | nil => simp [handE, wfE]
    | cons n rest =>
      rw [handE]
      have h0 := Int.emod_nonneg (n.tdiv 16) (b := 5) (by decide)
      have h1 := Int.emod_lt_of_pos (n.tdiv 16) (b := 5) (by decide)
      have h2 := Int.emod_nonneg (n.tdiv 16) (b := 7) (by decide)
      have h3 := Int.emod_lt_of_pos (n.tdiv 16) (b := 7) (by decide)
      split
      · simp [wfE]
      · split
        · simp only [wfE]; omega
        · split
          · exact ⟨rfl, ih _⟩
          · exact ⟨by omega, by omega, ih _, ih _⟩
def sizeB : Nat → Nat
  | 0 => 20
  | f + 1 => 2 * sizeB f + 20
theorem sizeB_ge (f : Nat) : 20 ≤ sizeB f := by cases f <;> simp [sizeB]
theorem itoa_small : ∀ k : Nat, k < 5 → (Lib.itoa (k : Int)).length = 1 := by decide +kernel
theorem sign_len {k : Int} (h1 : 4 ≤ k) (h2 : k ≤ 10) : (signP k).1.length ≤ 2 := by
  rcases sign_cases h1 h2 with rfl | rfl | rfl | rfl | rfl | rfl | rfl <;> decide
theorem handE_size : ∀ (f : Nat) (zs : List Int) (lv : Nat), plen (handE f zs) lv ≤ sizeB f := by
  intro f
  induction f with
  | zero =>
    intro zs lv
    cases zs with
    | nil =>
      have : plen (handE 0 []) lv = 1 := by simp only [handE, plen, printF]; decide +kernel
      rw [this]; decide
    | cons n rest => simp only [handE, plen, printF_name, plainN_len]; decide
  | succ f ih =>
    intro zs lv
    have hB := sizeB_ge f
    cases zs with
    | nil =>
      have : plen (handE (f + 1) []) lv = 1 := by simp only [handE, plen, printF]; decide +kernel
      rw [this]; simp only [sizeB]; omega
    | cons n rest =>
      have h0 := Int.emod_nonneg (n.tdiv 16) (b := 5) (by decide)
      have h1 := Int.emod_lt_of_pos (n.tdiv 16) (b := 5) (by decide)
      have h2 := Int.emod_nonneg (n.tdiv 16) (b := 7) (by decide)
      have h3 := Int.emod_lt_of_pos (n.tdiv 16) (b := 7) (by decide)
      rw [handE]
      split
      · simp only [plen, printF_name, plainN_len, sizeB]; omega
      · split
        · obtain ⟨k, hk⟩ : ∃ k : Nat, n.tdiv 16 % 5 = k := ⟨(n.tdiv 16 % 5).toNat, by omega⟩
          rw [hk]
          have := itoa_small k (by omega)
          simp only [plen, printF, if_true, sizeB]; omega
        · split
          · have := ih rest 3
            simp only [plen] at this
            simp only [plen, printF, List.length_cons, sizeB]; omega
          · rw [plen_bin]
            have hs := sign_len (k := 4 + n.tdiv 16 % 7) (by omega) (by omega)
            have a := ih (rest.take ((n :: rest).length / 2)) (leftL (4 + n.tdiv 16 % 7))
            have b := ih (rest.drop ((n :: rest).length / 2)) (ownL (4 + n.tdiv 16 % 7) + 1)
            simp only [sizeB]
            split <;> omega

-- GENERATED

/-- A piece of a slice of numbers. -/
theorem ints_cut {w : World} {b off c : Nat} {zs : List Int} (h : IntsAt w (.slice (some ⟨b, off, none⟩) zs.length c) zs) (lo hi : Nat) (h1 : lo ≤ hi) (h2 : hi ≤ zs.length) (hc : zs.length ≤ c) :
    ∃ A', sliced (some ⟨b, off, none⟩) lo hi c 1 = .slice A' (hi - lo) (c - lo) ∧ IntsAt w (.slice A' (hi - lo) (c - lo)) ((zs.take hi).drop lo) := by
  obtain ⟨q1, q2, A, c', q3, q4, q5⟩ := h
  injection q3 with q3 _ q3c
  subst q3 q3c
  have hl : ((zs.take hi).drop lo).length = hi - lo := by simp; omega
  have hget : ∀ j, j < hi - lo → ((zs.take hi).drop lo).getD j 0 = zs.getD (lo + j) 0 := by
    intro j hj
    have h3 : lo + j < zs.length := by omega
    simp only [List.getD_eq_getElem?_getD, List.getElem?_drop, List.getElem?_take]
    rw [if_pos (by omega)]
  refine ⟨if c = lo then some ⟨b, off, none⟩ else some ((⟨b, off, none⟩ : Addr).add (lo * 1)), ?_, by rw [hl]; omega, fun j => ?_, _, _, by rw [hl], by rw [hl]; omega, ?_⟩
  · simp only [sliced]; split <;> rfl
  · by_cases hj : j < hi - lo
    · rw [hget j hj]; exact q2 _
    · rw [List.getD_eq_getElem?_getD, List.getElem?_eq_none (by rw [hl]; omega)]; simp
  · rw [hl]
    by_cases h0 : hi - lo = 0
    · exact .inl h0
    · rcases q5 with q5 | ⟨b', off', q5, q6, q7⟩
      · omega
      · injection q5 with q5
        injection q5 with e1 e2
        subst e1 e2
        have hcl : ¬ c = lo := by omega
        rw [if_neg hcl]
        refine .inr ⟨b, off + lo, ?_, q6, fun j hj => ?_⟩
        · simp [Addr.add]
        · rw [hget j hj, Nat.add_assoc]; exact q7 _ (by omega)
theorem run_cut {P : Program} {t : TypeId} (ht : P.underlying t = some (.slice (P.elem t))) (hs : ∀ Z, (sizeOf (P.elem t)).run P Z = .ok 1 Z) (a : Option Addr) (n c lo hi : Nat) (h1 : lo ≤ hi) (h2 : hi ≤ c) (Z : World) :
    (Instr.sliceAt t (.slice a n c) (some (.int .i64 lo)) (some (.int .i64 hi)) none).run P Z = .ok (sliced a lo hi c 1) Z := by
  rw [run_sliceAt_slice Z t _ _ _ _ ht, run_slice_lh Z t a n c ht .i64 .i64 lo hi (by omega) (by omega) (by omega), hs]
  simp [Result.andThen]
theorem run_cutl {P : Program} {t : TypeId} (ht : P.underlying t = some (.slice (P.elem t))) (hs : ∀ Z, (sizeOf (P.elem t)).run P Z = .ok 1 Z) (a : Option Addr) (n c lo : Nat) (h1 : lo ≤ n) (Z : World) :
    (Instr.sliceAt t (.slice a n c) (some (.int .i64 lo)) none none).run P Z = .ok (sliced a lo n c 1) Z := by
  rw [run_sliceAt_slice Z t _ _ _ _ ht, run_slice_l Z t a n c ht .i64 lo (by omega) (by omega), hs]
  simp [Result.andThen]
theorem cut_to {a : Option Addr} {lo n c : Nat} {A' : Option Addr} {k : Nat} (h : k = n) (hs : sliced a lo n c 1 = .slice A' (k - lo) (c - lo)) : sliced a lo n c 1 = .slice A' (n - lo) (c - lo) := by
  subst h; exact hs
theorem IntsAt.below' {w w' : World} {v : Value} {zs : List Int} (h : IntsAt w v zs) (hb : Below w.heap.size w w') : IntsAt w' v zs := by
  obtain ⟨h1, h2, A, c, h3, h4, h5⟩ := h
  refine ⟨h1, h2, A, c, h3, h4, ?_⟩
  rcases h5 with h5 | ⟨b, off, h6, h7, h8⟩
  · exact .inl h5
  · exact .inr ⟨b, off, h6, Nat.lt_of_lt_of_le h7 hb.size, fun j hj => (hb.cell (p := ⟨b, off + j, none⟩) h7).trans (h8 j hj)⟩
theorem slice22 : Tryd.prog.underlying 22 = some (.slice (Tryd.prog.elem 22)) := by kernel_rfl
theorem size3 (Z : World) : (sizeOf (Tryd.prog.elem 22)).run Tryd.prog Z = .ok 1 Z := by kernel_rfl

/-- What suturehand.Expr answers. -/
def HPost (f : Nat) (zs : List Int) (w : World) (e : Ending) (w' : World) : Prop :=
  ∃ A c, e = .returned (.agg #[.int .i64 (handE f zs).kind, .int .i64 (handE f zs).num, .string (handE f zs).nm, .slice A (handE f zs).len c]) ∧ OfAt (w.heap.size ≤ ·) w' (handE f zs) (.slice A (handE f zs).len c) ∧ Below w.heap.size w w'
def HandC (f : Nat) : Prop := ∀ (zs : List Int) (v : Value) (w : World) (deep : Int), IntsAt w v zs → deep + f = 6 → Calls Tryd.prog 30 #[v, .int .i64 deep] w fun e w' => HPost f zs w e w'

theorem HPost.leaf {f : Nat} {zs : List Int} {w W : World} {k n : Int} {nm : List UInt8} (he : handE f zs = .leaf k n nm) (hB : Below w.heap.size w W) : HPost f zs w (.returned (.agg #[.int .i64 k, .int .i64 n, .string ⟨nm.toArray⟩, .slice none 0 0])) W := by
  refine ⟨none, 0, ?_, ?_, hB⟩
  · rw [he]; rfl
  · rw [he]; exact ⟨none, 0, rfl, by decide⟩

set_option maxRecDepth 100000 in
set_option maxHeartbeats 4000000 in
theorem hand_nil (f : Nat) (A : Option Addr) (c : Nat) (w : World) (deep : Int) : Calls Tryd.prog 30 #[.slice A 0 c, .int .i64 deep] w fun e w' => HPost f [] w e w' := by
  go_enter Tryd.func30, Tryd.ntmps30
  go_wp2_with fail
  refine bodyPost_ret (res_row48 rfl _ _ w.heap.size #[.int .i64 1, .int .i64 1, .string ⟨#[]⟩, .slice none 0 0] rfl rfl (heap_alloc_new _ _)) rfl (HPost.leaf (by cases f <;> rfl) ((Below.refl _ _).alloc (Nat.le_refl _) _))

set_option maxRecDepth 100000 in
set_option maxHeartbeats 4000000 in
theorem hand_name (f : Nat) (z : Int) (rest : List Int) (hk : z % 16 < 5 ∨ f = 0) (A : Option Addr) (c : Nat) (w : World) (deep : Int) (hd : deep + f = 6) (hv : IntsAt w (.slice A (rest.length + 1) c) (z :: rest)) :
    Calls Tryd.prog 30 #[.slice A (rest.length + 1) c, .int .i64 deep] w fun e w' => HPost f (z :: rest) w e w' := by
  obtain ⟨q1, q2, A', c', q3, q4, q5⟩ := hv
  injection q3 with q3 q3n q3c
  subst q3 q3c
  obtain ⟨b, off, rfl, hb, hcell⟩ : ∃ b off, A = some ⟨b, off, none⟩ ∧ b < w.heap.size ∧ w.cell? ⟨b, off, none⟩ = some (.int .i64 z) := by
    rcases q5 with h | ⟨b, off, h1, h2, h3⟩
    · simp at h
    · exact ⟨b, off, h1, h2, h3 0 (by simp)⟩
  have hz := q2 0
  simp at hz
  obtain ⟨hz1, hz2⟩ := hz
  obtain ⟨N, hN⟩ : ∃ N, N = rest.length + 1 := ⟨_, rfl⟩
  rw [← hN]
  have hn : N ≤ 140737488355328 := by simp at q1; omega
  have hn1 : 1 ≤ N := by omega
  have hn0 : ((N : Int) == 0) = false := by simp only [beq_eq_false_iff_ne]; omega
  have HN := Lib.hid hN
  clear hN
  have hwr : wrap64 (z.tdiv 16) = z.tdiv 16 := wrap_tdiv hz1 hz2 (by decide)
  have h0 := Int.emod_nonneg z (b := 16) (by decide)
  have h1 := Int.emod_lt_of_pos z (b := 16) (by decide)
  have he : handE f (z :: rest) = .leaf 2 0 (plainN (z.tdiv 16)) := by
    cases f with
    | zero => rfl
    | succ f => rw [handE, if_pos (by omega)]
  have HEE := Lib.hid he
  clear he q1 q2 q3n q4 q5
  by_cases hk5 : z % 16 < 5
  · clear hk hd
    go_enter Tryd.func30, Tryd.ntmps30
    go_wp2_with (first | (go_at_call 23; refine (pick_any _ _ (by decide) (by decide) _).mono ?_; rintro e w' ⟨rfl, rfl⟩) | (go_at_call 53; refine (plain_any _ _).mono ?_; rintro e w' ⟨rfl, rfl⟩))
    refine bodyPost_ret (res_row48 rfl _ _ w.heap.size #[.int .i64 2, .int .i64 0, .string ⟨(plainN (z.tdiv 16)).toArray⟩, .slice none 0 0] rfl rfl (heap_alloc_new _ _)) rfl (HPost.leaf HEE.out ((Below.refl _ _).alloc (Nat.le_refl _) _))
  · have hd6 : 5 < deep := by omega
    clear hk hd
    go_enter Tryd.func30, Tryd.ntmps30
    go_wp2_with (first | (go_at_call 23; refine (pick_any _ _ (by decide) (by decide) _).mono ?_; rintro e w' ⟨rfl, rfl⟩) | (go_at_call 53; refine (plain_any _ _).mono ?_; rintro e w' ⟨rfl, rfl⟩))
    refine bodyPost_ret (res_row48 rfl _ _ w.heap.size #[.int .i64 2, .int .i64 0, .string ⟨(plainN (z.tdiv 16)).toArray⟩, .slice none 0 0] rfl rfl (heap_alloc_new _ _)) rfl (HPost.leaf HEE.out ((Below.refl _ _).alloc (Nat.le_refl _) _))

set_option maxRecDepth 100000 in
set_option maxHeartbeats 4000000 in
theorem hand_num (f : Nat) (z : Int) (rest : List Int) (hk : ¬ z % 16 < 5) (hk8 : z % 16 < 8) (A : Option Addr) (c : Nat) (w : World) (deep : Int) (hd : deep + (f + 1 : Nat) = 6) (hv : IntsAt w (.slice A (rest.length + 1) c) (z :: rest)) :
    Calls Tryd.prog 30 #[.slice A (rest.length + 1) c, .int .i64 deep] w fun e w' => HPost (f + 1) (z :: rest) w e w' := by
  obtain ⟨q1, q2, A', c', q3, q4, q5⟩ := hv
  injection q3 with q3 q3n q3c
  subst q3 q3c
  obtain ⟨b, off, rfl, hb, hcell⟩ : ∃ b off, A = some ⟨b, off, none⟩ ∧ b < w.heap.size ∧ w.cell? ⟨b, off, none⟩ = some (.int .i64 z) := by
    rcases q5 with h | ⟨b, off, h1, h2, h3⟩
    · simp at h
    · exact ⟨b, off, h1, h2, h3 0 (by simp)⟩
  have hz := q2 0
  simp at hz
  obtain ⟨hz1, hz2⟩ := hz
  obtain ⟨N, hN⟩ : ∃ N, N = rest.length + 1 := ⟨_, rfl⟩
  rw [← hN]
  have hn : N ≤ 140737488355328 := by simp at q1; omega
  have hn1 : 1 ≤ N := by omega
  have hn0 : ((N : Int) == 0) = false := by simp only [beq_eq_false_iff_ne]; omega
  have HN := Lib.hid hN
  clear hN
  have hwr : wrap64 (z.tdiv 16) = z.tdiv 16 := wrap_tdiv hz1 hz2 (by decide)
  have h0 := Int.emod_nonneg z (b := 16) (by decide)
  have h1 := Int.emod_lt_of_pos z (b := 16) (by decide)
  have he : handE (f + 1) (z :: rest) = .leaf 1 (z.tdiv 16 % 5) [] := by rw [handE, if_neg hk, if_pos hk8]
  have HEE := Lib.hid he
  have hd5 : ¬ 5 < deep := by omega
  clear he q1 q2 q3n q4 q5 hd
  go_enter Tryd.func30, Tryd.ntmps30
  go_wp2_with (go_at_call 23; refine (pick_any _ _ (by decide) (by decide) _).mono ?_; rintro e w' ⟨rfl, rfl⟩)
  refine bodyPost_ret (res_row48 rfl _ _ w.heap.size #[.int .i64 1, .int .i64 (z.tdiv 16 % 5), .string ⟨#[]⟩, .slice none 0 0] rfl rfl (heap_alloc_new _ _)) rfl (HPost.leaf HEE.out ((Below.refl _ _).alloc (Nat.le_refl _) _))

set_option maxRecDepth 100000 in
set_option maxHeartbeats 4000000 in
theorem hand_un (f : Nat) (hf : f ≤ 5) (IH : HandC f) (z : Int) (rest : List Int) (hk8 : z % 16 = 8) (A : Option Addr) (c : Nat) (w : World) (deep : Int) (hd : deep + (f + 1 : Nat) = 6) (hv : IntsAt w (.slice A (rest.length + 1) c) (z :: rest)) :
    Calls Tryd.prog 30 #[.slice A (rest.length + 1) c, .int .i64 deep] w fun e w' => HPost (f + 1) (z :: rest) w e w' := by
  have hv0 := hv
  obtain ⟨q1, q2, A', c', q3, q4, q5⟩ := hv
  injection q3 with q3 q3n q3c
  subst q3 q3c
  obtain ⟨b, off, rfl, hb, hcell⟩ : ∃ b off, A = some ⟨b, off, none⟩ ∧ b < w.heap.size ∧ w.cell? ⟨b, off, none⟩ = some (.int .i64 z) := by
    rcases q5 with h | ⟨b, off, h1, h2, h3⟩
    · simp at h
    · exact ⟨b, off, h1, h2, h3 0 (by simp)⟩
  have hz := q2 0
  simp at hz
  obtain ⟨hz1, hz2⟩ := hz
  obtain ⟨N, hN⟩ : ∃ N, N = rest.length + 1 := ⟨_, rfl⟩
  rw [← hN]
  have hn : N ≤ 140737488355328 := by simp at q1; omega
  have hn1 : 1 ≤ N := by omega
  have hn0 : ((N : Int) == 0) = false := by simp only [beq_eq_false_iff_ne]; omega
  have HN := Lib.hid hN
  clear hN
  have hwr : wrap64 (z.tdiv 16) = z.tdiv 16 := wrap_tdiv hz1 hz2 (by decide)
  have h0 := Int.emod_nonneg z (b := 16) (by decide)
  have h1 := Int.emod_lt_of_pos z (b := 16) (by decide)
  have he : handE (f + 1) (z :: rest) = .un 3 (handE f rest) := by rw [handE, if_neg (by omega), if_neg (by omega), if_pos hk8]
  have HEE := Lib.hid he
  have hNc : N ≤ c := by rw [HN.out]; simpa using q4
  obtain ⟨A1, s1, s2⟩ := ints_cut (zs := z :: rest) (by simpa using hv0) 1 (z :: rest).length (by simp) (Nat.le_refl _) (by simpa using q4)
  rw [List.take_length] at s2
  rw [show (z :: rest).drop 1 = rest from rfl] at s2
  simp only [List.length_cons, ← HN.out] at s1 s2
  have hc1 := fun Z => run_cutl slice22 size3 (some ⟨b, off, none⟩) N c 1 hn1 Z
  have hcut := fun (Z : World) => (hc1 Z).trans (by rw [show sliced (some ⟨b, off, none⟩) 1 N c 1 = .slice A1 (N - 1) (c - 1) from cut_to (by omega) s1])
  have hd5 : ¬ 5 < deep := by omega
  have hd6 : 0 ≤ deep := by omega
  have hal : Below w.heap.size w (w.alloc (.cells zeroEx 48)) := (Below.refl _ _).alloc (Nat.le_refl _) _
  have CALL := Lib.hid (IH rest _ (w.alloc (.cells zeroEx 48)) (deep + 1) (s2.below' hal) (by omega))
  obtain ⟨n1, hn1'⟩ : ∃ n1, n1 = N - 1 := ⟨_, rfl⟩
  rw [← hn1'] at CALL hcut
  obtain ⟨c1, hc1'⟩ : ∃ c1, c1 = c - 1 := ⟨_, rfl⟩
  rw [← hc1'] at CALL hcut
  obtain ⟨x, hx⟩ : ∃ x, x = handE f rest := ⟨_, rfl⟩
  have HX := Lib.hid hx
  have hcut' : ∀ Z, (Instr.sliceAt 22 (.slice (some ⟨b, off, none⟩) N c) (some (.int .i64 1)) none none).run Tryd.prog Z = .ok (.slice A1 n1 c1) Z := hcut
  clear he q1 q2 q3n q4 q5 hd hv0 s1 s2 hc1 hcut hal hn1' hc1' hx IH
  go_enter Tryd.func30, Tryd.ntmps30
  go_wp2_with (go_at_call 23; refine (pick_any _ _ (by decide) (by decide) _).mono ?_; rintro e w' ⟨rfl, rfl⟩)
  refine CALL.out.mono ?_
  rintro e w4 ⟨B, cb, rfl, hO, hb4⟩
  rw [← HX.out] at hO ⊢
  have HO := Lib.hid hO
  obtain ⟨_, _, hsl, hl1, hl2⟩ := hO.slice
  have HROW := Lib.hid ((hb4.block w.heap.size (by simp)).trans (heap_alloc_new w (.cells zeroEx 48)))
  have hz4 : w.heap.size < w4.heap.size := by have := hb4.size; simp at this; omega
  have hz5 : ¬ w4.heap.size = w.heap.size := by omega
  have HB4 := Lib.hid (((Below.refl w.heap.size w).alloc (Nat.le_refl _) (.cells zeroEx 48)).trans (hb4.mono (by simp)))
  clear hO hb4 hsl
  obtain ⟨⟨g0, g1, g2, g3⟩, j0, j1, j2, j3⟩ := row_facts HROW.out
  go_wp2_with fail
  refine bodyPost_ret (res_row48 rfl _ _ w.heap.size #[.int .i64 3, .int .i64 0, .string ⟨#[]⟩, .slice (some ⟨w4.heap.size, 0, none⟩) 1 1] rfl rfl ((heap_alloc_old _ _ (by simp; omega)).trans (set4 HROW.out rfl _ _ _ _))) rfl ⟨some ⟨w4.heap.size, 0, none⟩, 1, ?_, ?_, ?_⟩
  · rw [HEE.out]; rfl
  · rw [HEE.out, ← HX.out]
    refine (of_un HO.out (by simp; omega) (by simp) (fun k h1 h2 => ?_) (heap_alloc_newE _ _ (by simp))).low (fun k _ h => by simp at h; omega)
    simp at h1
    exact (heap_alloc_old _ _ (by simp; omega)).trans (hk4 (by omega) _ _ _ _)
  · exact ((((HB4.out.setCell (p := ⟨w.heap.size, 0, none⟩) (Nat.le_refl _) _).setCell (p := ⟨w.heap.size, 1, none⟩) (Nat.le_refl _) _).setCell (p := ⟨w.heap.size, 2, none⟩) (Nat.le_refl _) _).setCell (p := ⟨w.heap.size, 3, none⟩) (Nat.le_refl _) _).alloc (by simp; omega) _

set_option maxRecDepth 100000 in
set_option maxHeartbeats 4000000 in
theorem hand_bin (f : Nat) (hf : f ≤ 5) (IH : HandC f) (z : Int) (rest : List Int) (hk8 : ¬ z % 16 < 8) (hk9 : ¬ z % 16 = 8) (A : Option Addr) (c : Nat) (w : World) (deep : Int) (hd : deep + (f + 1 : Nat) = 6) (hv : IntsAt w (.slice A (rest.length + 1) c) (z :: rest)) :
    Calls Tryd.prog 30 #[.slice A (rest.length + 1) c, .int .i64 deep] w fun e w' => HPost (f + 1) (z :: rest) w e w' := by
  have hv0 := hv
  obtain ⟨q1, q2, A', c', q3, q4, q5⟩ := hv
  injection q3 with q3 q3n q3c
  subst q3 q3c
  obtain ⟨b, off, rfl, hb, hcell⟩ : ∃ b off, A = some ⟨b, off, none⟩ ∧ b < w.heap.size ∧ w.cell? ⟨b, off, none⟩ = some (.int .i64 z) := by
    rcases q5 with h | ⟨b, off, h1, h2, h3⟩
    · simp at h
    · exact ⟨b, off, h1, h2, h3 0 (by simp)⟩
  have hz := q2 0
  simp at hz
  obtain ⟨hz1, hz2⟩ := hz
  obtain ⟨N, hN⟩ : ∃ N, N = rest.length + 1 := ⟨_, rfl⟩
  rw [← hN]
  have hn : N ≤ 140737488355328 := by simp at q1; omega
  have hn1 : 1 ≤ N := by omega
  have hn0 : ((N : Int) == 0) = false := by simp only [beq_eq_false_iff_ne]; omega
  have HN := Lib.hid hN
  clear hN
  have hwr : wrap64 (z.tdiv 16) = z.tdiv 16 := wrap_tdiv hz1 hz2 (by decide)
  have h0 := Int.emod_nonneg z (b := 16) (by decide)
  have h1 := Int.emod_lt_of_pos z (b := 16) (by decide)
  have he : handE (f + 1) (z :: rest) = .bin (4 + z.tdiv 16 % 7) (handE f (rest.take (N / 2))) (handE f (rest.drop (N / 2))) := by rw [handE, if_neg (by omega), if_neg hk8, if_neg hk9, HN.out]; rfl
  have HEE := Lib.hid he
  have h2 := Int.emod_nonneg (z.tdiv 16) (b := 7) (by decide)
  have h3 := Int.emod_lt_of_pos (z.tdiv 16) (b := 7) (by decide)
  have hNc : N ≤ c := by rw [HN.out]; simpa using q4
  obtain ⟨m, hm⟩ : ∃ m, m = 1 + N / 2 := ⟨_, rfl⟩
  have em : (1 : Int) + (N : Int) / 2 = (m : Int) := by omega
  have hmN : m ≤ N := by omega
  have hm1 : 1 ≤ m := by omega
  obtain ⟨A1, s1, s2⟩ := ints_cut (zs := z :: rest) (by simpa using hv0) 1 m hm1 (by have := HN.out; simp only [List.length_cons]; omega) (by simpa using q4)
  obtain ⟨A2, t1, t2⟩ := ints_cut (zs := z :: rest) (by simpa using hv0) m (z :: rest).length (by have := HN.out; simp only [List.length_cons]; omega) (Nat.le_refl _) (by simpa using q4)
  rw [show ((z :: rest).take m).drop 1 = rest.take (N / 2) by rw [hm, Nat.add_comm 1, List.take_succ_cons]; rfl] at s2
  rw [List.take_length, show (z :: rest).drop m = rest.drop (N / 2) by rw [hm, Nat.add_comm 1, List.drop_succ_cons]] at t2
  simp only [List.length_cons, ← HN.out] at t1 t2
  have hcA := fun Z => (run_cut slice22 size3 (some ⟨b, off, none⟩) N c 1 m hm1 (by omega) Z).trans (by rw [s1])
  have hcB := fun Z => (run_cutl slice22 size3 (some ⟨b, off, none⟩) N c m hmN Z).trans (by rw [t1])
  have hd5 : ¬ 5 < deep := by omega
  have hd6 : 0 ≤ deep := by omega
  have hwd : IntKind.i64.wrap (deep + 1) = deep + 1 := IntWalk.i64_in _ (by omega)
  obtain ⟨V, hV⟩ : ∃ V, V = w.alloc (.cells #[.int .i64 0, .int .i64 0, .string ⟨#[]⟩, .slice none 0 0] 48) := ⟨_, rfl⟩
  have hal : Below w.heap.size w V := by rw [hV]; exact (Below.refl _ _).alloc (Nat.le_refl _) _
  have hVs : V.heap.size = w.heap.size + 1 := by rw [hV]; simp
  obtain ⟨x, hx⟩ : ∃ x, x = handE f (rest.take (N / 2)) := ⟨_, rfl⟩
  obtain ⟨y, hy⟩ : ∃ y, y = handE f (rest.drop (N / 2)) := ⟨_, rfl⟩
  have CA : ∀ W, Below V.heap.size V W → Calls Tryd.prog 30 #[.slice A1 (m - 1) (c - 1), .int .i64 (deep + 1)] W fun e w' => ∃ B cb, e = .returned (.agg #[.int .i64 x.kind, .int .i64 x.num, .string x.nm, .slice B x.len cb]) ∧ OfAt (V.heap.size ≤ ·) w' x (.slice B x.len cb) ∧ Below V.heap.size V w' ∧ Below W.heap.size W w' := fun W hW => (IH _ _ W (deep + 1) ((s2.below' hal).below' hW) (by omega)).mono fun e w' ⟨B, cb, e1, e2, e3⟩ => by
    rw [← hx] at e1 e2
    exact ⟨B, cb, e1, e2.low (fun k _ h => Nat.le_trans hW.size h), hW.trans (e3.mono hW.size), e3⟩
  have CB : ∀ W, Below V.heap.size V W → Calls Tryd.prog 30 #[.slice A2 (N - m) (c - m), .int .i64 (deep + 1)] W fun e w' => ∃ B cb, e = .returned (.agg #[.int .i64 y.kind, .int .i64 y.num, .string y.nm, .slice B y.len cb]) ∧ OfAt (V.heap.size ≤ ·) w' y (.slice B y.len cb) ∧ Below V.heap.size V w' ∧ Below W.heap.size W w' := fun W hW => (IH _ _ W (deep + 1) ((t2.below' hal).below' hW) (by omega)).mono fun e w' ⟨B, cb, e1, e2, e3⟩ => by
    rw [← hy] at e1 e2
    exact ⟨B, cb, e1, e2.low (fun k _ h => Nat.le_trans hW.size h), hW.trans (e3.mono hW.size), e3⟩
  obtain ⟨n1, hn1'⟩ : ∃ n1, n1 = m - 1 := ⟨_, rfl⟩
  obtain ⟨c1, hc1'⟩ : ∃ c1, c1 = c - 1 := ⟨_, rfl⟩
  obtain ⟨n2, hn2'⟩ : ∃ n2, n2 = N - m := ⟨_, rfl⟩
  obtain ⟨c2, hc2'⟩ : ∃ c2, c2 = c - m := ⟨_, rfl⟩
  rw [← hn1', ← hc1'] at CA hcA
  rw [← hn2', ← hc2'] at CB hcB
  have hcA' : ∀ Z, (Instr.sliceAt 22 (.slice (some ⟨b, off, none⟩) N c) (some (.int .i64 1)) (some (.int .i64 m)) none).run Tryd.prog Z = .ok (.slice A1 n1 c1) Z := hcA
  have hrowV : ∀ W, Below V.heap.size V W → W.heap[w.heap.size]? = some (.cells zeroEx 48 (0, 0)) := fun W hW => (hW.block _ (by omega)).trans (by rw [hV]; exact heap_alloc_new _ _)
  have CA := Lib.hid CA
  have CB := Lib.hid CB
  have HX := Lib.hid hx
  have HY := Lib.hid hy
  have HV := Lib.hid hV
  have HAL := Lib.hid hal
  have HRV := Lib.hid hrowV
  have HVs := Lib.hid hVs
  have HBD := Lib.hid (show Below V.heap.size V V.drew from below_drewN (Below.refl _ _) 1)
  have hVlt : w.heap.size < V.heap.size := by omega
  clear he q1 q2 q3n q4 q5 hd hv0 s1 s2 t1 t2 hcA hal hn1' hc1' hn2' hc2' hx hy IH hm hV hrowV hVs
  go_enter Tryd.func30, Tryd.ntmps30
  go_wp2_with (go_at_call 23; refine (pick_any _ _ (by decide) (by decide) _).mono ?_; rintro e w' ⟨rfl, rfl⟩)
  rw [← HV.out]
  go_region_with (first | (go_at_call 30; (with_reducible refine (CA.out _ (by first | exact HBD.out | exact HBB.out)).mono ?_); rintro eA wA ⟨BA, cA, rfl, hOA, hbA, hbA2⟩; obtain ⟨_, _, hsA, hlA1, hlA2⟩ := hOA.slice; clear hsA; have HOA := Lib.hid hOA; have HBA := Lib.hid hbA; have HBA2 := Lib.hid hbA2; clear hOA hbA hbA2; obtain ⟨⟨gA0, gA1, gA2, gA3⟩, jA0, jA1, jA2, jA3⟩ := row_facts (HRV.out wA HBA.out); have hzA : w.heap.size < wA.heap.size := (by have := HBA.out.size; omega); have hzA2 : ¬ wA.heap.size = w.heap.size := (by omega)) | (go_at_call 30; (with_reducible refine (CB.out _ (by first | exact HBD.out | exact HBA.out)).mono ?_); rintro eB wB ⟨BB, cB, rfl, hOB, hbB, hbB2⟩; obtain ⟨_, _, hsB, hlB1, hlB2⟩ := hOB.slice; clear hsB; have HOB := Lib.hid hOB; have HBB := Lib.hid hbB; have HBB2 := Lib.hid hbB2; clear hOB hbB hbB2; obtain ⟨⟨gB0, gB1, gB2, gB3⟩, jB0, jB1, jB2, jB3⟩ := row_facts (HRV.out wB HBB.out); have hzB : w.heap.size < wB.heap.size := (by have := HBB.out.size; omega); have hzB2 : ¬ wB.heap.size = w.heap.size := (by omega)))
  all_goals go_wp2_with fail
  · have hLs := HBB.out.size
    have hrowL := HRV.out wB HBB.out
    refine bodyPost_ret (res_row48 rfl _ _ w.heap.size #[.int .i64 (4 + z.tdiv 16 % 7), .int .i64 0, .string ⟨#[]⟩, .slice (some ⟨wB.heap.size, 0, none⟩) 2 2] rfl rfl ((heap_alloc_old _ _ (by simp; omega)).trans (set4 hrowL rfl _ _ _ _))) rfl ⟨some ⟨wB.heap.size, 0, none⟩, 2, ?_, ?_, ?_⟩
    · rw [HEE.out]; rfl
    · rw [HEE.out, ← HX.out, ← HY.out]
      refine (of_bin (4 + z.tdiv 16 % 7) (HOA.out.below HBB2.out (Nat.le_refl _)) HOB.out hLs (by simp) (fun k h1 h2 => ?_) (heap_alloc_newE _ _ (by simp))).low (fun k _ h => by have := HVs.out; omega)
      exact (heap_alloc_old _ _ (by simp; omega)).trans (hk4 (by have := HVs.out; omega) _ _ _ _)
    · exact ((((((HAL.out.trans (HBB.out.mono HAL.out.size)).setCell (p := ⟨w.heap.size, 0, none⟩) (Nat.le_refl _) _).setCell (p := ⟨w.heap.size, 1, none⟩) (Nat.le_refl _) _).setCell (p := ⟨w.heap.size, 2, none⟩) (Nat.le_refl _) _).setCell (p := ⟨w.heap.size, 3, none⟩) (Nat.le_refl _) _)).alloc (by simp; omega) _

theorem hand_any : ∀ f, f ≤ 6 → HandC f := by
  intro f
  induction f with
  | zero =>
    intro _ zs v w deep hv hd
    obtain ⟨q1, q2, A, c, rfl, q4, q5⟩ := hv
    cases zs with
    | nil => exact hand_nil 0 A c w deep
    | cons z rest => exact hand_name 0 z rest (.inr rfl) A c w deep hd ⟨q1, q2, A, c, rfl, q4, q5⟩
  | succ f ih =>
    intro hf zs v w deep hv hd
    have IH := ih (by omega)
    obtain ⟨q1, q2, A, c, rfl, q4, q5⟩ := hv
    cases zs with
    | nil => exact hand_nil (f + 1) A c w deep
    | cons z rest =>
      by_cases h5 : z % 16 < 5
      · exact hand_name (f + 1) z rest (.inl h5) A c w deep hd ⟨q1, q2, A, c, rfl, q4, q5⟩
      · by_cases h8 : z % 16 < 8
        · exact hand_num f z rest h5 h8 A c w deep hd ⟨q1, q2, A, c, rfl, q4, q5⟩
        · by_cases h9 : z % 16 = 8
          · exact hand_un f (by omega) IH z rest h9 A c w deep hd ⟨q1, q2, A, c, rfl, q4, q5⟩
          · exact hand_bin f (by omega) IH z rest h8 h9 A c w deep hd ⟨q1, q2, A, c, rfl, q4, q5⟩

end Go.Proofs.YtgkfmeccipgnjaaDoor
