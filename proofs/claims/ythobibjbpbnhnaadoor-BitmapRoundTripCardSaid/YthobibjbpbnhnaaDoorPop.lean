/-
  Counting bits. No program in sight.
-/
import Derived.Test.YthobibjbpbnhnaaDoorDemp
namespace Go.Proofs.YthobibjbpbnhnaaDoor

/-- How many of the lowest f bits are set. -/
def pc : Nat → Nat → Nat
  | 0, _ => 0
  | f + 1, x => x % 2 + pc f (x / 2)

theorem or_half (x y : Nat) : (x ||| y) % 2 + (x &&& y) % 2 = x % 2 + y % 2 ∧ (x ||| y) / 2 = x / 2 ||| y / 2 ∧ (x &&& y) / 2 = x / 2 &&& y / 2 := by
  refine ⟨?_, Nat.or_div_two, Nat.and_div_two⟩
  have h1 : (x ||| y) % 2 = (x % 2) ||| (y % 2) := by simpa using Nat.or_mod_two_pow (a := x) (b := y) (n := 1)
  have h2 : (x &&& y) % 2 = (x % 2) &&& (y % 2) := by simpa using Nat.and_mod_two_pow (a := x) (b := y) (n := 1)
  rw [h1, h2]
  rcases Nat.mod_two_eq_zero_or_one x with hx | hx <;> rcases Nat.mod_two_eq_zero_or_one y with hy | hy <;> rw [hx, hy] <;> rfl

theorem pc_or_and : ∀ (f x y : Nat), pc f (x ||| y) + pc f (x &&& y) = pc f x + pc f y
  | 0, _, _ => rfl
  | f + 1, x, y => by
    obtain ⟨h1, h2, h3⟩ := or_half x y
    have := pc_or_and f (x / 2) (y / 2)
    simp only [pc, h2, h3]
    omega

theorem pc_zero : ∀ f, pc f 0 = 0
  | 0 => rfl
  | f + 1 => by simp [pc, pc_zero f]

/-- The count of a list of groups. -/
def pcs (gs : List Nat) : Nat := (gs.map (pc 31)).sum
theorem pcs_append (a b : List Nat) : pcs (a ++ b) = pcs a + pcs b := by unfold pcs; rw [List.map_append, List.sum_append]
theorem pcs_or_and : ∀ (a b : List Nat), a.length = b.length → pcs (zipOp (· ||| ·) a b) + pcs (zipOp (· &&& ·) a b) = pcs a + pcs b
  | [], [], _ => rfl
  | [], _ :: _, h => by simp at h
  | _ :: _, [], h => by simp at h
  | x :: a, y :: b, h => by
    have ih := pcs_or_and a b (by simpa using h)
    have h2 := pc_or_and 31 x y
    unfold pcs zipOp at *
    simp only [List.zipWith_cons_cons, List.map_cons, List.sum_cons]
    omega

end Go.Proofs.YthobibjbpbnhnaaDoor
