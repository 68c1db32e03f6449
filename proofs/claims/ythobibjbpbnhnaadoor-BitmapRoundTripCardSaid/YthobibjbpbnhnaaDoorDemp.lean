/-
  De Morgan on groups. No program in sight.
-/
import Derived.Test.YthobibjbpbnhnaaDoorBits
namespace Go.Proofs.YthobibjbpbnhnaaDoor

theorem zip_get {op : Nat → Nat → Nat} {a b : List Nat} {k g : Nat} (h : (zipOp op a b)[k]? = some g) : ∃ x y, a[k]? = some x ∧ b[k]? = some y ∧ g = op x y := by
  unfold zipOp at h
  rw [List.getElem?_zipWith] at h
  cases hx : a[k]? with
  | none => rw [hx] at h; simp at h
  | some x =>
    cases hy : b[k]? with
    | none => rw [hx, hy] at h; simp at h
    | some y =>
      rw [hx, hy] at h
      simp at h
      exact ⟨x, y, rfl, rfl, h.symm⟩

theorem good_zip {op : Nat → Nat → Nat} {n : Nat} {a b : List Nat} (ha : Good n a) (hb : Good n b) (hop : ∀ x y j, (op x y).testBit j = true → x.testBit j = true ∨ y.testBit j = true) : Good n (zipOp op a b) := by
  refine ⟨by unfold zipOp; rw [List.length_zipWith, ha.len, hb.len, Nat.min_self], fun k g hk j hj => ?_⟩
  obtain ⟨x, y, hx, hy, rfl⟩ := zip_get hk
  rcases hop x y j hj with h | h
  · exact ha.bit k x hx j h
  · exact hb.bit k y hy j h
theorem good_or {n : Nat} {a b : List Nat} (ha : Good n a) (hb : Good n b) : Good n (zipOp (· ||| ·) a b) := good_zip ha hb fun x y j h => by
  have h' : (x ||| y).testBit j = true := h
  rw [Nat.testBit_or] at h'
  exact Bool.or_eq_true_iff.1 h'
theorem good_and {n : Nat} {a b : List Nat} (ha : Good n a) (hb : Good n b) : Good n (zipOp (· &&& ·) a b) := good_zip ha hb fun x y j h => by
  have h' : (x &&& y).testBit j = true := h
  rw [Nat.testBit_and] at h'
  exact .inl (Bool.and_eq_true_iff.1 h').1
theorem good_andn {n : Nat} {a b : List Nat} (ha : Good n a) (hb : Good n b) : Good n (zipOp andn a b) := good_zip ha hb fun x y j h => by
  rw [testBit_andn] at h
  exact .inl (Bool.and_eq_true_iff.1 h).1

theorem demorgan (o a b : List Nat) : zipOp andn o (zipOp (· ||| ·) a b) = zipOp (· &&& ·) (zipOp andn o a) (zipOp andn o b) := by
  have hpt : ∀ x y z, andn x (y ||| z) = andn x y &&& andn x z := by
    intro x y z
    apply Nat.eq_of_testBit_eq
    intro j
    rw [testBit_andn, Nat.testBit_or, Nat.testBit_and, testBit_andn, testBit_andn]
    cases x.testBit j <;> cases y.testBit j <;> cases z.testBit j <;> rfl
  unfold zipOp
  induction o generalizing a b with
  | nil => rfl
  | cons x o ih =>
    cases a with
    | nil => rfl
    | cons y a =>
      cases b with
      | nil => cases o <;> rfl
      | cons z b =>
        simp only [List.zipWith_cons_cons, hpt, ih]

end Go.Proofs.YthobibjbpbnhnaaDoor
