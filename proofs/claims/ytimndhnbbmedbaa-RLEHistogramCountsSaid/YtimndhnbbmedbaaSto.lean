/-
  The order of values, and what a histogram is: sorted runs put together. No program in sight.
-/
import Derived.Test.YtimndhnbbmedbaaSt
import Derived.Test.YtimndhnbbmedbaaSplp
import Derived.Lib.Bytealg
namespace Go.Proofs.Ytimndhnbbmedbaa

theorem cb_neg : ∀ (a b : List UInt8), Lib.compareBytes b a = -Lib.compareBytes a b
  | [], [] => rfl
  | [], _ :: _ => rfl
  | _ :: _, [] => rfl
  | x :: a, y :: b => by
    unfold Lib.compareBytes
    by_cases h1 : x < y
    · rw [if_pos h1, if_neg (fun h => UInt8.lt_asymm h1 h), if_pos h1]
      rfl
    · by_cases h2 : y < x
      · rw [if_pos h2, if_neg h1, if_pos h2]
      · rw [if_neg h2, if_neg h1, if_neg h1, if_neg h2]
        exact cb_neg a b
theorem cb_zero : ∀ (a b : List UInt8), Lib.compareBytes a b = 0 → a = b
  | [], [], _ => rfl
  | [], _ :: _, h => by simp [Lib.compareBytes] at h
  | _ :: _, [], h => by simp [Lib.compareBytes] at h
  | x :: a, y :: b, h => by
    unfold Lib.compareBytes at h
    by_cases h1 : x < y
    · rw [if_pos h1] at h; omega
    · by_cases h2 : y < x
      · rw [if_neg h1, if_pos h2] at h; omega
      · rw [if_neg h1, if_neg h2] at h
        have e : x = y := by
          apply UInt8.toNat_inj.1
          rw [UInt8.lt_iff_toNat_lt] at h1 h2
          omega
        rw [e, cb_zero a b h]
theorem cb_trans : ∀ (a b c : List UInt8), Lib.compareBytes a b ≤ 0 → Lib.compareBytes b c ≤ 0 → Lib.compareBytes a c ≤ 0
  | [], _, [], _, _ => by simp [Lib.compareBytes]
  | [], _, _ :: _, _, _ => by simp [Lib.compareBytes]
  | _ :: _, [], _, h, _ => by simp [Lib.compareBytes] at h
  | _ :: _, _ :: _, [], _, h => by simp [Lib.compareBytes] at h
  | x :: a, y :: b, z :: c, h1, h2 => by
    unfold Lib.compareBytes at h1 h2 ⊢
    simp only [UInt8.lt_iff_toNat_lt] at h1 h2 ⊢
    by_cases c1 : x.toNat < y.toNat
    · by_cases c2 : y.toNat < z.toNat
      · rw [if_pos (by omega)]; omega
      · rw [if_neg c2] at h2
        by_cases c3 : z.toNat < y.toNat
        · rw [if_pos c3] at h2; omega
        · rw [if_pos (by omega)]; omega
    · rw [if_neg c1] at h1
      by_cases c2 : y.toNat < x.toNat
      · rw [if_pos c2] at h1; omega
      · rw [if_neg c2] at h1
        by_cases c3 : y.toNat < z.toNat
        · rw [if_pos (by omega)]; omega
        · rw [if_neg c3] at h2
          by_cases c4 : z.toNat < y.toNat
          · rw [if_pos c4] at h2; omega
          · rw [if_neg c4] at h2
            rw [if_neg (by omega), if_neg (by omega)]
            exact cb_trans a b c h1 h2

def cmpI (x y : Int) : Int := if x < y then -1 else if y < x then 1 else 0
def cmpV (a b : Val) : Int := if cmpI a.kind b.kind = 0 then (if cmpI a.int b.int = 0 then Lib.compareBytes a.text.data.toList b.text.data.toList else cmpI a.int b.int) else cmpI a.kind b.kind
theorem cmpI_neg (x y : Int) : cmpI y x = -cmpI x y := by
  unfold cmpI
  (repeat' split) <;> omega
theorem cmpI_zero {x y : Int} : cmpI x y = 0 ↔ x = y := by
  unfold cmpI
  (repeat' split) <;> omega
theorem cmpI_le {x y : Int} : cmpI x y ≤ 0 ↔ x ≤ y := by
  unfold cmpI
  (repeat' split) <;> omega
theorem cmpV_neg (a b : Val) : cmpV b a = -cmpV a b := by
  unfold cmpV
  rw [cmpI_neg a.kind b.kind, cmpI_neg a.int b.int, cb_neg a.text.data.toList b.text.data.toList]
  (repeat' split) <;> omega
theorem cmpV_zero {a b : Val} (h : cmpV a b = 0) : a = b := by
  unfold cmpV at h
  by_cases h1 : cmpI a.kind b.kind = 0
  · rw [if_pos h1] at h
    by_cases h2 : cmpI a.int b.int = 0
    · rw [if_pos h2] at h
      have h3 := cb_zero _ _ h
      obtain ⟨k, n, ⟨⟨t⟩⟩⟩ := a
      obtain ⟨k', n', ⟨⟨t'⟩⟩⟩ := b
      have e1 := cmpI_zero.1 h1
      have e2 := cmpI_zero.1 h2
      simp only at e1 e2 h3
      rw [e1, e2, h3]
    · rw [if_neg h2] at h
      exact absurd h h2
  · rw [if_neg h1] at h
    exact absurd h h1
theorem cmpV_trans {a b c : Val} (h1 : cmpV a b ≤ 0) (h2 : cmpV b c ≤ 0) : cmpV a c ≤ 0 := by
  unfold cmpV at *
  by_cases k1 : cmpI a.kind b.kind = 0
  · rw [if_pos k1] at h1
    have e1 := cmpI_zero.1 k1
    by_cases k2 : cmpI b.kind c.kind = 0
    · rw [if_pos k2] at h2
      rw [e1, if_pos k2]
      by_cases n1 : cmpI a.int b.int = 0
      · rw [if_pos n1] at h1
        have e2 := cmpI_zero.1 n1
        rw [e2]
        by_cases n2 : cmpI b.int c.int = 0
        · rw [if_pos n2] at h2 ⊢
          exact cb_trans _ _ _ h1 h2
        · rw [if_neg n2] at h2 ⊢
          exact h2
      · rw [if_neg n1] at h1
        have e2 := cmpI_le.1 h1
        have e3 : a.int ≠ b.int := fun e => n1 (cmpI_zero.2 e)
        by_cases n2 : cmpI b.int c.int = 0
        · have e4 := cmpI_zero.1 n2
          rw [← e4, if_neg n1]
          exact h1
        · rw [if_neg n2] at h2
          have e4 := cmpI_le.1 h2
          rw [if_neg (fun e => by have := cmpI_zero.1 e; omega)]
          exact cmpI_le.2 (by omega)
    · rw [if_neg k2] at h2
      rw [e1, if_neg k2]
      exact h2
  · rw [if_neg k1] at h1
    have e1 := cmpI_le.1 h1
    have e2 : a.kind ≠ b.kind := fun e => k1 (cmpI_zero.2 e)
    by_cases k2 : cmpI b.kind c.kind = 0
    · have e3 := cmpI_zero.1 k2
      rw [← e3, if_neg k1]
      exact h1
    · rw [if_neg k2] at h2
      have e3 := cmpI_le.1 h2
      rw [if_neg (fun e => by have := cmpI_zero.1 e; omega)]
      exact cmpI_le.2 (by omega)

/-- 'less' of runs. -/
def rlt (x y : Run) : Prop := cmpV x.v y.v < 0
theorem rlt_ord : Ord rlt :=
  ⟨fun x y h h' => by unfold rlt at h h'; rw [cmpV_neg] at h'; omega, fun x y z h1 h2 => by
    unfold rlt at *
    have e1 := cmpV_neg y.v x.v
    have e2 := cmpV_neg z.v y.v
    have e3 := cmpV_neg z.v x.v
    have := cmpV_trans (a := x.v) (b := y.v) (c := z.v) (by omega) (by omega)
    omega⟩

theorem perm_sorted_eq {α : Type} {R : α → α → Prop} (anti : ∀ x y, R x y → R y x → x = y) : ∀ (l1 l2 : List α), l1.Perm l2 → l1.Pairwise R → l2.Pairwise R → l1 = l2
  | [], l2, h, _, _ => h.nil_eq
  | a :: l1, [], h, _, _ => by have := h.length_eq; simp at this
  | a :: l1, b :: l2, h, h1, h2 => by
    rw [List.pairwise_cons] at h1 h2
    have e : a = b := by
      have ha : a ∈ b :: l2 := h.subset (by simp)
      have hb : b ∈ a :: l1 := h.symm.subset (by simp)
      rcases List.mem_cons.1 ha with e | ha
      · exact e
      · rcases List.mem_cons.1 hb with e | hb
        · exact e.symm
        · exact anti _ _ (h1.1 b hb) (h2.1 a ha)
    subst e
    rw [perm_sorted_eq anti l1 l2 h.cons_inv h1.2 h2.2]

/-- The first n places as a list. -/
def rows (f : Nat → Run) (n : Nat) : List Run := (List.range n).map f
theorem rows_len (f : Nat → Run) (n : Nat) : (rows f n).length = n := by simp [rows]
theorem rows_get (f : Nat → Run) {n i : Nat} (h : i < (rows f n).length) : (rows f n)[i] = f i := by simp [rows]
theorem rows_of (rs : List Run) (d : Run) : rows (fun i => rs.getD i d) rs.length = rs := by
  apply List.ext_getElem
  · rw [rows_len]
  · intro i h1 h2
    rw [rows_get, List.getD_eq_getElem?_getD, List.getElem?_eq_getElem h2]
    rfl
theorem rows_sorted {f : Nat → Run} {n : Nat} (h : Srt rlt f 0 n) : (rows f n).Pairwise fun x y => ¬ rlt y x := by
  rw [List.pairwise_iff_getElem]
  intro i j hi hj hij
  rw [rows_get, rows_get]
  rw [rows_len] at hj
  exact h i j (Nat.zero_le _) hij hj
theorem dec_sorted {rs : List Run} (h : rs.Pairwise fun x y => ¬ rlt y x) : (decRuns rs).Pairwise fun x y => cmpV x y ≤ 0 := by
  have refl : ∀ v : Val, cmpV v v ≤ 0 := fun v => by have := cmpV_neg v v; omega
  unfold decRuns
  rw [List.pairwise_flatMap]
  refine ⟨fun r _ => ?_, h.imp fun {x y} hxy a ha b hb => ?_⟩
  · rw [List.pairwise_replicate]
    exact .inr (refl _)
  · have e1 := (List.mem_replicate.1 ha).2
    have e2 := (List.mem_replicate.1 hb).2
    subst e1 e2
    unfold rlt at hxy
    have := cmpV_neg y.v x.v
    omega
/-- Sorted runs of the same values, put together: the same list. -/
theorem hist_eq {xs ys : List Run} (hx : xs.Pairwise fun x y => ¬ rlt y x) (hy : ys.Pairwise fun x y => ¬ rlt y x) (hp : (decRuns xs).Perm (decRuns ys)) : encRuns (decRuns xs) = encRuns (decRuns ys) := by
  rw [perm_sorted_eq (R := fun x y => cmpV x y ≤ 0) (fun x y h1 h2 => cmpV_zero (by have := cmpV_neg x y; omega)) _ _ hp (dec_sorted hx) (dec_sorted hy)]
theorem decRuns_perm {xs ys : List Run} (h : xs.Perm ys) : (decRuns xs).Perm (decRuns ys) := h.flatMap_right _

end Go.Proofs.Ytimndhnbbmedbaa
