/-
  The order of values and of rows. No program in sight.
-/
import Derived.Test.YtefifkleamiabaaVal
import Derived.Lib.Bytealg
namespace Go.Proofs.Ytefifkleamiabaa

theorem cb_neg : ∀ (a b : List UInt8), Lib.compareBytes b a = -Lib.compareBytes a b
  | [], [] => rfl
  | [], _ :: _ => rfl
  | _ :: _, [] => rfl
  | x :: a, y :: b => by
    unfold Lib.compareBytes
    by_cases h1 : x < y
    · rw [if_pos h1, if_neg (fun h => UInt8.lt_asymm h1 h), if_pos h1]
      rfl
    · by_cases h2 : y < x
      · rw [if_pos h2, if_neg h1, if_pos h2]
      · rw [if_neg h2, if_neg h1, if_neg h1, if_neg h2]
        exact cb_neg a b
theorem cb_zero : ∀ (a b : List UInt8), Lib.compareBytes a b = 0 → a = b
  | [], [], _ => rfl
  | [], _ :: _, h => by simp [Lib.compareBytes] at h
  | _ :: _, [], h => by simp [Lib.compareBytes] at h
  | x :: a, y :: b, h => by
    unfold Lib.compareBytes at h
    by_cases h1 : x < y
    · rw [if_pos h1] at h; omega
    · by_cases h2 : y < x
      · rw [if_neg h1, if_pos h2] at h; omega
      · rw [if_neg h1, if_neg h2] at h
        have e : x = y := by
          apply UInt8.toNat_inj.1
          rw [UInt8.lt_iff_toNat_lt] at h1 h2
          omega
        rw [e, cb_zero a b h]
theorem cb_trans : ∀ (a b c : List UInt8), Lib.compareBytes a b ≤ 0 → Lib.compareBytes b c ≤ 0 → Lib.compareBytes a c ≤ 0
  | [], _, [], _, _ => by simp [Lib.compareBytes]
  | [], _, _ :: _, _, _ => by simp [Lib.compareBytes]
  | _ :: _, [], _, h, _ => by simp [Lib.compareBytes] at h
  | _ :: _, _ :: _, [], _, h => by simp [Lib.compareBytes] at h
  | x :: a, y :: b, z :: c, h1, h2 => by
    unfold Lib.compareBytes at h1 h2 ⊢
    simp only [UInt8.lt_iff_toNat_lt] at h1 h2 ⊢
    by_cases c1 : x.toNat < y.toNat
    · by_cases c2 : y.toNat < z.toNat
      · rw [if_pos (by omega)]; omega
      · rw [if_neg c2] at h2
        by_cases c3 : z.toNat < y.toNat
        · rw [if_pos c3] at h2; omega
        · rw [if_pos (by omega)]; omega
    · rw [if_neg c1] at h1
      by_cases c2 : y.toNat < x.toNat
      · rw [if_pos c2] at h1; omega
      · rw [if_neg c2] at h1
        by_cases c3 : y.toNat < z.toNat
        · rw [if_pos (by omega)]; omega
        · rw [if_neg c3] at h2
          by_cases c4 : z.toNat < y.toNat
          · rw [if_pos c4] at h2; omega
          · rw [if_neg c4] at h2
            rw [if_neg (by omega), if_neg (by omega)]
            exact cb_trans a b c h1 h2

def cmpI (x y : Int) : Int := if x < y then -1 else if y < x then 1 else 0
def cmpV (a b : Val) : Int := if cmpI a.kind b.kind = 0 then (if cmpI a.int b.int = 0 then Lib.compareBytes a.text.data.toList b.text.data.toList else cmpI a.int b.int) else cmpI a.kind b.kind
theorem cmpI_neg (x y : Int) : cmpI y x = -cmpI x y := by
  unfold cmpI
  (repeat' split) <;> omega
theorem cmpI_zero {x y : Int} : cmpI x y = 0 ↔ x = y := by
  unfold cmpI
  (repeat' split) <;> omega
theorem cmpI_le {x y : Int} : cmpI x y ≤ 0 ↔ x ≤ y := by
  unfold cmpI
  (repeat' split) <;> omega
theorem cmpV_neg (a b : Val) : cmpV b a = -cmpV a b := by
  unfold cmpV
  rw [cmpI_neg a.kind b.kind, cmpI_neg a.int b.int, cb_neg a.text.data.toList b.text.data.toList]
  (repeat' split) <;> omega
theorem cmpV_zero {a b : Val} (h : cmpV a b = 0) : a = b := by
  unfold cmpV at h
  by_cases h1 : cmpI a.kind b.kind = 0
  · rw [if_pos h1] at h
    by_cases h2 : cmpI a.int b.int = 0
    · rw [if_pos h2] at h
      have h3 := cb_zero _ _ h
      obtain ⟨k, n, ⟨⟨t⟩⟩⟩ := a
      obtain ⟨k', n', ⟨⟨t'⟩⟩⟩ := b
      have e1 := cmpI_zero.1 h1
      have e2 := cmpI_zero.1 h2
      simp only at e1 e2 h3
      rw [e1, e2, h3]
    · rw [if_neg h2] at h
      exact absurd h h2
  · rw [if_neg h1] at h
    exact absurd h h1
theorem cmpV_trans {a b c : Val} (h1 : cmpV a b ≤ 0) (h2 : cmpV b c ≤ 0) : cmpV a c ≤ 0 := by
  unfold cmpV at *
  by_cases k1 : cmpI a.kind b.kind = 0
  · rw [if_pos k1] at h1
    have e1 := cmpI_zero.1 k1
    by_cases k2 : cmpI b.kind c.kind = 0
    · rw [if_pos k2] at h2
      rw [e1, if_pos k2]
      by_cases n1 : cmpI a.int b.int = 0
      · rw [if_pos n1] at h1
        have e2 := cmpI_zero.1 n1
        rw [e2]
        by_cases n2 : cmpI b.int c.int = 0
        · rw [if_pos n2] at h2 ⊢
          exact cb_trans _ _ _ h1 h2
        · rw [if_neg n2] at h2 ⊢
          exact h2
      · rw [if_neg n1] at h1
        have e2 := cmpI_le.1 h1
        have e3 : a.int ≠ b.int := fun e => n1 (cmpI_zero.2 e)
        by_cases n2 : cmpI b.int c.int = 0
        · have e4 := cmpI_zero.1 n2
          rw [← e4, if_neg n1]
          exact h1
        · rw [if_neg n2] at h2
          have e4 := cmpI_le.1 h2
          rw [if_neg (fun e => by have := cmpI_zero.1 e; omega)]
          exact cmpI_le.2 (by omega)
    · rw [if_neg k2] at h2
      rw [e1, if_neg k2]
      exact h2
  · rw [if_neg k1] at h1
    have e1 := cmpI_le.1 h1
    have e2 : a.kind ≠ b.kind := fun e => k1 (cmpI_zero.2 e)
    by_cases k2 : cmpI b.kind c.kind = 0
    · have e3 := cmpI_zero.1 k2
      rw [← e3, if_neg k1]
      exact h1
    · rw [if_neg k2] at h2
      have e3 := cmpI_le.1 h2
      rw [if_neg (fun e => by have := cmpI_zero.1 e; omega)]
      exact cmpI_le.2 (by omega)


abbrev Row := List Val
/-- What CompareRows answers. -/
def cmpR : Row → Row → Int
  | a :: as1, b :: bs => if cmpV a b = 0 then cmpR as1 bs else cmpV a b
  | as1, bs => cmpI as1.length bs.length
theorem cmpR_nil_left (b : Row) : cmpR [] b = cmpI (([] : Row).length) b.length := by cases b <;> rfl
theorem cmpR_nil_right (a : Row) : cmpR a [] = cmpI a.length (([] : Row).length) := by cases a <;> rfl
theorem cmpR_cons (a : Val) (as1 : Row) (b : Val) (bs : Row) : cmpR (a :: as1) (b :: bs) = if cmpV a b = 0 then cmpR as1 bs else cmpV a b := rfl
theorem cmpR_neg : ∀ (a b : Row), cmpR b a = -cmpR a b
  | [], b => by rw [cmpR_nil_left, cmpR_nil_right, cmpI_neg]
  | a :: as1, [] => by rw [cmpR_nil_left, cmpR_nil_right, cmpI_neg]
  | a :: as1, b :: bs => by
    rw [cmpR_cons, cmpR_cons, cmpV_neg a b, cmpR_neg as1 bs]
    (repeat' split) <;> omega
theorem cmpV_refl (a : Val) : cmpV a a = 0 := by have := cmpV_neg a a; omega
theorem cmpR_refl (a : Row) : cmpR a a = 0 := by have := cmpR_neg a a; omega
theorem cmpR_zero : ∀ {a b : Row}, cmpR a b = 0 → a = b
  | [], b, h => by
    rw [cmpR_nil_left, cmpI_zero] at h
    exact (List.eq_nil_of_length_eq_zero (by simpa using h.symm)).symm
  | a :: as1, [], h => by
    rw [cmpR_nil_right, cmpI_zero] at h
    simp at h
    omega
  | a :: as1, b :: bs, h => by
    rw [cmpR_cons] at h
    by_cases h1 : cmpV a b = 0
    · rw [if_pos h1] at h
      rw [cmpV_zero h1, cmpR_zero h]
    · rw [if_neg h1] at h
      exact absurd h h1
theorem cmpR_trans : ∀ {a b c : Row}, cmpR a b ≤ 0 → cmpR b c ≤ 0 → cmpR a c ≤ 0
  | [], b, c, _, _ => by rw [cmpR_nil_left, cmpI_le]; simp
  | a :: as1, [], c, h, _ => by
    rw [cmpR_nil_right, cmpI_le] at h
    simp at h
    omega
  | a :: as1, b :: bs, [], _, h => by
    rw [cmpR_nil_right, cmpI_le] at h
    simp at h
    omega
  | a :: as1, b :: bs, c :: cs, h1, h2 => by
    rw [cmpR_cons] at h1 h2 ⊢
    by_cases k1 : cmpV a b = 0
    · rw [if_pos k1] at h1
      have e1 := cmpV_zero k1
      subst e1
      by_cases k2 : cmpV a c = 0
      · rw [if_pos k2] at h2 ⊢
        exact cmpR_trans h1 h2
      · rw [if_neg k2] at h2 ⊢
        exact h2
    · rw [if_neg k1] at h1
      by_cases k2 : cmpV b c = 0
      · have e1 := cmpV_zero k2
        subst e1
        rw [if_neg k1]
        exact h1
      · rw [if_neg k2] at h2
        have h3 := cmpV_trans h1 h2
        have k3 : cmpV a c ≠ 0 := fun e => by
          have e1 := cmpV_zero e
          subst e1
          have := cmpV_neg a b
          omega
        rw [if_neg k3]
        exact h3
/-- The rows' order. -/
def rl (a b : Row) : Prop := cmpR a b < 0
theorem rl_irrefl (a : Row) : ¬ rl a a := by unfold rl; rw [cmpR_refl]; omega
theorem rl_asymm {a b : Row} (h : rl a b) : ¬ rl b a := by unfold rl at *; rw [cmpR_neg]; omega
theorem rl_trans {a b c : Row} (h1 : rl a b) (h2 : rl b c) : rl a c := by
  unfold rl at *
  have h3 := cmpR_trans (a := a) (b := b) (c := c) (by omega) (by omega)
  rcases Int.lt_or_eq_of_le h3 with h | h
  · exact h
  · have e := cmpR_zero h
    subst e
    have := cmpR_neg a b
    omega
theorem rl_le_trans {a b c : Row} (h1 : ¬ rl b a) (h2 : ¬ rl c b) : ¬ rl c a := by
  unfold rl at *
  have e1 := cmpR_neg b a
  have e2 := cmpR_neg c b
  have e3 := cmpR_neg c a
  have := cmpR_trans (a := a) (b := b) (c := c) (by omega) (by omega)
  omega
theorem rl_lt_le {a b c : Row} (h1 : rl a b) (h2 : ¬ rl c b) : rl a c := by
  rcases Int.lt_or_eq_of_le (show cmpR a c ≤ 0 from cmpR_trans (b := b) (Int.le_of_lt h1) (by unfold rl at h2; have := cmpR_neg c b; omega)) with h | h
  · exact h
  · have e := cmpR_zero h
    subst e
    exact absurd h1 h2
theorem rl_le_lt {a b c : Row} (h1 : ¬ rl b a) (h2 : rl b c) : rl a c := by
  rcases Int.lt_or_eq_of_le (show cmpR a c ≤ 0 from cmpR_trans (b := b) (by unfold rl at h1; have := cmpR_neg b a; omega) (Int.le_of_lt h2)) with h | h
  · exact h
  · have e := cmpR_zero h
    subst e
    exact absurd h2 h1
theorem rl_tri (a b : Row) : rl a b ∨ a = b ∨ rl b a := by
  unfold rl
  have := cmpR_neg a b
  rcases Int.lt_trichotomy (cmpR a b) 0 with h | h | h
  · exact .inl h
  · exact .inr (.inl (cmpR_zero h))
  · exact .inr (.inr (by omega))
theorem rl_eq {a b : Row} (h1 : ¬ rl a b) (h2 : ¬ rl b a) : a = b := by
  rcases rl_tri a b with h | h | h
  · exact absurd h h1
  · exact h
  · exact absurd h h2
/-- Behind k equal values. -/
theorem cmpR_drop {a b : Row} {k : Nat} (ha : k < a.length) (hb : k < b.length) : cmpR (a.drop k) (b.drop k) = if cmpV a[k] b[k] = 0 then cmpR (a.drop (k + 1)) (b.drop (k + 1)) else cmpV a[k] b[k] := by
  rw [List.drop_eq_getElem_cons ha, List.drop_eq_getElem_cons hb]
  rfl
theorem cmpR_end {a b : Row} {k : Nat} (h : k = a.length ∨ k = b.length) (ha : k ≤ a.length) (hb : k ≤ b.length) : cmpR (a.drop k) (b.drop k) = cmpI a.length b.length := by
  rcases h with h | h
  · subst h
    rw [List.drop_length, cmpR_nil_left]
    unfold cmpI
    simp only [List.length_nil, List.length_drop]
    (repeat' split) <;> omega
  · subst h
    rw [List.drop_length, cmpR_nil_right]
    unfold cmpI
    simp only [List.length_nil, List.length_drop]
    (repeat' split) <;> omega

end Go.Proofs.Ytefifkleamiabaa
