/-
  The three searches of the symmetric merge, plain.
-/
import Derived.Test.YtimndhnbbmedbaaSt
namespace Go.Proofs.Ytimndhnbbmedbaa

section
variable {α : Type} {lt : α → α → Prop}

/-- Where the first element goes among the others. -/
structure Bs1 (lt : α → α → Prop) (f : Nat → α) (a m b i j : Nat) : Prop where
  le : m ≤ i ∧ i ≤ j ∧ j ≤ b
  lo : ∀ x, m ≤ x → x < i → lt (f x) (f a)
  hi : ∀ x, j ≤ x → x < b → ¬ lt (f x) (f a)
theorem Bs1.first (f : Nat → α) {a m b : Nat} (h : m ≤ b) : Bs1 lt f a m b m b := ⟨⟨Nat.le_refl _, h, Nat.le_refl _⟩, fun x h1 h2 => by omega, fun x h1 h2 => by omega⟩
theorem Bs1.up (o : Ord lt) {f : Nat → α} {a m b i j h : Nat} (B : Bs1 lt f a m b i j) (hs : Srt lt f m b) (hh : i ≤ h ∧ h < j) (hl : lt (f h) (f a)) : Bs1 lt f a m b (h + 1) j := by
  obtain ⟨l1, l2, l3⟩ := B.le
  refine ⟨⟨by omega, by omega, l3⟩, fun x h1 h2 => ?_, B.hi⟩
  by_cases hx : x = h
  · rw [hx]; exact hl
  · exact Classical.byContradiction fun hn => o.trans _ _ _ hn (hs x h h1 (by omega) (by omega)) hl
theorem Bs1.down (o : Ord lt) {f : Nat → α} {a m b i j h : Nat} (B : Bs1 lt f a m b i j) (hs : Srt lt f m b) (hh : i ≤ h ∧ h < j) (hl : ¬ lt (f h) (f a)) : Bs1 lt f a m b i h := by
  obtain ⟨l1, l2, l3⟩ := B.le
  refine ⟨⟨l1, hh.1, by omega⟩, B.lo, fun x h1 h2 => ?_⟩
  by_cases hx : x = h
  · rw [hx]; exact hl
  · exact o.trans _ _ _ hl (hs h x (by omega) (by omega) h2)
theorem Bs1.end_ (o : Ord lt) {f : Nat → α} {a m b i : Nat} (B : Bs1 lt f a m b i i) (ham : m = a + 1) (hs : Srt lt f m b) : Srt lt (bub f a (i - 1)) a b ∧ Sw a b f (bub f a (i - 1)) := by
  subst ham
  obtain ⟨l1, l2, l3⟩ := B.le
  exact ⟨bub_srt o hs ⟨by omega, by omega⟩ (fun x h1 h2 => B.lo x h1 (by omega)) (fun x h1 h2 => B.hi x (by omega) h2), bub_sw f (i - 1 - a) (by omega) (by omega)⟩

/-- Where the last element goes. -/
structure Bs2 (lt : α → α → Prop) (f : Nat → α) (a m i j : Nat) : Prop where
  le : a ≤ i ∧ i ≤ j ∧ j ≤ m
  lo : ∀ x, a ≤ x → x < i → ¬ lt (f m) (f x)
  hi : ∀ x, j ≤ x → x < m → lt (f m) (f x)
theorem Bs2.first (f : Nat → α) {a m : Nat} (h : a ≤ m) : Bs2 lt f a m a m := ⟨⟨Nat.le_refl _, h, Nat.le_refl _⟩, fun x h1 h2 => by omega, fun x h1 h2 => by omega⟩
theorem Bs2.up (o : Ord lt) {f : Nat → α} {a m i j h : Nat} (B : Bs2 lt f a m i j) (hs : Srt lt f a m) (hh : i ≤ h ∧ h < j) (hl : ¬ lt (f m) (f h)) : Bs2 lt f a m (h + 1) j := by
  obtain ⟨l1, l2, l3⟩ := B.le
  refine ⟨⟨by omega, by omega, l3⟩, fun x h1 h2 => ?_, B.hi⟩
  by_cases hx : x = h
  · rw [hx]; exact hl
  · exact o.trans _ _ _ (hs x h h1 (by omega) (by omega)) hl
theorem Bs2.down (o : Ord lt) {f : Nat → α} {a m i j h : Nat} (B : Bs2 lt f a m i j) (hs : Srt lt f a m) (hh : i ≤ h ∧ h < j) (hl : lt (f m) (f h)) : Bs2 lt f a m i h := by
  obtain ⟨l1, l2, l3⟩ := B.le
  refine ⟨⟨l1, hh.1, by omega⟩, B.lo, fun x h1 h2 => ?_⟩
  by_cases hx : x = h
  · rw [hx]; exact hl
  · exact Classical.byContradiction fun hn => o.trans _ _ _ (hs h x (by omega) (by omega) h2) hn hl
theorem Bs2.end_ (o : Ord lt) {f : Nat → α} {a m b i : Nat} (B : Bs2 lt f a m i i) (hb : b = m + 1) (hs : Srt lt f a m) : Srt lt (bdn f m i) a b ∧ Sw a b f (bdn f m i) := by
  subst hb
  obtain ⟨l1, l2, l3⟩ := B.le
  exact ⟨bdn_srt o hs ⟨l1, l3⟩ B.lo B.hi, bdn_sw f (m - i) (by omega) l1 (by omega)⟩

/-- Where both parts are cut. -/
structure Bs3 (lt : α → α → Prop) (f : Nat → α) (a m b mid s0 r0 s r : Nat) : Prop where
  c : (mid < m ∧ s0 + b = mid + m ∧ r0 = mid) ∨ (m ≤ mid ∧ s0 = a ∧ r0 = m)
  half : mid = (a + b) / 2
  am : a < m ∧ m < b
  le : s0 ≤ s ∧ s ≤ r ∧ r ≤ r0
  lo : ∀ x, s0 ≤ x → x < s → ¬ lt (f (mid + m - 1 - x)) (f x)
  hi : ∀ x, r ≤ x → x < r0 → lt (f (mid + m - 1 - x)) (f x)
theorem Bs3.first (f : Nat → α) {a m b mid s0 r0 : Nat} (hc : (mid < m ∧ s0 + b = mid + m ∧ r0 = mid) ∨ (m ≤ mid ∧ s0 = a ∧ r0 = m)) (hm : mid = (a + b) / 2) (ham : a < m ∧ m < b) : Bs3 lt f a m b mid s0 r0 s0 r0 :=
  ⟨hc, hm, ham, ⟨Nat.le_refl _, by omega, Nat.le_refl _⟩, fun x h1 h2 => by omega, fun x h1 h2 => by omega⟩
theorem Bs3.up (o : Ord lt) {f : Nat → α} {a m b mid s0 r0 s r c : Nat} (B : Bs3 lt f a m b mid s0 r0 s r) (h1 : Srt lt f a m) (h2 : Srt lt f m b) (hc : s ≤ c ∧ c < r) (hl : ¬ lt (f (mid + m - 1 - c)) (f c)) : Bs3 lt f a m b mid s0 r0 (c + 1) r := by
  obtain ⟨l1, l2, l3⟩ := B.le
  have hm := B.half
  have hcc := B.c
  have ham := B.am
  refine ⟨hcc, hm, ham, ⟨by omega, by omega, l3⟩, fun x k1 k2 => ?_, B.hi⟩
  by_cases hx : x = c
  · rw [hx]; exact hl
  · have e1 := h1 x c (by omega) (by omega) (by omega)
    have e2 := h2 (mid + m - 1 - c) (mid + m - 1 - x) (by omega) (by omega) (by omega)
    exact o.trans _ _ _ (o.trans _ _ _ e1 hl) e2
theorem Bs3.down (o : Ord lt) {f : Nat → α} {a m b mid s0 r0 s r c : Nat} (B : Bs3 lt f a m b mid s0 r0 s r) (h1 : Srt lt f a m) (h2 : Srt lt f m b) (hc : s ≤ c ∧ c < r) (hl : lt (f (mid + m - 1 - c)) (f c)) : Bs3 lt f a m b mid s0 r0 s c := by
  obtain ⟨l1, l2, l3⟩ := B.le
  have hm := B.half
  have hcc := B.c
  have ham := B.am
  refine ⟨hcc, hm, ham, ⟨l1, hc.1, by omega⟩, B.lo, fun x k1 k2 => ?_⟩
  by_cases hx : x = c
  · rw [hx]; exact hl
  · have e1 := h1 c x (by omega) (by omega) (by omega)
    have e2 := h2 (mid + m - 1 - x) (mid + m - 1 - c) (by omega) (by omega) (by omega)
    exact Classical.byContradiction fun hn => o.trans _ _ _ (o.trans _ _ _ e1 hn) e2 hl
theorem Bs3.end_ (o : Ord lt) {f : Nat → α} {a m b mid s0 r0 s : Nat} (B : Bs3 lt f a m b mid s0 r0 s s) : Cutp lt f a m b mid s := by
  obtain ⟨l1, l2, l3⟩ := B.le
  have hm := B.half
  have hcc := B.c
  have ham := B.am
  refine ⟨⟨by omega, by omega, by omega, by omega⟩, fun k1 k2 => ?_, fun k1 k2 => ?_⟩
  · have := B.lo (s - 1) (by omega) (by omega)
    rwa [show mid + m - 1 - (s - 1) = m + mid - s by omega] at this
  · have := B.hi s (Nat.le_refl _) (by omega)
    rw [show mid + m - 1 - s = m + mid - s - 1 by omega] at this
    exact o.asym _ _ this
end

end Go.Proofs.Ytimndhnbbmedbaa
