/-
  Stable sorting by swaps, plain: rows as functions of the place; what insertion, rotation and the symmetric merge do. No program in sight.
-/
import Derived.Test.YtimndhnbbmedbaaMem
namespace Go.Proofs.Ytimndhnbbmedbaa

section
variable {α : Type}

def swp (f : Nat → α) (i j : Nat) : Nat → α := fun k => if k = i then f j else if k = j then f i else f k

/-- g comes of f by exchanges within [a, b). -/
inductive Sw (a b : Nat) (f : Nat → α) : (Nat → α) → Prop
  | refl : Sw a b f f
  | step {g : Nat → α} {i j : Nat} (h : Sw a b f g) (hi : a ≤ i ∧ i < b) (hj : a ≤ j ∧ j < b) : Sw a b f (swp g i j)

theorem Sw.trans {a b : Nat} {f g h : Nat → α} (x : Sw a b f g) (y : Sw a b g h) : Sw a b f h := by
  induction y with
  | refl => exact x
  | step _ hi hj ih => exact ih.step hi hj
theorem Sw.mono {a b a' b' : Nat} {f g : Nat → α} (x : Sw a b f g) (ha : a' ≤ a) (hb : b ≤ b') : Sw a' b' f g := by
  induction x with
  | refl => exact .refl
  | step _ hi hj ih => exact ih.step ⟨by omega, by omega⟩ ⟨by omega, by omega⟩
theorem Sw.out {a b : Nat} {f g : Nat → α} (x : Sw a b f g) {k : Nat} (hk : ¬ (a ≤ k ∧ k < b)) : g k = f k := by
  induction x with
  | refl => rfl
  | step h hi hj ih =>
    unfold swp
    rw [if_neg (by omega), if_neg (by omega)]
    exact ih
theorem Sw.all {a b : Nat} {f g : Nat → α} (x : Sw a b f g) {p : α → Prop} (h : ∀ k, a ≤ k → k < b → p (f k)) : ∀ k, a ≤ k → k < b → p (g k) := by
  induction x with
  | refl => exact h
  | @step g i j _ hi hj ih =>
    intro k h1 h2
    unfold swp
    split
    · exact ih j hj.1 hj.2
    · split
      · exact ih i hi.1 hi.2
      · exact ih k h1 h2
theorem Sw.congr {a b : Nat} {f g g' : Nat → α} (x : Sw a b f g) (e : ∀ k, g' k = g k) : Sw a b f g' := by
  rw [show g' = g from funext e]
  exact x

/-- As lists: permutations. -/
theorem map_set_swap (f : Nat → α) : ∀ (n i j : Nat), i < j → j < n → ((List.range n).map (swp f i j)).Perm ((List.range n).map f) := by
  intro n
  induction n with
  | zero => intro i j _ h; omega
  | succ n ih =>
    intro i j hij hj
    rw [List.range_succ, List.map_append, List.map_append]
    by_cases hjn : j < n
    · have e : swp f i j n = f n := by unfold swp; rw [if_neg (by omega), if_neg (by omega)]
      simp only [List.map_cons, List.map_nil, e]
      exact (ih i j hij hjn).append_right _
    · have hjn' : j = n := by omega
      subst hjn'
      have e : swp f i j j = f i := by unfold swp; rw [if_neg (by omega), if_pos rfl]
      simp only [List.map_cons, List.map_nil, e]
      have key : ∀ m, i < m → m ≤ j → ((List.range m).map (swp f i j) ++ [f i]).Perm ((List.range m).map f ++ [f j]) := by
        intro m
        induction m with
        | zero => intro h; omega
        | succ m ihm =>
          intro h1 h2
          rw [List.range_succ, List.map_append, List.map_append]
          simp only [List.map_cons, List.map_nil, List.append_assoc]
          by_cases him : i < m
          · have e2 : swp f i j m = f m := by unfold swp; rw [if_neg (by omega), if_neg (by omega)]
            rw [e2]
            have h3 := ihm him (by omega)
            have s1 : ([f m] ++ [f i]).Perm ([f i] ++ [f m]) := List.perm_append_comm
            have s2 : ([f j] ++ [f m]).Perm ([f m] ++ [f j]) := List.perm_append_comm
            refine (s1.append_left _).trans ?_
            refine List.Perm.trans ?_ (s2.append_left _)
            rw [← List.append_assoc, ← List.append_assoc]
            exact h3.append_right _
          · have him' : m = i := by omega
            subst him'
            have e2 : swp f m j m = f j := by unfold swp; rw [if_pos rfl]
            rw [e2]
            have e3 : (List.range m).map (swp f m j) = (List.range m).map f := by
              apply List.map_congr_left
              intro k hk
              have := List.mem_range.1 hk
              unfold swp
              rw [if_neg (by omega), if_neg (by omega)]
            rw [e3]
            exact List.perm_append_comm.append_left _
      exact key j hij (Nat.le_refl _)
theorem swp_comm (f : Nat → α) (i j : Nat) : swp f i j = swp f j i := by
  funext k
  unfold swp
  by_cases h1 : k = i <;> by_cases h2 : k = j <;> simp_all
theorem swp_self (f : Nat → α) (i : Nat) : swp f i i = f := by
  funext k
  unfold swp
  by_cases h1 : k = i <;> simp_all
theorem Sw.perm {a b n : Nat} {f g : Nat → α} (x : Sw a b f g) (hb : b ≤ n) : ((List.range n).map g).Perm ((List.range n).map f) := by
  induction x with
  | refl => exact .refl _
  | @step g i j _ hi hj ih =>
    refine List.Perm.trans ?_ ih
    rcases Nat.lt_trichotomy i j with h | h | h
    · exact map_set_swap g n i j h (by omega)
    · subst h
      rw [swp_self]
    · rw [swp_comm]
      exact map_set_swap g n j i h (by omega)

/-- A test that orders: 'less' of a total preorder. -/
structure Ord (lt : α → α → Prop) : Prop where
  asym : ∀ x y, lt x y → ¬ lt y x
  trans : ∀ x y z, ¬ lt y x → ¬ lt z y → ¬ lt z x

variable {lt : α → α → Prop}
def Srt (lt : α → α → Prop) (f : Nat → α) (a b : Nat) : Prop := ∀ i j, a ≤ i → i < j → j < b → ¬ lt (f j) (f i)

theorem Srt.sub {f : Nat → α} {a b a' b' : Nat} (h : Srt lt f a b) (ha : a ≤ a') (hb : b' ≤ b) : Srt lt f a' b' := fun i j h1 h2 h3 => h i j (by omega) h2 (by omega)
theorem Srt.congr {f g : Nat → α} {a b : Nat} (h : Srt lt f a b) (e : ∀ k, a ≤ k → k < b → g k = f k) : Srt lt g a b := fun i j h1 h2 h3 => by
  rw [e i (by omega) (by omega), e j (by omega) (by omega)]
  exact h i j h1 h2 h3
theorem Srt.short {f : Nat → α} {a b : Nat} (h : b ≤ a + 1) : Srt lt f a b := fun i j h1 h2 h3 => by omega
/-- Two sorted parts, the first below the second. -/
theorem Srt.join {f : Nat → α} {a m b : Nat} (h1 : Srt lt f a m) (h2 : Srt lt f m b) (hc : ∀ i j, a ≤ i → i < m → m ≤ j → j < b → ¬ lt (f j) (f i)) : Srt lt f a b := fun i j hi hij hj => by
  by_cases h : j < m
  · exact h1 i j hi hij h
  · by_cases h' : i < m
    · exact hc i j hi h' (by omega) hj
    · exact h2 i j (by omega) hij hj
/-- Exchanges within each part keep that the first is below the second. -/
theorem cross_sw {f g : Nat → α} {a m b : Nat} (hc : ∀ i j, a ≤ i → i < m → m ≤ j → j < b → ¬ lt (f j) (f i)) (h : Sw a m f g) : ∀ i j, a ≤ i → i < m → m ≤ j → j < b → ¬ lt (g j) (g i) := by
  intro i j h1 h2 h3 h4
  rw [h.out (k := j) (by omega)]
  exact h.all (p := fun x => ¬ lt (f j) x) (fun k hk1 hk2 => hc k j hk1 hk2 h3 h4) i h1 h2
theorem cross_sw2 {f g : Nat → α} {a m b : Nat} (hc : ∀ i j, a ≤ i → i < m → m ≤ j → j < b → ¬ lt (f j) (f i)) (h : Sw m b f g) : ∀ i j, a ≤ i → i < m → m ≤ j → j < b → ¬ lt (g j) (g i) := by
  intro i j h1 h2 h3 h4
  rw [h.out (k := i) (by omega)]
  exact h.all (p := fun x => ¬ lt x (f i)) (fun k hk1 hk2 => hc i k h1 h2 hk1 hk2) j h3 h4

/-! Insertion. -/
/-- The run's element stands at j; all others of [a, i] are in order, those behind j above it. -/
structure Ins (lt : α → α → Prop) (f : Nat → α) (a i j : Nat) : Prop where
  le : a ≤ j ∧ j ≤ i
  srt : ∀ x y, a ≤ x → x < y → y ≤ i → x ≠ j → y ≠ j → ¬ lt (f y) (f x)
  up : ∀ y, j < y → y ≤ i → ¬ lt (f y) (f j)
theorem Ins.first {f : Nat → α} {a i : Nat} (h : Srt lt f a i) (hi : a ≤ i) : Ins lt f a i i := ⟨⟨hi, Nat.le_refl _⟩, fun x y h1 h2 h3 _ h5 => h x y h1 h2 (by omega), fun y h1 h2 => by omega⟩
theorem Ins.step (o : Ord lt) {f : Nat → α} {a i j : Nat} (h : Ins lt f a i j) (hj : a < j) (hl : lt (f j) (f (j - 1))) : Ins lt (swp f j (j - 1)) a i (j - 1) := by
  have e1 : swp f j (j - 1) (j - 1) = f j := by unfold swp; rw [if_neg (by omega), if_pos rfl]
  have e2 : swp f j (j - 1) j = f (j - 1) := by unfold swp; rw [if_pos rfl]
  have e3 : ∀ k, k ≠ j → k ≠ j - 1 → swp f j (j - 1) k = f k := fun k h1 h2 => by unfold swp; rw [if_neg h1, if_neg h2]
  have := h.le
  refine ⟨⟨by omega, by omega⟩, fun x y h1 h2 h3 h4 h5 => ?_, fun y h1 h2 => ?_⟩
  · by_cases hx : x = j
    · subst hx
      rw [e2, e3 y (by omega) (by omega)]
      exact h.srt (x - 1) y (by omega) (by omega) h3 (by omega) (by omega)
    · by_cases hy : y = j
      · subst hy
        rw [e2, e3 x (by omega) h4]
        exact h.srt x (y - 1) h1 (by omega) (by omega) hx (by omega)
      · rw [e3 x hx h4, e3 y hy h5]
        exact h.srt x y h1 h2 h3 hx hy
  · rw [e1]
    by_cases hy : y = j
    · subst hy
      rw [e2]
      exact o.asym _ _ hl
    · rw [e3 y hy (by omega)]
      exact h.up y (by omega) h2
theorem Ins.done (o : Ord lt) {f : Nat → α} {a i j : Nat} (h : Ins lt f a i j) (hs : j = a ∨ ¬ lt (f j) (f (j - 1))) : Srt lt f a (i + 1) := by
  intro x y h1 h2 h3
  have := h.le
  by_cases hx : x = j
  · subst hx
    exact h.up y h2 (by omega)
  · by_cases hy : y = j
    · subst hy
      rcases hs with hs | hs
      · omega
      · by_cases hx1 : x = y - 1
        · rw [hx1]; exact hs
        · exact o.trans _ _ _ (h.srt x (y - 1) h1 (by omega) (by omega) hx (by omega)) hs
    · exact h.srt x y h1 h2 (by omega) hx hy

/-! Ranges exchanged; rotation. -/
def swr (f : Nat → α) (a b : Nat) : Nat → Nat → α
  | 0 => f
  | n + 1 => swp (swr f a b n) (a + n) (b + n)
theorem swr_at (f : Nat → α) (a b : Nat) : ∀ n, a + n ≤ b → ∀ x, swr f a b n x = if a ≤ x ∧ x < a + n then f (x + (b - a)) else if b ≤ x ∧ x < b + n then f (x - (b - a)) else f x := by
  intro n
  induction n with
  | zero => intro _ x; rw [if_neg (by omega), if_neg (by omega)]; rfl
  | succ n ih =>
    intro h x
    have ih' := ih (by omega)
    unfold swr swp
    rw [ih' (b + n), ih' (a + n), ih' x]
    (repeat' split) <;> first | (exfalso; omega) | rfl | (congr 1; omega)
theorem swr_sw (f : Nat → α) {a b lo hi : Nat} : ∀ n, lo ≤ a → lo ≤ b → a + n ≤ hi → b + n ≤ hi → Sw lo hi f (swr f a b n)
  | 0, _, _, _, _ => .refl
  | n + 1, h1, h2, h3, h4 => (swr_sw f n h1 h2 (by omega) (by omega)).step ⟨by omega, by omega⟩ ⟨by omega, by omega⟩
/-- [a, m) behind [m, b). -/
def rot (f : Nat → α) (a m b : Nat) : Nat → α := fun x => if a ≤ x ∧ x < a + (b - m) then f (x + (m - a)) else if a + (b - m) ≤ x ∧ x < b then f (x - (b - m)) else f x
theorem rot_gt (f : Nat → α) {m i j : Nat} (hi : i ≤ m) (hij : j < i) : rot (swr f (m - i) m j) (m - (i - j)) m (m + j) = rot f (m - i) m (m + j) := by
  funext x
  have s := swr_at f (m - i) m j (by omega)
  unfold rot
  simp only [s]
  (repeat' split) <;> first | (exfalso; omega) | rfl | (congr 1; omega)
theorem rot_lt (f : Nat → α) {m i j : Nat} (hi : i ≤ m) (hij : i < j) : rot (swr f (m - i) (m + j - i) i) (m - i) m (m + (j - i)) = rot f (m - i) m (m + j) := by
  funext x
  have s := swr_at f (m - i) (m + j - i) i (by omega)
  unfold rot
  simp only [s]
  (repeat' split) <;> first | (exfalso; omega) | rfl | (congr 1; omega)
theorem rot_eq (f : Nat → α) {m i : Nat} (hi : i ≤ m) : swr f (m - i) m i = rot f (m - i) m (m + i) := by
  funext x
  rw [swr_at f (m - i) m i (by omega) x]
  unfold rot
  (repeat' split) <;> first | (exfalso; omega) | rfl | (congr 1; omega)
theorem rot_none (f : Nat → α) {a m b : Nat} (h : a ≤ m ∧ m ≤ b) (hc : a = m ∨ m = b) : rot f a m b = f := by
  funext x
  unfold rot
  by_cases h1 : a ≤ x ∧ x < a + (b - m)
  · rw [if_pos h1]
    congr 1
    omega
  · rw [if_neg h1]
    by_cases h2 : a + (b - m) ≤ x ∧ x < b
    · rw [if_pos h2]
      congr 1
      omega
    · rw [if_neg h2]

/-! The merge where one side has one element. -/
/-- The element of a, carried up to k. -/
def bub (f : Nat → α) (a k : Nat) : Nat → α := fun x => if a ≤ x ∧ x < k then f (x + 1) else if x = k then f a else f x
theorem bub_first (f : Nat → α) (a : Nat) : bub f a a = f := by
  funext x
  unfold bub
  rw [if_neg (by omega)]
  by_cases h : x = a
  · rw [if_pos h, h]
  · rw [if_neg h]
theorem bub_step (f : Nat → α) {a k : Nat} (h : a ≤ k) : swp (bub f a k) k (k + 1) = bub f a (k + 1) := by
  funext x
  unfold swp bub
  by_cases h1 : x = k
  · subst h1
    rw [if_pos rfl, if_neg (by omega), if_neg (by omega), if_pos (by omega)]
  · rw [if_neg h1]
    by_cases h2 : x = k + 1
    · subst h2
      rw [if_pos rfl, if_neg (by omega), if_pos rfl, if_neg (by omega), if_pos rfl]
    · rw [if_neg h2]
      by_cases h3 : a ≤ x ∧ x < k
      · rw [if_pos h3, if_pos (by omega)]
      · rw [if_neg h3, if_neg h1, if_neg (by omega), if_neg h2]
theorem bub_srt (o : Ord lt) {f : Nat → α} {a b k : Nat} (hs : Srt lt f (a + 1) b) (hk : a ≤ k ∧ k < b) (h1 : ∀ x, a + 1 ≤ x → x ≤ k → lt (f x) (f a)) (h2 : ∀ x, k < x → x < b → ¬ lt (f x) (f a)) : Srt lt (bub f a k) a b := by
  intro i j hi hij hj
  unfold bub
  by_cases c1 : a ≤ i ∧ i < k
  · rw [if_pos c1]
    by_cases c2 : a ≤ j ∧ j < k
    · rw [if_pos c2]
      exact hs _ _ (by omega) (by omega) (by omega)
    · rw [if_neg c2]
      by_cases c3 : j = k
      · rw [if_pos c3]
        exact o.asym _ _ (h1 (i + 1) (by omega) (by omega))
      · rw [if_neg c3]
        exact hs _ _ (by omega) (by omega) (by omega)
  · rw [if_neg c1, if_neg (c := a ≤ j ∧ j < k) (by omega), if_neg (c := j = k) (by omega)]
    by_cases c4 : i = k
    · rw [if_pos c4]
      exact h2 j (by omega) hj
    · rw [if_neg c4]
      exact hs _ _ (by omega) hij hj
theorem bub_sw (f : Nat → α) {a k b : Nat} : ∀ n, k = a + n → k < b → Sw a b f (bub f a k) := by
  intro n
  induction n generalizing k with
  | zero => intro h _; rw [h, Nat.add_zero, bub_first]; exact .refl
  | succ n ih =>
    intro h hb
    have := (ih (k := a + n) rfl (by omega)).step (i := a + n) (j := a + n + 1) ⟨by omega, by omega⟩ ⟨by omega, by omega⟩
    rw [bub_step f (by omega)] at this
    rw [h]
    exact this
/-- The element of m, carried down to k. -/
def bdn (f : Nat → α) (m k : Nat) : Nat → α := fun x => if x = k then f m else if k < x ∧ x ≤ m then f (x - 1) else f x
theorem bdn_first (f : Nat → α) (m : Nat) : bdn f m m = f := by
  funext x
  unfold bdn
  by_cases h : x = m
  · rw [if_pos h, h]
  · rw [if_neg h, if_neg (by omega)]
theorem bdn_step (f : Nat → α) {m k : Nat} (h : k + 1 ≤ m) : swp (bdn f m (k + 1)) (k + 1) k = bdn f m k := by
  funext x
  unfold swp bdn
  by_cases h1 : x = k + 1
  · subst h1
    rw [if_pos rfl, if_neg (by omega), if_neg (by omega), if_neg (by omega), if_pos (by omega)]
    rfl
  · rw [if_neg h1]
    by_cases h2 : x = k
    · subst h2
      rw [if_pos rfl, if_pos rfl, if_pos rfl]
    · rw [if_neg h2, if_neg h1, if_neg h2]
      by_cases h3 : k + 1 < x ∧ x ≤ m
      · rw [if_pos h3, if_pos (by omega)]
      · rw [if_neg h3, if_neg (by omega)]
theorem bdn_srt (o : Ord lt) {f : Nat → α} {a m k : Nat} (hs : Srt lt f a m) (hk : a ≤ k ∧ k ≤ m) (h1 : ∀ x, a ≤ x → x < k → ¬ lt (f m) (f x)) (h2 : ∀ x, k ≤ x → x < m → lt (f m) (f x)) : Srt lt (bdn f m k) a (m + 1) := by
  intro i j hi hij hj
  unfold bdn
  by_cases c1 : i = k
  · rw [if_pos c1, if_neg (c := j = k) (by omega), if_pos (by omega)]
    exact o.asym _ _ (h2 (j - 1) (by omega) (by omega))
  · rw [if_neg c1]
    by_cases c2 : k < i ∧ i ≤ m
    · rw [if_pos c2, if_neg (c := j = k) (by omega), if_pos (by omega)]
      exact hs _ _ (by omega) (by omega) (by omega)
    · rw [if_neg c2]
      by_cases c3 : j = k
      · rw [if_pos c3]
        exact h1 i hi (by omega)
      · rw [if_neg c3]
        by_cases c4 : k < j ∧ j ≤ m
        · rw [if_pos c4]
          exact hs _ _ hi (by omega) (by omega)
        · rw [if_neg c4]
          exact hs _ _ hi hij (by omega)
theorem bdn_sw (f : Nat → α) {m k a b : Nat} : ∀ n, k + n = m → a ≤ k → m < b → Sw a b f (bdn f m k) := by
  intro n
  induction n generalizing k with
  | zero => intro h _ _; rw [← h, Nat.add_zero, bdn_first]; exact .refl
  | succ n ih =>
    intro h ha hb
    have := (ih (k := k + 1) (by omega) (by omega) hb).step (i := k + 1) (j := k) ⟨by omega, by omega⟩ ⟨by omega, by omega⟩
    rwa [bdn_step f (by omega)] at this

/-! The general merge. -/
/-- What the search has found: where to cut. -/
structure Cutp (lt : α → α → Prop) (f : Nat → α) (a m b mid s : Nat) : Prop where
  le : a ≤ s ∧ s ≤ m ∧ s ≤ mid ∧ m + mid ≤ s + b
  lo : a < s → m + mid < s + b → ¬ lt (f (m + mid - s)) (f (s - 1))
  hi : s < m → m < m + mid - s → ¬ lt (f s) (f (m + mid - s - 1))
/-- Behind the rotation: two pairs of sorted parts, the first pair below the second. -/
theorem cut_srt (o : Ord lt) {f : Nat → α} {a m b mid s : Nat} (h : Cutp lt f a m b mid s) (h1 : Srt lt f a m) (h2 : Srt lt f m b) (hmid : a ≤ mid ∧ mid ≤ b) :
    let g := rot f s m (m + mid - s)
    Srt lt g a s ∧ Srt lt g s mid ∧ Srt lt g mid (m + mid - s) ∧ Srt lt g (m + mid - s) b ∧ ∀ i j, a ≤ i → i < mid → mid ≤ j → j < b → ¬ lt (g j) (g i) := by
  obtain ⟨l1, l2, l3, l4⟩ := h.le
  have g1 : ∀ x, x < s → rot f s m (m + mid - s) x = f x := fun x hx => by unfold rot; rw [if_neg (by omega), if_neg (by omega)]
  have g2 : ∀ x, s ≤ x → x < mid → rot f s m (m + mid - s) x = f (x + (m - s)) := fun x hx hx2 => by unfold rot; rw [if_pos (by omega)]
  have g3 : ∀ x, mid ≤ x → x < m + mid - s → rot f s m (m + mid - s) x = f (x - (mid - s)) := fun x hx hx2 => by
    unfold rot
    rw [if_neg (by omega), if_pos (by omega)]
    congr 1
    omega
  have g4 : ∀ x, m + mid - s ≤ x → rot f s m (m + mid - s) x = f x := fun x hx => by unfold rot; rw [if_neg (by omega), if_neg (by omega)]
  have loe : ∀ x, a ≤ x → x < s → ∀ y, m + mid - s ≤ y → y < b → ¬ lt (f y) (f x) := fun x hx hx2 y hy hy2 => by
    have e1 := h.lo (by omega) (by omega)
    have e2 : ¬ lt (f (m + mid - s)) (f x) := by
      by_cases hxs : x = s - 1
      · rw [hxs]; exact e1
      · exact o.trans _ _ _ (h1 x (s - 1) hx (by omega) (by omega)) e1
    by_cases hye : y = m + mid - s
    · rw [hye]; exact e2
    · exact o.trans _ _ _ e2 (h2 (m + mid - s) y (by omega) (by omega) hy2)
  have hie : ∀ x, m ≤ x → x < m + mid - s → ∀ y, s ≤ y → y < m → ¬ lt (f y) (f x) := fun x hx hx2 y hy hy2 => by
    have e1 := h.hi (by omega) (by omega)
    have e2 : ¬ lt (f s) (f x) := by
      by_cases hxs : x = m + mid - s - 1
      · rw [hxs]; exact e1
      · exact o.trans _ _ _ (h2 x (m + mid - s - 1) hx (by omega) (by omega)) e1
    by_cases hye : y = s
    · rw [hye]; exact e2
    · exact o.trans _ _ _ e2 (h1 s y (by omega) (by omega) hy2)
  refine ⟨fun i j hi hij hj => ?_, fun i j hi hij hj => ?_, fun i j hi hij hj => ?_, fun i j hi hij hj => ?_, fun i j hi hij hj hjb => ?_⟩
  · rw [g1 i (by omega), g1 j hj]
    exact h1 i j hi hij (by omega)
  · rw [g2 i hi (by omega), g2 j (by omega) hj]
    exact h2 _ _ (by omega) (by omega) (by omega)
  · rw [g3 i hi (by omega), g3 j (by omega) hj]
    exact h1 _ _ (by omega) (by omega) (by omega)
  · rw [g4 i hi, g4 j (by omega)]
    exact h2 _ _ (by omega) hij hj
  · by_cases ci : i < s
    · rw [g1 i ci]
      by_cases cj : j < m + mid - s
      · rw [g3 j hj cj]
        exact h1 _ _ hi (by omega) (by omega)
      · rw [g4 j (by omega)]
        exact loe i hi ci j (by omega) hjb
    · rw [g2 i (by omega) hij]
      by_cases cj : j < m + mid - s
      · rw [g3 j hj cj]
        exact hie _ (by omega) (by omega) _ (by omega) (by omega)
      · rw [g4 j (by omega)]
        exact h2 _ _ (by omega) (by omega) hjb
end

end Go.Proofs.Ytimndhnbbmedbaa
