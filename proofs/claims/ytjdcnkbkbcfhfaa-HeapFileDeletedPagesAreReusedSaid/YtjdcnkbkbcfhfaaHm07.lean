/-
  Trees, plain: what they hold, their order, one entry put in, taken out, nodes split and merged. No program in sight.
  Trees, plain: a node split, two nodes merged, one child mended. No program in sight.
  The walks of slices.BinarySearchFunc over keys and entries.
-/
import Derived.Test.YtjdcnkbkbcfhfaaHm04
namespace Go.Proofs.Ytjdcnkbkbcfhfaa

/-- A tree whose leaves lie d levels down. -/
def T : Nat → Type
  | 0 => List Ent
  | n + 1 => List Key × List (T n)
def flat : (d : Nat) → T d → List Ent
  | 0, es => es
  | d + 1, t => t.2.flatMap (flat d)
def fill : (d : Nat) → T d → Nat
  | 0, es => List.length (α := Ent) es
  | _ + 1, t => t.2.length

/-- The entry e is put in. -/
def insF (e : Ent) : List Ent → List Ent
  | [] => [e]
  | x :: xs => if cmpR x.key.row e.key.row < 0 then x :: insF e xs else if cmpR x.key.row e.key.row = 0 then ⟨x.key, e.val⟩ :: xs else e :: x :: xs
/-- The key is taken out. -/
def delF (k : Row) : List Ent → List Ent
  | [] => []
  | x :: xs => if cmpR x.key.row k < 0 then x :: delF k xs else if cmpR x.key.row k = 0 then xs else x :: xs
/-- The key's value. -/
def getF (k : Row) : List Ent → Option Int
  | [] => none
  | x :: xs => if cmpR x.key.row k < 0 then getF k xs else if cmpR x.key.row k = 0 then some x.val else none

theorem insF_cons (e x : Ent) (xs : List Ent) : insF e (x :: xs) = if cmpR x.key.row e.key.row < 0 then x :: insF e xs else if cmpR x.key.row e.key.row = 0 then ⟨x.key, e.val⟩ :: xs else e :: x :: xs := rfl
theorem delF_cons (k : Row) (x : Ent) (xs : List Ent) : delF k (x :: xs) = if cmpR x.key.row k < 0 then x :: delF k xs else if cmpR x.key.row k = 0 then xs else x :: xs := rfl
theorem getF_cons (k : Row) (x : Ent) (xs : List Ent) : getF k (x :: xs) = if cmpR x.key.row k < 0 then getF k xs else if cmpR x.key.row k = 0 then some x.val else none := rfl
theorem rl_def {a b : Row} (h : rl a b) : cmpR a b < 0 := h

abbrev Ord (xs : List Ent) : Prop := xs.Pairwise fun a b => rl a.key.row b.key.row

section
variable {e : Ent} {k : Row} {A B xs : List Ent}
theorem insF_left : ∀ {A : List Ent}, (∀ x ∈ A, rl x.key.row e.key.row) → insF e (A ++ B) = A ++ insF e B
  | [], _ => rfl
  | x :: A, h => by
    rw [List.cons_append, insF_cons, if_pos (rl_def (h x List.mem_cons_self)), insF_left fun y hy => h y (List.mem_cons_of_mem _ hy), List.cons_append]
theorem delF_left : ∀ {A : List Ent}, (∀ x ∈ A, rl x.key.row k) → delF k (A ++ B) = A ++ delF k B
  | [], _ => rfl
  | x :: A, h => by
    rw [List.cons_append, delF_cons, if_pos (rl_def (h x List.mem_cons_self)), delF_left fun y hy => h y (List.mem_cons_of_mem _ hy), List.cons_append]
theorem getF_left : ∀ {A : List Ent}, (∀ x ∈ A, rl x.key.row k) → getF k (A ++ B) = getF k B
  | [], _ => rfl
  | x :: A, h => by
    rw [List.cons_append, getF_cons, if_pos (rl_def (h x List.mem_cons_self)), getF_left fun y hy => h y (List.mem_cons_of_mem _ hy)]
theorem gt_of {x : Ent} (h : rl k x.key.row) : ¬ cmpR x.key.row k < 0 ∧ ¬ cmpR x.key.row k = 0 := by
  have := cmpR_neg k x.key.row
  unfold rl at h
  omega
theorem insF_right (hB : ∀ x ∈ B, rl e.key.row x.key.row) : ∀ (A : List Ent), insF e (A ++ B) = insF e A ++ B
  | [] => by
    cases B with
    | nil => rfl
    | cons x B =>
      have := gt_of (hB x List.mem_cons_self)
      rw [List.nil_append, insF_cons, if_neg this.1, if_neg this.2]
      rfl
  | x :: A => by
    rw [List.cons_append, insF_cons, insF_right hB A, insF_cons]
    split
    · rfl
    · split <;> rfl
theorem delF_right (hB : ∀ x ∈ B, rl k x.key.row) : ∀ (A : List Ent), delF k (A ++ B) = delF k A ++ B
  | [] => by
    cases B with
    | nil => rfl
    | cons x B =>
      have := gt_of (hB x List.mem_cons_self)
      rw [List.nil_append, delF_cons, if_neg this.1, if_neg this.2]
      rfl
  | x :: A => by
    rw [List.cons_append, delF_cons, delF_right hB A, delF_cons]
    split
    · rfl
    · split <;> rfl
theorem getF_right (hB : ∀ x ∈ B, rl k x.key.row) : ∀ (A : List Ent), getF k (A ++ B) = getF k A
  | [] => by
    cases B with
    | nil => rfl
    | cons x B =>
      have := gt_of (hB x List.mem_cons_self)
      rw [List.nil_append, getF_cons, if_neg this.1, if_neg this.2]
      rfl
  | x :: A => by
    rw [List.cons_append, getF_cons, getF_right hB A, getF_cons]
theorem mem_insF {y : Ent} : ∀ {xs : List Ent}, y ∈ insF e xs → y.key.row = e.key.row ∨ ∃ x ∈ xs, x.key = y.key
  | [], h => by
    simp [insF] at h
    exact .inl (by rw [h])
  | x :: xs, h => by
    unfold insF at h
    split at h
    · rcases List.mem_cons.1 h with rfl | h
      · exact .inr ⟨_, List.mem_cons_self, rfl⟩
      · rcases mem_insF h with h | ⟨z, hz, h⟩
        · exact .inl h
        · exact .inr ⟨z, List.mem_cons_of_mem _ hz, h⟩
    · split at h
      · rcases List.mem_cons.1 h with rfl | h
        · exact .inr ⟨x, List.mem_cons_self, rfl⟩
        · exact .inr ⟨y, List.mem_cons_of_mem _ h, rfl⟩
      · rcases List.mem_cons.1 h with rfl | h
        · exact .inl rfl
        · exact .inr ⟨y, h, rfl⟩
theorem mem_delF {y : Ent} : ∀ {xs : List Ent}, y ∈ delF k xs → y ∈ xs
  | [], h => h
  | x :: xs, h => by
    unfold delF at h
    split at h
    · rcases List.mem_cons.1 h with rfl | h
      · exact List.mem_cons_self
      · exact List.mem_cons_of_mem _ (mem_delF h)
    · split at h
      · exact List.mem_cons_of_mem _ h
      · exact h

abbrev er (x : Ent) : Row := x.key.row
/-- Where a search in a leaf ends: what the three answer. -/
theorem at_ins {i : Nat} (h : At er xs e.key.row i false) : insF e xs = xs.take i ++ e :: xs.drop i := by
  conv => lhs; rw [← List.take_append_drop i xs]
  rw [insF_left h.lo]
  congr 1
  cases hd : xs.drop i with
  | nil => rfl
  | cons x r =>
    have h1 : ¬ cmpR x.key.row e.key.row < 0 := h.hi x (by rw [hd]; exact List.mem_cons_self)
    have h2 : ¬ x.key.row = e.key.row := fun hx => Bool.noConfusion (h.eq.2 ⟨x, r, hd, hx⟩)
    show (if _ then _ else _) = _
    rw [if_neg h1, if_neg fun hz => h2 (cmpR_zero hz)]
theorem at_upd {i : Nat} (h : At er xs e.key.row i true) : ∃ x, xs[i]? = some x ∧ x.key.row = e.key.row ∧ insF e xs = xs.take i ++ ⟨x.key, e.val⟩ :: xs.drop (i + 1) ∧ delF e.key.row xs = xs.take i ++ xs.drop (i + 1) ∧ getF e.key.row xs = some x.val := by
  obtain ⟨x, r, hd, hx⟩ := h.eq.1 rfl
  have h0 : xs = xs.take i ++ x :: r := by rw [← hd]; exact (List.take_append_drop i xs).symm
  have hi : xs[i]? = some x := by rw [← List.head?_drop, hd]; rfl
  have hr : xs.drop (i + 1) = r := by rw [← List.drop_drop, hd]; rfl
  have hx : x.key.row = e.key.row := hx
  have hc : cmpR x.key.row e.key.row = 0 := by rw [hx]; exact cmpR_refl _
  refine ⟨x, hi, hx, ?_, ?_, ?_⟩
  · conv => lhs; rw [h0]
    rw [insF_left h.lo, hr]
    congr 1
    rw [insF_cons, if_neg (by omega), if_pos hc]
  · conv => lhs; rw [h0]
    rw [delF_left h.lo, hr]
    congr 1
    rw [delF_cons, if_neg (by omega), if_pos hc]
  · conv => lhs; rw [h0]
    rw [getF_left h.lo]
    rw [getF_cons, if_neg (by omega), if_pos hc]
theorem at_none {i : Nat} (h : At er xs k i false) : delF k xs = xs ∧ getF k xs = none := by
  constructor
  · conv => lhs; rw [← List.take_append_drop i xs]
    rw [delF_left h.lo]
    conv => rhs; rw [← List.take_append_drop i xs]
    congr 1
    cases hd : xs.drop i with
    | nil => rfl
    | cons x r =>
      have h1 : ¬ cmpR x.key.row k < 0 := h.hi x (by rw [hd]; exact List.mem_cons_self)
      have h2 : ¬ x.key.row = k := fun hx => Bool.noConfusion (h.eq.2 ⟨x, r, hd, hx⟩)
      rw [delF_cons, if_neg h1, if_neg fun hz => h2 (cmpR_zero hz)]
  · conv => lhs; rw [← List.take_append_drop i xs]
    rw [getF_left h.lo]
    cases hd : xs.drop i with
    | nil => rfl
    | cons x r =>
      have h1 : ¬ cmpR x.key.row k < 0 := h.hi x (by rw [hd]; exact List.mem_cons_self)
      have h2 : ¬ x.key.row = k := fun hx => Bool.noConfusion (h.eq.2 ⟨x, r, hd, hx⟩)
      rw [getF_cons, if_neg h1, if_neg fun hz => h2 (cmpR_zero hz)]

theorem ord_append : Ord (A ++ B) ↔ Ord A ∧ Ord B ∧ ∀ a ∈ A, ∀ b ∈ B, rl a.key.row b.key.row := List.pairwise_append
theorem ord_ins : ∀ {xs : List Ent}, Ord xs → Ord (insF e xs)
  | [], _ => List.pairwise_singleton _ _
  | x :: xs, h => by
    obtain ⟨h1, h2⟩ := List.pairwise_cons.1 h
    unfold insF
    split
    · rename_i hlt
      refine List.pairwise_cons.2 ⟨fun y hy => ?_, ord_ins h2⟩
      rcases mem_insF hy with hy | ⟨z, hz, hy⟩
      · rw [hy]; exact hlt
      · rw [← hy]; exact h1 z hz
    · split
      · exact List.pairwise_cons.2 ⟨h1, h2⟩
      · rename_i h3 h4
        refine List.pairwise_cons.2 ⟨fun y hy => ?_, h⟩
        have h5 : rl e.key.row x.key.row := by
          have := cmpR_neg e.key.row x.key.row
          unfold rl
          omega
        rcases List.mem_cons.1 hy with rfl | hy
        · exact h5
        · exact rl_trans h5 (h1 y hy)
theorem delF_sub : ∀ (xs : List Ent), (delF k xs).Sublist xs
  | [] => List.Sublist.slnil
  | x :: xs => by
    unfold delF
    split
    · exact (delF_sub xs).cons_cons x
    · split
      · exact List.sublist_cons_self x xs
      · exact List.Sublist.refl _
theorem ord_del (h : Ord xs) : Ord (delF k xs) := List.Pairwise.sublist (delF_sub xs) h
theorem len_ins : (insF e xs).length = if (getF e.key.row xs).isSome then xs.length else xs.length + 1 := by
  induction xs with
  | nil => rfl
  | cons x xs ih =>
    unfold insF getF
    split
    · rw [List.length_cons, ih]
      split <;> simp
    · split <;> simp
theorem len_del : (delF k xs).length + (if (getF k xs).isSome then 1 else 0) = xs.length := by
  induction xs with
  | nil => rfl
  | cons x xs ih =>
    unfold delF getF
    split
    · rw [List.length_cons, List.length_cons, ← ih]
      omega
    · split <;> simp
theorem get_ins : ∀ {xs : List Ent}, getF e.key.row (insF e xs) = some e.val
  | [] => by
    show getF e.key.row (e :: []) = _
    rw [getF_cons, if_neg (by rw [cmpR_refl]; omega), if_pos (cmpR_refl _)]
  | x :: xs => by
    unfold insF
    split
    · rename_i h
      rw [getF_cons, if_pos h, get_ins]
    · split
      · rename_i h1 h2
        rw [getF_cons, if_neg h1, if_pos h2]
      · rw [getF_cons, if_neg (by rw [cmpR_refl]; omega), if_pos (cmpR_refl _)]
end

/-- The separators ks lie between the parts ts. -/
def Sep {τ : Type} (fl : τ → List Ent) (ks : List Key) (ts : List τ) : Prop :=
  ks.length + 1 = ts.length ∧ ∀ (j m : Nat) (k : Key) (t : τ), ks[j]? = some k → ts[m]? = some t → ∀ x ∈ fl t, (m ≤ j → rl x.key.row k.row) ∧ (j < m → ¬ rl x.key.row k.row)

/-- Ordered; each node below the top holds m to o. -/
def Ok (m o : Nat) : (d : Nat) → T d → Prop
  | 0, es => Ord es
  | d + 1, t => Sep (flat d) t.1 t.2 ∧ ∀ c ∈ t.2, Ok m o d c ∧ m ≤ fill d c ∧ fill d c ≤ o

/-- The child j covers the key. -/
def Cov (ks : List Key) (key : Row) (j : Nat) : Prop := j ≤ ks.length ∧ ∀ (a : Nat) (k : Key), ks[a]? = some k → (a < j → ¬ rl key k.row) ∧ (j ≤ a → rl key k.row)

section
variable {m o d : Nat}
theorem flat_ord : ∀ {d : Nat} {t : T d}, Ok m o d t → Ord (flat d t)
  | 0, _, h => h
  | d + 1, t, h => by
    obtain ⟨⟨hl, hs⟩, hc⟩ := h
    show (List.flatMap (flat d) t.2).Pairwise _
    rw [List.pairwise_flatMap]
    refine ⟨fun c hm => flat_ord (hc c hm).1, List.pairwise_iff_getElem.2 fun i j hi hj hij x hx y hy => ?_⟩
    have hik : i < t.1.length := by omega
    have h1 := (hs i i _ _ (List.getElem?_eq_getElem hik) (List.getElem?_eq_getElem hi) x hx).1 (Nat.le_refl _)
    have h2 := (hs i j _ _ (List.getElem?_eq_getElem hik) (List.getElem?_eq_getElem hj) y hy).2 hij
    exact rl_lt_le h1 h2
theorem flat_ne : ∀ {d : Nat} {t : T d}, Ok m o d t → 1 ≤ m → 1 ≤ fill d t → flat d t ≠ []
  | 0, t, _, _, hf => fun e => by
    have e : t = ([] : List Ent) := e
    subst e
    exact absurd hf (by show ¬ 1 ≤ 0; omega)
  | d + 1, t, h, hm, hf => fun e => by
    obtain ⟨hs, hc⟩ := h
    obtain ⟨ks, ts⟩ := t
    cases ts with
    | nil => exact absurd hf (by show ¬ 1 ≤ 0; omega)
    | cons c cs =>
      have h1 := hc c List.mem_cons_self
      have h2 := flat_ne h1.1 hm (Nat.le_trans hm h1.2.1)
      have e : List.flatMap (flat d) (c :: cs) = [] := e
      rw [List.flatMap_cons] at e
      exact h2 (List.append_eq_nil_iff.1 e).1
theorem keys_ord {t : T (d + 1)} (h : Ok m o (d + 1) t) (hm : 1 ≤ m) : t.1.Pairwise fun a b => rl a.row b.row := by
  obtain ⟨⟨hl, hs⟩, hc⟩ := h
  refine List.pairwise_iff_getElem.2 fun i j hi hj hij => ?_
  have hjt : j < t.2.length := by omega
  have h1 := hc _ (List.getElem_mem hjt)
  obtain ⟨x, hx⟩ := List.exists_mem_of_ne_nil _ (flat_ne h1.1 hm (Nat.le_trans hm h1.2.1))
  have h2 := (hs i j _ _ (List.getElem?_eq_getElem hi) (List.getElem?_eq_getElem hjt) x hx).2 hij
  have h3 := (hs j j _ _ (List.getElem?_eq_getElem hj) (List.getElem?_eq_getElem hjt) x hx).1 (Nat.le_refl _)
  exact rl_le_lt h2 h3
/-- Where the search among the separators ends. -/
theorem cov_of {ks : List Key} {key : Row} {i : Nat} {fnd : Bool} (hs : ks.Pairwise fun a b => rl a.row b.row) (h : At (fun x : Key => x.row) ks key i fnd) : Cov ks key (if fnd then i + 1 else i) := by
  have hlo : ∀ a k, ks[a]? = some k → a < i → rl k.row key := fun a k hk ha => h.lo k (List.mem_of_getElem? (i := a) (by rw [List.getElem?_take, if_pos ha]; exact hk))
  have hhi : ∀ a k, ks[a]? = some k → i ≤ a → ¬ rl k.row key := fun a k hk ha => h.hi k (List.mem_of_getElem? (i := a - i) (by rw [List.getElem?_drop]; rw [show i + (a - i) = a from by omega]; exact hk))
  have hlt : ∀ {a b : Nat} {k k' : Key}, ks[a]? = some k → ks[b]? = some k' → a < b → rl k.row k'.row := fun {a b k k'} ha hb hab => by
    obtain ⟨la, ea⟩ := List.getElem?_eq_some_iff.1 ha
    obtain ⟨lb, eb⟩ := List.getElem?_eq_some_iff.1 hb
    rw [← ea, ← eb]
    exact List.pairwise_iff_getElem.1 hs a b la lb hab
  cases fnd with
  | true =>
    obtain ⟨x, r, hd, hx⟩ := h.eq.1 rfl
    have hi : ks[i]? = some x := by rw [← List.head?_drop, hd]; rfl
    have hil := (List.getElem?_eq_some_iff.1 hi).1
    refine ⟨by simp only [if_true]; omega, fun a k hk => ⟨fun ha => ?_, fun ha => ?_⟩⟩
    · simp only [if_true] at ha
      rcases Nat.lt_or_ge a i with h1 | h1
      · exact rl_asymm (hlo a k hk h1)
      · have : a = i := by omega
        subst this
        rw [hi] at hk
        injection hk with hk
        subst hk
        rw [hx]
        exact rl_irrefl _
    · simp only [if_true] at ha
      rw [← hx]
      exact hlt hi hk (by omega)
  | false =>
    simp only [Bool.false_eq_true, if_false]
    refine ⟨h.le, fun a k hk => ⟨fun ha => rl_asymm (hlo a k hk ha), fun ha => ?_⟩⟩
    have hil : i < ks.length := by have := (List.getElem?_eq_some_iff.1 hk).1; omega
    have h1 : ¬ ks[i].row = key := fun e => Bool.noConfusion (h.eq.2 ⟨ks[i], ks.drop (i + 1), List.drop_eq_getElem_cons hil, e⟩)
    have h2 := hhi i _ (List.getElem?_eq_getElem hil) (Nat.le_refl _)
    have h3 : rl key ks[i].row := by
      rcases rl_tri key ks[i].row with h | h | h
      · exact h
      · exact absurd h.symm h1
      · exact absurd h h2
    rcases Nat.eq_or_lt_of_le ha with h4 | h4
    · subst h4
      rw [List.getElem?_eq_getElem hil] at hk
      injection hk with hk
      rw [← hk]
      exact h3
    · exact rl_trans h3 (hlt (List.getElem?_eq_getElem hil) hk h4)

/-- The parts at index j. -/
theorem flat_at {ks : List Key} {ts : List (T d)} {j : Nat} {c : T d} (hj : ts[j]? = some c) : flat (d + 1) (ks, ts) = (ts.take j).flatMap (flat d) ++ (flat d c ++ (ts.drop (j + 1)).flatMap (flat d)) := by
  obtain ⟨h1, h2⟩ := List.getElem?_eq_some_iff.1 hj
  show List.flatMap (flat d) ts = _
  conv => lhs; rw [← List.take_append_drop j ts, List.drop_eq_getElem_cons h1, h2]
  rw [List.flatMap_append, List.flatMap_cons]
theorem mem_flat_take {τ : Type} {fl : τ → List Ent} {ts : List τ} {n : Nat} {x : Ent} (h : x ∈ (ts.take n).flatMap fl) : ∃ m t, m < n ∧ ts[m]? = some t ∧ x ∈ fl t := by
  obtain ⟨t, ht, hx⟩ := List.mem_flatMap.1 h
  obtain ⟨m, hm⟩ := List.getElem?_of_mem ht
  rw [List.getElem?_take] at hm
  split at hm
  · rename_i hlt
    exact ⟨m, t, hlt, hm, hx⟩
  · cases hm
theorem mem_flat_drop {τ : Type} {fl : τ → List Ent} {ts : List τ} {n : Nat} {x : Ent} (h : x ∈ (ts.drop n).flatMap fl) : ∃ m t, n ≤ m ∧ ts[m]? = some t ∧ x ∈ fl t := by
  obtain ⟨t, ht, hx⟩ := List.mem_flatMap.1 h
  obtain ⟨m, hm⟩ := List.getElem?_of_mem ht
  rw [List.getElem?_drop] at hm
  exact ⟨n + m, t, by omega, hm, hx⟩
/-- What lies beside the child that covers the key. -/
theorem cov_sides {τ : Type} {fl : τ → List Ent} {ks : List Key} {ts : List τ} {key : Row} {j : Nat} (hs : Sep fl ks ts) (hc : Cov ks key j) :
    (∀ x ∈ (ts.take j).flatMap fl, rl x.key.row key) ∧ (∀ x ∈ (ts.drop (j + 1)).flatMap fl, rl key x.key.row) := by
  obtain ⟨hl, hs⟩ := hs
  obtain ⟨hj, hc⟩ := hc
  constructor
  · intro x hx
    obtain ⟨n, t, hn, ht, hx⟩ := mem_flat_take hx
    have hk : n < ks.length := by omega
    exact rl_lt_le ((hs n n _ _ (List.getElem?_eq_getElem hk) ht x hx).1 (Nat.le_refl _)) ((hc n _ (List.getElem?_eq_getElem hk)).1 hn)
  · intro x hx
    obtain ⟨n, t, hn, ht, hx⟩ := mem_flat_drop hx
    have hnt := (List.getElem?_eq_some_iff.1 ht).1
    have hk : j < ks.length := by omega
    exact rl_lt_le ((hc j _ (List.getElem?_eq_getElem hk)).2 (Nat.le_refl _)) ((hs j n _ _ (List.getElem?_eq_getElem hk) ht x hx).2 (by omega))
/-- One part is changed; its keys stay, or are the covered key. -/
theorem sep_set {τ : Type} {fl : τ → List Ent} {ks : List Key} {ts : List τ} {key : Row} {j : Nat} {c c' : τ} (hs : Sep fl ks ts) (hc : Cov ks key j) (hj : ts[j]? = some c)
    (hm : ∀ y ∈ fl c', y.key.row = key ∨ ∃ x ∈ fl c, x.key.row = y.key.row) : Sep fl ks (ts.set j c') := by
  refine ⟨by rw [List.length_set]; exact hs.1, fun a n k t hk ht x hx => ?_⟩
  rw [List.getElem?_set] at ht
  split at ht
  · rename_i hjn
    subst hjn
    split at ht
    · injection ht with ht
      subst ht
      rcases hm x hx with h | ⟨y, hy, h⟩
      · rw [h]
        exact ⟨(hc.2 a k hk).2, (hc.2 a k hk).1⟩
      · rw [← h]
        exact hs.2 a _ k c hk hj y hy
    · cases ht
  · exact hs.2 a n k t hk ht x hx
end

end Go.Proofs.Ytjdcnkbkbcfhfaa

namespace Go.Proofs.Ytjdcnkbkbcfhfaa

theorem ins_lookup {α : Type} {xs : List α} {i : Nat} (hi : i ≤ xs.length) (y : α) (j : Nat) : (xs.take i ++ y :: xs.drop i)[j]? = if j < i then xs[j]? else if j = i then some y else xs[j - 1]? := by
  have hl : (xs.take i).length = i := by rw [List.length_take]; omega
  by_cases h1 : j < i
  · rw [if_pos h1, List.getElem?_append_left (by omega), List.getElem?_take, if_pos h1]
  · rw [if_neg h1, List.getElem?_append_right (by omega), hl]
    by_cases h2 : j = i
    · subst h2; simp
    · rw [if_neg h2]
      obtain ⟨k, rfl⟩ : ∃ k, j = i + (k + 1) := ⟨j - i - 1, by omega⟩
      rw [show i + (k + 1) - i = k + 1 from by omega, List.getElem?_cons_succ, List.getElem?_drop]
      rfl
theorem two_lookup {α : Type} {xs : List α} {i : Nat} (hi : i < xs.length) (y z : α) (j : Nat) : (xs.take i ++ y :: z :: xs.drop (i + 1))[j]? = if j < i then xs[j]? else if j = i then some y else if j = i + 1 then some z else xs[j - 1]? := by
  have hl : (xs.take i).length = i := by rw [List.length_take]; omega
  by_cases h1 : j < i
  · rw [if_pos h1, List.getElem?_append_left (by omega), List.getElem?_take, if_pos h1]
  · rw [if_neg h1, List.getElem?_append_right (by omega), hl]
    by_cases h2 : j = i
    · subst h2; simp
    · rw [if_neg h2]
      by_cases h3 : j = i + 1
      · subst h3; rw [if_pos rfl, show i + 1 - i = 1 from by omega]; rfl
      · rw [if_neg h3]
        obtain ⟨k, rfl⟩ : ∃ k, j = i + (k + 2) := ⟨j - i - 2, by omega⟩
        rw [show i + (k + 2) - i = k + 2 from by omega, List.getElem?_cons_succ, List.getElem?_cons_succ, List.getElem?_drop]
        congr 1
        omega
theorem out_lookup {α : Type} {xs : List α} {i : Nat} (hi : i ≤ xs.length) (j : Nat) : (xs.take i ++ xs.drop (i + 1))[j]? = if j < i then xs[j]? else xs[j + 1]? := by
  have hl : (xs.take i).length = i := by rw [List.length_take]; omega
  by_cases h1 : j < i
  · rw [if_pos h1, List.getElem?_append_left (by omega), List.getElem?_take, if_pos h1]
  · rw [if_neg h1, List.getElem?_append_right (by omega), hl, List.getElem?_drop]
    congr 1
    omega
theorem one_lookup {α : Type} {xs : List α} {i : Nat} (hi : i ≤ xs.length) (y : α) (j : Nat) : (xs.take i ++ y :: xs.drop (i + 2))[j]? = if j < i then xs[j]? else if j = i then some y else xs[j + 1]? := by
  have hl : (xs.take i).length = i := by rw [List.length_take]; omega
  by_cases h1 : j < i
  · rw [if_pos h1, List.getElem?_append_left (by omega), List.getElem?_take, if_pos h1]
  · rw [if_neg h1, List.getElem?_append_right (by omega), hl]
    by_cases h2 : j = i
    · subst h2; simp
    · rw [if_neg h2]
      obtain ⟨k, rfl⟩ : ∃ k, j = i + (k + 1) := ⟨j - i - 1, by omega⟩
      rw [show i + (k + 1) - i = k + 1 from by omega, List.getElem?_cons_succ, List.getElem?_drop]
      congr 1
      omega

/-- A node in two. -/
def Spl : (d : Nat) → T d → T d → Key → T d → Prop
  | 0, t, l, k, r => ∃ es : List Ent, es = t ∧ l = es.take (es.length / 2) ∧ r = es.drop (es.length / 2) ∧ ∃ x, es[es.length / 2]? = some x ∧ k = x.key
  | _ + 1, t, l, k, r => l = (t.1.take (t.2.length / 2 - 1), t.2.take (t.2.length / 2)) ∧ r = (t.1.drop (t.2.length / 2), t.2.drop (t.2.length / 2)) ∧ t.1[t.2.length / 2 - 1]? = some k

structure SplOk (m o : Nat) (d : Nat) (t l : T d) (k : Key) (r : T d) : Prop where
  ol : Ok m o d l
  or : Ok m o d r
  fla : flat d t = flat d l ++ flat d r
  lo : ∀ x ∈ flat d l, rl x.key.row k.row
  hi : ∀ x ∈ flat d r, ¬ rl x.key.row k.row
  fl : fill d l = fill d t / 2
  fr : fill d r = fill d t - fill d t / 2

theorem spl_ok {m o : Nat} : ∀ {d : Nat} {t l : T d} {k : Key} {r : T d}, Ok m o d t → 2 ≤ fill d t → Spl d t l k r → SplOk m o d t l k r
  | 0, t, l, k, r, h, hf, hs => by
    obtain ⟨es, rfl, rfl, rfl, x, hx, rfl⟩ := hs
    have hf : 2 ≤ es.length := hf
    have h : Ord es := h
    have hd : es.drop (es.length / 2) = x :: es.drop (es.length / 2 + 1) := by
      obtain ⟨h1, h2⟩ := List.getElem?_eq_some_iff.1 hx
      rw [List.drop_eq_getElem_cons h1, h2]
    have ho : Ord (es.take (es.length / 2) ++ es.drop (es.length / 2)) := by rw [List.take_append_drop]; exact h
    obtain ⟨o1, o2, o3⟩ := ord_append.1 ho
    refine ⟨o1, o2, (List.take_append_drop _ _).symm, fun y hy => o3 y hy x (by rw [hd]; exact List.mem_cons_self), fun y hy => ?_, ?_, ?_⟩
    · have hy : y ∈ es.drop (es.length / 2) := hy
      rw [hd] at hy o2
      rcases List.mem_cons.1 hy with rfl | hy
      · exact rl_irrefl _
      · exact rl_asymm ((List.pairwise_cons.1 o2).1 y hy)
    · show (es.take _).length = es.length / 2
      rw [List.length_take]; omega
    · show (es.drop _).length = es.length - es.length / 2
      rw [List.length_drop]
  | d + 1, t, l, k, r, h, hf, hs => by
    obtain ⟨rfl, rfl, hk⟩ := hs
    obtain ⟨ks, ts⟩ := t
    obtain ⟨⟨hl, hp⟩, hc⟩ := h
    have hf : 2 ≤ ts.length := hf
    simp only at hl hp hc hk ⊢
    obtain ⟨g, hg⟩ : ∃ g, g = ts.length / 2 := ⟨_, rfl⟩
    rw [← hg] at hk ⊢
    have hg1 : 1 ≤ g ∧ g < ts.length ∧ g ≤ ks.length := by omega
    refine ⟨⟨⟨?_, fun j n k' t' hj hn x hx => ?_⟩, fun c hm => hc c (List.mem_of_mem_take hm)⟩, ⟨⟨?_, fun j n k' t' hj hn x hx => ?_⟩, fun c hm => hc c (List.mem_of_mem_drop hm)⟩, ?_, fun x hx => ?_, fun x hx => ?_, ?_, ?_⟩
    · simp only [List.length_take]; omega
    · simp only [List.getElem?_take] at hj hn
      split at hj
      · split at hn
        · exact hp j n k' t' hj hn x hx
        · cases hn
      · cases hj
    · simp only [List.length_drop]; omega
    · simp only [List.getElem?_drop] at hj hn
      have := hp (g + j) (g + n) k' t' hj hn x hx
      exact ⟨fun h => this.1 (by omega), fun h => this.2 (by omega)⟩
    · show List.flatMap (flat d) ts = List.flatMap _ (ts.take g) ++ List.flatMap _ (ts.drop g)
      rw [← List.flatMap_append, List.take_append_drop]
    · obtain ⟨n, c, hn, hcn, hx⟩ := mem_flat_take (fl := flat d) hx
      exact (hp (g - 1) n k c hk hcn x hx).1 (by omega)
    · obtain ⟨n, c, hn, hcn, hx⟩ := mem_flat_drop (fl := flat d) hx
      exact (hp (g - 1) n k c hk hcn x hx).2 (by omega)
    · show (ts.take g).length = ts.length / 2
      rw [List.length_take]; omega
    · show (ts.drop g).length = ts.length - ts.length / 2
      rw [List.length_drop]; omega

section
variable {τ : Type} {fl : τ → List Ent} {ks : List Key} {ts : List τ}
/-- The part i in two. -/
theorem sep_split (hs : Sep fl ks ts) {i : Nat} {c l r : τ} {k : Key} (hc : ts[i]? = some c) (hf : fl c = fl l ++ fl r) (hl : ∀ x ∈ fl l, rl x.key.row k.row) (hr : ∀ x ∈ fl r, ¬ rl x.key.row k.row) (nl : fl l ≠ []) (nr : fl r ≠ []) :
    Sep fl (ks.take i ++ k :: ks.drop i) (ts.take i ++ l :: r :: ts.drop (i + 1)) := by
  obtain ⟨hlen, hp⟩ := hs
  have hit : i < ts.length := (List.getElem?_eq_some_iff.1 hc).1
  have hik : i ≤ ks.length := by omega
  -- parts in order
  have hord : ∀ (a b : Nat) (ta tb : τ), a < b → ts[a]? = some ta → ts[b]? = some tb → ∀ x ∈ fl ta, ∀ y ∈ fl tb, rl x.key.row y.key.row := fun a b ta tb hab ha hb x hx y hy => by
    have hk : a < ks.length := by have := (List.getElem?_eq_some_iff.1 hb).1; omega
    exact rl_lt_le ((hp a a _ _ (List.getElem?_eq_getElem hk) ha x hx).1 (Nat.le_refl _)) ((hp a b _ _ (List.getElem?_eq_getElem hk) hb y hy).2 hab)
  refine ⟨by simp only [List.length_append, List.length_cons, List.length_take, List.length_drop]; omega, fun j n k' t' hj hn x hx => ?_⟩
  rw [ins_lookup hik] at hj
  rw [two_lookup hit] at hn
  -- the old part that x lies in
  have hold : ∃ n0 t0, ts[n0]? = some t0 ∧ x ∈ fl t0 ∧ (n ≤ i → n0 = n) ∧ (i < n → n0 = n - 1) := by
    split at hn
    · exact ⟨n, t', hn, hx, fun _ => rfl, fun _ => by omega⟩
    · split at hn
      · injection hn with hn
        subst hn
        exact ⟨i, c, hc, by rw [hf]; exact List.mem_append_left _ hx, fun _ => by omega, fun _ => by omega⟩
      · split at hn
        · injection hn with hn
          subst hn
          exact ⟨i, c, hc, by rw [hf]; exact List.mem_append_right _ hx, fun _ => by omega, fun _ => by omega⟩
        · exact ⟨n - 1, t', hn, hx, fun _ => by omega, fun _ => rfl⟩
  obtain ⟨n0, t0, h0, hx0, hn1, hn2⟩ := hold
  split at hj
  · have := hp j n0 k' t0 hj h0 x hx0
    refine ⟨fun h => this.1 (by omega), fun h => this.2 ?_⟩
    rcases Nat.lt_or_ge i n with h' | h'
    · have := hn2 h'; omega
    · have := hn1 h'; omega
  · split at hj
    · injection hj with hj
      subst hj
      rename_i hj1 hj2
      subst hj2
      constructor
      · intro hnj
        rcases Nat.eq_or_lt_of_le hnj with e | hlt
        · subst e
          rw [if_neg (by omega), if_pos rfl] at hn
          injection hn with hn
          subst hn
          exact hl x hx
        · obtain ⟨y, hy⟩ := List.exists_mem_of_ne_nil _ nl
          exact rl_trans (hord n0 j t0 c (by have := hn1 hnj; omega) h0 hc x hx0 y (by rw [hf]; exact List.mem_append_left _ hy)) (hl y hy)
      · intro hnj
        rcases Nat.eq_or_lt_of_le (show j + 1 ≤ n from hnj) with e | hlt
        · subst e
          rw [if_neg (by omega), if_neg (by omega), if_pos rfl] at hn
          injection hn with hn
          subst hn
          exact hr x hx
        · obtain ⟨y, hy⟩ := List.exists_mem_of_ne_nil _ nr
          have h1 := hord j n0 c t0 (by have := hn2 hnj; omega) hc h0 y (by rw [hf]; exact List.mem_append_right _ hy) x hx0
          exact rl_asymm (rl_le_lt (hr y hy) h1)
    · have := hp (j - 1) n0 k' t0 hj h0 x hx0
      refine ⟨fun h => this.1 ?_, fun h => this.2 ?_⟩
      · rcases Nat.lt_or_ge i n with h' | h'
        · have := hn2 h'; omega
        · have := hn1 h'; omega
      · have := hn2 (by omega); omega

/-- The parts i and i + 1 in one. -/
theorem sep_merge (hs : Sep fl ks ts) {i : Nat} {c l r : τ} (hl : ts[i]? = some l) (hr : ts[i + 1]? = some r) (hf : fl c = fl l ++ fl r) :
    Sep fl (ks.take i ++ ks.drop (i + 1)) (ts.take i ++ c :: ts.drop (i + 2)) := by
  obtain ⟨hlen, hp⟩ := hs
  have hit : i + 1 < ts.length := (List.getElem?_eq_some_iff.1 hr).1
  refine ⟨by simp only [List.length_append, List.length_cons, List.length_take, List.length_drop]; omega, fun j n k' t' hj hn x hx => ?_⟩
  rw [out_lookup (by omega)] at hj
  rw [one_lookup (by omega)] at hn
  have hold : ∃ n0 t0, ts[n0]? = some t0 ∧ x ∈ fl t0 ∧ (n < i → n0 = n) ∧ (i < n → n0 = n + 1) ∧ (n = i → n0 = i ∨ n0 = i + 1) := by
    split at hn
    · exact ⟨n, t', hn, hx, fun _ => rfl, fun _ => by omega, fun _ => by omega⟩
    · split at hn
      · injection hn with hn
        subst hn
        rw [hf] at hx
        rcases List.mem_append.1 hx with hx | hx
        · exact ⟨i, l, hl, hx, fun _ => by omega, fun _ => by omega, fun _ => .inl rfl⟩
        · exact ⟨i + 1, r, hr, hx, fun _ => by omega, fun _ => by omega, fun _ => .inr rfl⟩
      · exact ⟨n + 1, t', hn, hx, fun _ => by omega, fun _ => rfl, fun _ => by omega⟩
  obtain ⟨n0, t0, h0, hx0, hn1, hn2, hn3⟩ := hold
  have hcases : n0 = n ∧ n < i ∨ n0 = n + 1 ∧ i < n ∨ n = i ∧ (n0 = i ∨ n0 = i + 1) := by
    rcases Nat.lt_trichotomy n i with h | h | h
    · exact .inl ⟨hn1 h, h⟩
    · exact .inr (.inr ⟨h, hn3 h⟩)
    · exact .inr (.inl ⟨hn2 h, h⟩)
  split at hj
  · have := hp j n0 k' t0 hj h0 x hx0
    exact ⟨fun h => this.1 (by omega), fun h => this.2 (by omega)⟩
  · have := hp (j + 1) n0 k' t0 hj h0 x hx0
    exact ⟨fun h => this.1 (by omega), fun h => this.2 (by omega)⟩
end

/-- Two nodes in one. -/
def mrg : (d : Nat) → T d → Key → T d → T d
  | 0, l, _, r => List.append (α := Ent) l r
  | _ + 1, l, k, r => (l.1 ++ k :: r.1, l.2 ++ r.2)
structure MrgOk (m o : Nat) (d : Nat) (l r c : T d) : Prop where
  ok : Ok m o d c
  fla : flat d c = flat d l ++ flat d r
  fil : fill d c = fill d l + fill d r

theorem mrg_ok {m o : Nat} (hm : 1 ≤ m) : ∀ {d : Nat} {l r : T d} {z : Ent}, Ok m o d l → Ok m o d r → (∀ x ∈ flat d l, ∀ y ∈ flat d r, rl x.key.row y.key.row) → (flat d r).head? = some z → MrgOk m o d l r (mrg d l z.key r)
  | 0, l, r, z, hl, hr, hlr, _ => ⟨ord_append.2 ⟨hl, hr, hlr⟩, rfl, List.length_append⟩
  | d + 1, (ksl, tsl), (ksr, tsr), z, hl, hr, hlr, hz => by
    have hor : Ord (flat (d + 1) (ksr, tsr)) := flat_ord hr
    have hzm : z ∈ flat (d + 1) (ksr, tsr) := List.mem_of_mem_head? (by rw [hz]; rfl)
    have hzl : ∀ y ∈ flat (d + 1) (ksr, tsr), ¬ rl y.key.row z.key.row := fun y hy => by
      cases hfr : flat (d + 1) (ksr, tsr) with
      | nil => rw [hfr] at hy; cases hy
      | cons z' rest =>
        rw [hfr] at hz hy hor
        simp at hz
        subst hz
        rcases List.mem_cons.1 hy with rfl | hy
        · exact rl_irrefl _
        · exact rl_asymm ((List.pairwise_cons.1 hor).1 y hy)
    obtain ⟨⟨ll, pl⟩, cl⟩ := hl
    obtain ⟨⟨lr, pr⟩, cr⟩ := hr
    simp only at ll pl cl lr pr cr
    have nel : ∀ n c, tsl[n]? = some c → flat d c ≠ [] := fun n c h => by
      have := cl c (List.mem_of_getElem? h)
      exact flat_ne this.1 hm (Nat.le_trans hm this.2.1)
    have ner : ∀ n c, tsr[n]? = some c → flat d c ≠ [] := fun n c h => by
      have := cr c (List.mem_of_getElem? h)
      exact flat_ne this.1 hm (Nat.le_trans hm this.2.1)
    have meml : ∀ n c x, tsl[n]? = some c → x ∈ flat d c → x ∈ flat (d + 1) (ksl, tsl) := fun n c x h hx => List.mem_flatMap.2 ⟨c, List.mem_of_getElem? h, hx⟩
    have memr : ∀ n c x, tsr[n]? = some c → x ∈ flat d c → x ∈ flat (d + 1) (ksr, tsr) := fun n c x h hx => List.mem_flatMap.2 ⟨c, List.mem_of_getElem? h, hx⟩
    refine ⟨⟨⟨by simp [mrg]; omega, fun j n k' t' hj hn x hx => ?_⟩, fun c hc => ?_⟩, List.flatMap_append, List.length_append⟩
    · have hj : (ksl ++ z.key :: ksr)[j]? = some k' := hj
      have hn : (tsl ++ tsr)[n]? = some t' := hn
      rcases Nat.lt_or_ge n tsl.length with h1 | h1
      · rw [List.getElem?_append_left h1] at hn
        have hxl := meml n t' x hn hx
        refine ⟨fun hnj => ?_, fun hjn => ?_⟩
        · rcases Nat.lt_trichotomy j ksl.length with h2 | h2 | h2
          · rw [List.getElem?_append_left h2] at hj
            exact (pl j n k' t' hj hn x hx).1 hnj
          · rw [List.getElem?_append_right (by omega), show j - ksl.length = 0 from by omega] at hj
            simp at hj
            subst hj
            exact hlr x hxl z hzm
          · rw [List.getElem?_append_right (by omega), show j - ksl.length = (j - ksl.length - 1) + 1 from by omega, List.getElem?_cons_succ] at hj
            have hjr : j - ksl.length - 1 < tsr.length := by have := (List.getElem?_eq_some_iff.1 hj).1; omega
            obtain ⟨y, hy⟩ := List.exists_mem_of_ne_nil _ (ner _ _ (List.getElem?_eq_getElem hjr))
            exact rl_trans (hlr x hxl y (memr _ _ y (List.getElem?_eq_getElem hjr) hy)) ((pr _ _ k' _ hj (List.getElem?_eq_getElem hjr) y hy).1 (Nat.le_refl _))
        · rw [List.getElem?_append_left (by omega)] at hj
          exact (pl j n k' t' hj hn x hx).2 hjn
      · rw [List.getElem?_append_right h1] at hn
        have hxr := memr _ t' x hn hx
        refine ⟨fun hnj => ?_, fun hjn => ?_⟩
        · rw [List.getElem?_append_right (by omega), show j - ksl.length = (j - ksl.length - 1) + 1 from by omega, List.getElem?_cons_succ] at hj
          exact (pr _ _ k' t' hj hn x hx).1 (by omega)
        · rcases Nat.lt_trichotomy j ksl.length with h2 | h2 | h2
          · rw [List.getElem?_append_left h2] at hj
            have hjl : j + 1 < tsl.length := by omega
            obtain ⟨y, hy⟩ := List.exists_mem_of_ne_nil _ (nel _ _ (List.getElem?_eq_getElem hjl))
            have h3 := (pl j (j + 1) k' _ hj (List.getElem?_eq_getElem hjl) y hy).2 (by omega)
            exact rl_asymm (rl_le_lt h3 (hlr y (meml _ _ y (List.getElem?_eq_getElem hjl) hy) x hxr))
          · rw [List.getElem?_append_right (by omega), show j - ksl.length = 0 from by omega] at hj
            simp at hj
            subst hj
            exact hzl x hxr
          · rw [List.getElem?_append_right (by omega), show j - ksl.length = (j - ksl.length - 1) + 1 from by omega, List.getElem?_cons_succ] at hj
            exact (pr _ _ k' t' hj hn x hx).2 (by omega)
    · rcases List.mem_append.1 (show c ∈ tsl ++ tsr from hc) with h | h
      · exact cl c h
      · exact cr c h

/-- The child i is split if it holds too much. -/
def SpC (o d i : Nat) (t t' : T (d + 1)) : Prop := ∃ c, t.2[i]? = some c ∧ ((fill d c ≤ o ∧ t' = t) ∨ (o < fill d c ∧ ∃ l k r, Spl d c l k r ∧ t' = (t.1.take i ++ k :: t.1.drop i, t.2.take i ++ l :: r :: t.2.drop (i + 1))))
/-- The children i and i + 1 are merged. -/
def MgC (d i : Nat) (t t' : T (d + 1)) : Prop := ∃ l r z, t.2[i]? = some l ∧ t.2[i + 1]? = some r ∧ (flat d r).head? = some z ∧ t' = (t.1.take i ++ t.1.drop (i + 1), t.2.take i ++ mrg d l z.key r :: t.2.drop (i + 2))
/-- The child i is mended. -/
def RbC (m o d i : Nat) (t t' : T (d + 1)) : Prop := ∃ c, t.2[i]? = some c ∧ ((m ≤ fill d c ∧ t' = t) ∨ (fill d c < m ∧ ∃ t1, MgC d (if i + 1 = t.2.length then i - 1 else i) t t1 ∧ SpC o d (if i + 1 = t.2.length then i - 1 else i) t1 t'))

structure Order (m o : Nat) : Prop where
  lo : 3 ≤ o
  hi : o ≤ 16
  eq : m = (o + 1) / 2

theorem ord_parts {d : Nat} {ks : List Key} {ts : List (T d)} {m o : Nat} (hs : Sep (flat d) ks ts) (hc : ∀ c ∈ ts, Ok m o d c) : Ord (ts.flatMap (flat d)) := by
  rw [Ord, List.pairwise_flatMap]
  refine ⟨fun c hm => flat_ord (hc c hm), List.pairwise_iff_getElem.2 fun i j hi hj hij x hx y hy => ?_⟩
  have hik : i < ks.length := by have := hs.1; omega
  exact rl_lt_le ((hs.2 i i _ _ (List.getElem?_eq_getElem hik) (List.getElem?_eq_getElem hi) x hx).1 (Nat.le_refl _)) ((hs.2 i j _ _ (List.getElem?_eq_getElem hik) (List.getElem?_eq_getElem hj) y hy).2 hij)

theorem spc_ok {m o d i : Nat} {t t' : T (d + 1)} (hO : Order m o) (h : SpC o d i t t') (hs : Sep (flat d) t.1 t.2) (hc : ∀ n c, t.2[n]? = some c → Ok m o d c ∧ m ≤ fill d c ∧ (n ≠ i → fill d c ≤ o) ∧ (fill d c + 1) / 2 ≤ o) :
    Ok m o (d + 1) t' ∧ flat (d + 1) t' = flat (d + 1) t ∧ fill (d + 1) t ≤ fill (d + 1) t' ∧ fill (d + 1) t' ≤ fill (d + 1) t + 1 := by
  obtain ⟨c, hi, h⟩ := h
  obtain ⟨ks, ts⟩ := t
  simp only at hi hs hc h
  obtain ⟨hlo, hhi, hme⟩ := hO
  rcases h with ⟨hf, rfl⟩ | ⟨hf, l, k, r, hsp, rfl⟩
  · refine ⟨⟨hs, fun c' hm => ?_⟩, rfl, Nat.le_refl _, Nat.le_succ _⟩
    obtain ⟨n, hn⟩ := List.getElem?_of_mem hm
    have := hc n c' hn
    refine ⟨this.1, this.2.1, ?_⟩
    by_cases hni : n = i
    · subst hni
      have e : c' = c := Option.some.inj ((show ts[n]? = some c' from hn).symm.trans hi)
      rw [e]; exact hf
    · exact this.2.2.1 hni
  · have hci := hc i c hi
    have S := spl_ok hci.1 (by omega) hsp
    have hit : i < ts.length := (List.getElem?_eq_some_iff.1 hi).1
    have f1 := S.fl
    have f2 := S.fr
    refine ⟨⟨sep_split hs hi S.fla S.lo S.hi (flat_ne S.ol (by omega) (by omega)) (flat_ne S.or (by omega) (by omega)), fun c' hm => ?_⟩, ?_, ?_, ?_⟩
    · obtain ⟨n, hn⟩ := List.getElem?_of_mem hm
      simp only at hn
      rw [two_lookup hit] at hn
      split at hn
      · have := hc n c' hn
        exact ⟨this.1, this.2.1, this.2.2.1 (by omega)⟩
      · split at hn
        · injection hn with hn
          subst hn
          exact ⟨S.ol, by omega, by omega⟩
        · split at hn
          · injection hn with hn
            subst hn
            exact ⟨S.or, by omega, by omega⟩
          · have := hc _ c' hn
            exact ⟨this.1, this.2.1, this.2.2.1 (by omega)⟩
    · rw [flat_at hi]
      show List.flatMap (flat d) (ts.take i ++ l :: r :: ts.drop (i + 1)) = _
      rw [List.flatMap_append, List.flatMap_cons, List.flatMap_cons, S.fla, List.append_assoc (flat d l)]
    · show ts.length ≤ (ts.take i ++ l :: r :: ts.drop (i + 1)).length
      simp only [List.length_append, List.length_cons, List.length_take, List.length_drop]; omega
    · show (ts.take i ++ l :: r :: ts.drop (i + 1)).length ≤ ts.length + 1
      simp only [List.length_append, List.length_cons, List.length_take, List.length_drop]; omega

/-- One child is changed by putting in: what the node then is. -/
theorem ins_ok {m o d j : Nat} {t t' : T (d + 1)} {c c' : T d} {e : Ent} (hO : Order m o) (h : Ok m o (d + 1) t) (hcov : Cov t.1 e.key.row j) (hj : t.2[j]? = some c) (hc' : Ok m o d c') (hf : flat d c' = insF e (flat d c)) (h1 : fill d c ≤ fill d c') (h2 : fill d c' ≤ fill d c + 1)
    (hs : SpC o d j (t.1, t.2.set j c') t') : Ok m o (d + 1) t' ∧ flat (d + 1) t' = insF e (flat (d + 1) t) ∧ fill (d + 1) t ≤ fill (d + 1) t' ∧ fill (d + 1) t' ≤ fill (d + 1) t + 1 := by
  obtain ⟨ks, ts⟩ := t
  obtain ⟨hp, hc⟩ := h
  simp only at hp hc hj hcov hs
  have hjt : j < ts.length := (List.getElem?_eq_some_iff.1 hj).1
  have hO' := hO
  obtain ⟨hlo, hhi, hme⟩ := hO'
  have hsep : Sep (flat d) ks (ts.set j c') := sep_set hp hcov hj fun y hy => by
    rw [hf] at hy
    rcases mem_insF hy with h | ⟨x, hx, h⟩
    · exact .inl h
    · exact .inr ⟨x, hx, by rw [h]⟩
  have hcj := hc c (List.mem_of_getElem? hj)
  have := spc_ok (t := (ks, ts.set j c')) hO hs hsep fun n c0 hn => by
    simp only at hn
    rw [List.getElem?_set] at hn
    split at hn
    · rename_i hjn
      injection hn with hn
      subst hn
      exact ⟨hc', by omega, fun hne => absurd hjn.symm hne, by omega⟩
    · have := hc c0 (List.mem_of_getElem? hn)
      exact ⟨this.1, this.2.1, fun _ => this.2.2, by omega⟩
  obtain ⟨a1, a2, a3, a4⟩ := this
  have hlen : fill (d + 1) (ks, ts.set j c') = fill (d + 1) (ks, ts) := by show (ts.set j c').length = ts.length; simp
  rw [hlen] at a3 a4
  refine ⟨a1, ?_, a3, a4⟩
  have hj' : (ts.set j c')[j]? = some c' := by rw [List.getElem?_set]; simp [hjt]
  rw [a2, flat_at hj', flat_at hj]
  have hsd := cov_sides hp hcov
  rw [insF_left hsd.1, insF_right hsd.2, hf, List.take_set_of_le (Nat.le_refl _), List.drop_set_of_lt (by omega)]

/-- One child is changed by taking out, then mended. -/
theorem del_ok {m o d j : Nat} {t t' : T (d + 1)} {c c' : T d} {key : Row} (hO : Order m o) (h : Ok m o (d + 1) t) (h2 : 2 ≤ fill (d + 1) t) (hcov : Cov t.1 key j) (hj : t.2[j]? = some c) (hc' : Ok m o d c') (hf : flat d c' = delF key (flat d c)) (f1 : fill d c' ≤ fill d c) (f2 : fill d c ≤ fill d c' + 1)
    (hs : RbC m o d j (t.1, t.2.set j c') t') : Ok m o (d + 1) t' ∧ flat (d + 1) t' = delF key (flat (d + 1) t) ∧ fill (d + 1) t' ≤ fill (d + 1) t ∧ fill (d + 1) t ≤ fill (d + 1) t' + 1 := by
  obtain ⟨ks, ts⟩ := t
  obtain ⟨hp, hc⟩ := h
  simp only at hp hc hj hcov hs
  have h2 : 2 ≤ ts.length := h2
  have hjt : j < ts.length := (List.getElem?_eq_some_iff.1 hj).1
  have hO' := hO
  obtain ⟨hlo, hhi, hme⟩ := hO'
  have hsep : Sep (flat d) ks (ts.set j c') := sep_set hp hcov hj fun y hy => by
    rw [hf] at hy
    exact .inr ⟨y, mem_delF hy, rfl⟩
  have hcj := hc c (List.mem_of_getElem? hj)
  have hj' : (ts.set j c')[j]? = some c' := by rw [List.getElem?_set]; simp [hjt]
  have hflat : flat (d + 1) (ks, ts.set j c') = delF key (flat (d + 1) (ks, ts)) := by
    have hsd := cov_sides hp hcov
    rw [flat_at hj', flat_at hj, delF_left hsd.1, delF_right hsd.2, hf, List.take_set_of_le (Nat.le_refl _), List.drop_set_of_lt (by omega)]
  have hlen : (ts.set j c').length = ts.length := by simp
  have hold : ∀ n c0, (ts.set j c')[n]? = some c0 → Ok m o d c0 ∧ (n ≠ j → m ≤ fill d c0 ∧ fill d c0 ≤ o) ∧ (n = j → c0 = c') := fun n c0 hn => by
    rw [List.getElem?_set] at hn
    split at hn
    · rename_i hjn
      injection hn with hn
      subst hn
      exact ⟨hc', fun hne => absurd hjn.symm hne, fun _ => rfl⟩
    · have := hc c0 (List.mem_of_getElem? hn)
      exact ⟨this.1, fun _ => this.2, fun e => absurd e.symm (by assumption)⟩
  obtain ⟨c0, hc0, hs⟩ := hs
  simp only at hc0 hs
  rw [hj'] at hc0
  injection hc0 with hc0
  subst hc0
  rw [hlen] at hs
  rcases hs with ⟨hm, rfl⟩ | ⟨hm, t1, hmg, hsp⟩
  · refine ⟨⟨hsep, fun c0 hm' => ?_⟩, hflat, Nat.le_of_eq hlen, by show ts.length ≤ (ts.set j c').length + 1; omega⟩
    obtain ⟨n, hn⟩ := List.getElem?_of_mem hm'
    have := hold n c0 hn
    by_cases hnj : n = j
    · rw [this.2.2 hnj]; exact ⟨hc', hm, by omega⟩
    · exact ⟨this.1, this.2.1 hnj⟩
  · obtain ⟨i, hi⟩ : ∃ i, i = if j + 1 = ts.length then j - 1 else j := ⟨_, rfl⟩
    rw [← hi] at hmg hsp
    have hij : i + 1 < ts.length ∧ (i = j ∨ i + 1 = j) := by split at hi <;> omega
    obtain ⟨l, r, z, hl, hr, hz, rfl⟩ := hmg
    simp only at hl hr
    have hol := hold i l hl
    have hor := hold (i + 1) r hr
    have hlr : ∀ x ∈ flat d l, ∀ y ∈ flat d r, rl x.key.row y.key.row := fun x hx y hy => by
      have hk : i < ks.length := by have := hp.1; omega
      exact rl_lt_le ((hsep.2 i i _ _ (List.getElem?_eq_getElem hk) hl x hx).1 (Nat.le_refl _)) ((hsep.2 i (i + 1) _ _ (List.getElem?_eq_getElem hk) hr y hy).2 (Nat.lt_succ_self _))
    have M := mrg_ok (m := m) (o := o) (by omega) hol.1 hor.1 hlr hz
    have hsum : fill d (mrg d l z.key r) = fill d l + fill d r := M.fil
    have hb : m ≤ fill d (mrg d l z.key r) ∧ (fill d (mrg d l z.key r) + 1) / 2 ≤ o := by
      rcases hij.2 with e | e
      · have a1 := congrArg (fill d) (hol.2.2 e)
        have a2 := hor.2.1 (by omega)
        omega
      · have a1 := congrArg (fill d) (hor.2.2 e)
        have a2 := hol.2.1 (by omega)
        omega
    have hsep1 := sep_merge hsep hl hr M.fla
    have := spc_ok (t := (ks.take i ++ ks.drop (i + 1), (ts.set j c').take i ++ mrg d l z.key r :: (ts.set j c').drop (i + 2))) hO hsp hsep1 fun n c0 hn => by
      simp only at hn
      rw [one_lookup (by omega)] at hn
      split at hn
      · have := hold n c0 hn
        have h3 := this.2.1 (by omega)
        exact ⟨this.1, h3.1, fun _ => h3.2, by omega⟩
      · split at hn
        · injection hn with hn
          subst hn
          exact ⟨M.ok, hb.1, fun hne => absurd (by assumption) hne, hb.2⟩
        · have := hold _ c0 hn
          have h3 := this.2.1 (by omega)
          exact ⟨this.1, h3.1, fun _ => h3.2, by omega⟩
    obtain ⟨a1, a2, a3, a4⟩ := this
    have hlen1 : fill (d + 1) (ks.take i ++ ks.drop (i + 1), (ts.set j c').take i ++ mrg d l z.key r :: (ts.set j c').drop (i + 2)) = ts.length - 1 := by
      show ((ts.set j c').take i ++ mrg d l z.key r :: (ts.set j c').drop (i + 2)).length = _
      simp only [List.length_append, List.length_cons, List.length_take, List.length_drop, hlen]; omega
    rw [hlen1] at a3 a4
    refine ⟨a1, ?_, by show _ ≤ ts.length; omega, by show ts.length ≤ _; omega⟩
    rw [a2, ← hflat, flat_at hl]
    show List.flatMap (flat d) ((ts.set j c').take i ++ mrg d l z.key r :: (ts.set j c').drop (i + 2)) = _
    have hd : (ts.set j c').drop (i + 1) = r :: (ts.set j c').drop (i + 2) := by
      obtain ⟨q1, q2⟩ := List.getElem?_eq_some_iff.1 hr
      rw [List.drop_eq_getElem_cons q1, q2]
    rw [List.flatMap_append, List.flatMap_cons, M.fla, hd, List.flatMap_cons, List.append_assoc (flat d l)]

end Go.Proofs.Ytjdcnkbkbcfhfaa

namespace Go.Proofs.Ytjdcnkbkbcfhfaa
open Go.RowKit Go.Sort

set_option maxRecDepth 100000 in
set_option maxHeartbeats 1000000 in
theorem bsKeys (A : Option Addr) (c : Nat) (xs : List Key) (B : Option Addr) (d : Nat) (t : Row) (w : World) (K T : Nat → Prop) (hx : Elems 1 Key.cs w (· < w.heap.size) A xs) (hK : ∀ k, K k → k < w.heap.size) (hT : ∀ k, T k → k < w.heap.size)
    (hk : ∀ x ∈ xs, KOk K w x) (hs : xs.Pairwise fun a b => rl a.row b.row) (hy : Elems 3 Val.cs w T B t) (hl : xs.length ≤ 1000) :
    Calls Try.prog 60 #[.slice A xs.length c, .slice B t.length d, .func (.func 61) #[] #[]] w (BsPost w (fun x : Key => x.row) xs t) := by
  have HCMP : Hid (∀ (W : World), Below w.heap.size w W → ∀ x ∈ xs, Calls Try.prog 61 #[.slice x.A x.row.length x.c, .slice B t.length d] W fun e w' => e = .returned (.int .i64 (cmpR x.row t)) ∧ Below W.heap.size W w') := Lib.hid fun W hW x hm => by
    have hx1 := ((hk x hm).el.keep (Keeps.of_below hW hK)).more (S' := (· < W.heap.size)) fun k hk => Nat.lt_of_lt_of_le (hK k hk) hW.size
    have hy1 := (hy.keep (Keeps.of_below hW hT)).more (S' := (· < W.heap.size)) fun k hk => Nat.lt_of_lt_of_le (hT k hk) hW.size
    exact (cmpRows _ _ _ d _ t W _ _ hx1 hy1 (fun _ h => h) (fun _ h => h) (by have := (hk x hm).len; omega)).mono fun e w' ⟨h1, p, h2⟩ => ⟨h1, by rw [h2]; exact below_grow W p.n p.os⟩
  have HX := Lib.hid hx
  have HM := Lib.hid (LtAt.mono (t := t) hs)
  clear hx hk hs hy
  go_enter Try.func60, Try.ntmps60
  go_wp2_with fail
  go_loopw [9, 10] (fun vi vj wr => ∃ i j : Nat, vi = .int .i64 i ∧ vj = .int .i64 j ∧ Bin (LtAt (fun x : Key => x.row) xs t) xs.length i j ∧ Below w.heap.size w wr) (fun vi vj _ => (intOf vj).toNat - (intOf vi).toNat)
  case atStart => exact ⟨0, xs.length, rfl, rfl, Bin.first _ _, Below.refl _ _⟩
  case round =>
    obtain ⟨i, j, rfl, rfl, hB, hb⟩ := hrel
    obtain ⟨l1, l2⟩ := hB.le
    have HB := Lib.hid hB
    clear hB
    by_cases hlt : i < j
    · obtain ⟨h, hh⟩ : ∃ h, h = (i + j) / 2 := ⟨_, rfl⟩
      have hih : i ≤ h ∧ h < j := by omega
      have y1 : ((i : Int) + (j : Int)) / 2 = (h : Int) := by omega
      have y2 : (h : Int) < (xs.length : Int) := by omega
      have hhl : h < xs.length := by omega
      clear hh
      obtain ⟨b, off, rfl, hbs, c0⟩ := (HX.out.keep (Keeps.of_below hb fun _ h => h)).key hhl
      have HC := Lib.hid (HCMP.out wr hb xs[h] (List.getElem_mem hhl))
      have HI := Lib.hid (LtAt.iff (row := fun x : Key => x.row) (t := t) hhl)
      generalize xs[h] = x at *
      go_wp2_with fail
      refine HC.out.mono ?_
      rintro e w1 ⟨rfl, hb1⟩
      have HB1 := Lib.hid (hb.trans (hb1.mono hb.size))
      have HR := Lib.hid (show rl x.row t ↔ cmpR x.row t < 0 from Iff.rfl)
      clear hb hb1 HC c0
      generalize cmpR x.row t = cv at *
      by_cases hcv : cv < 0
      · have HN := Lib.hid (HB.out.up HM.out hih (HI.out.2 (HR.out.2 hcv)))
        go_wp2_with fail
        go_roundw
        case rel => exact ⟨h + 1, j, by go_num, rfl, HN.out, HB1.out⟩
        case measure => simp [intOf]; omega
      · have HN := Lib.hid (HB.out.down HM.out hih (fun h => hcv (HR.out.1 (HI.out.1 h))))
        go_wp2_with fail
        go_roundw
        case rel => exact ⟨i, h, rfl, rfl, HN.out, HB1.out⟩
        case measure => simp [intOf]; omega
    · have hij : i = j := by omega
      subst hij
      by_cases hin : i < xs.length
      · obtain ⟨b, off, rfl, hbs, c0⟩ := (HX.out.keep (Keeps.of_below hb fun _ h => h)).key hin
        have HC := Lib.hid (HCMP.out wr hb xs[i] (List.getElem_mem hin))
        have HF : Hid (∀ fnd : Bool, (fnd = true ↔ xs[i].row = t) → At (fun x : Key => x.row) xs t i fnd) := Lib.hid fun fnd hf => HB.out.at_ (by rw [hf]; exact ⟨fun h => ⟨hin, h⟩, fun ⟨_, h⟩ => h⟩)
        generalize xs[i] = x at *
        go_wp2_with fail
        refine HC.out.mono ?_
        rintro e w1 ⟨rfl, hb1⟩
        have HB1 := Lib.hid (hb.trans (hb1.mono hb.size))
        have HZ : Hid (cmpR x.row t = 0 ↔ x.row = t) := Lib.hid ⟨cmpR_zero, fun h => by rw [h]; exact cmpR_refl t⟩
        generalize cmpR x.row t = cv at *
        clear hb hb1 HC c0
        go_wp2_with fail
        go_ret2
        exact ⟨i, cv == 0, rfl, HF.out _ (by rw [beq_iff_eq]; exact HZ.out), HB1.out⟩
      · have HF : Hid (At (fun x : Key => x.row) xs t i false) := Lib.hid (HB.out.at_ ⟨fun h => Bool.noConfusion h, fun ⟨h, _⟩ => absurd h hin⟩)
        go_wp2_with fail
        go_ret2
        exact ⟨i, false, rfl, HF.out, hb⟩

set_option maxRecDepth 100000 in
set_option maxHeartbeats 1000000 in
theorem bsEnts (A : Option Addr) (c : Nat) (xs : List Ent) (B : Option Addr) (d : Nat) (t : Row) (w : World) (K T : Nat → Prop) (hx : Elems 2 Ent.cs w (· < w.heap.size) A xs) (hK : ∀ k, K k → k < w.heap.size) (hT : ∀ k, T k → k < w.heap.size)
    (hk : ∀ x ∈ xs, KOk K w x.key) (hs : xs.Pairwise fun a b => rl a.key.row b.key.row) (hy : Elems 3 Val.cs w T B t) (hl : xs.length ≤ 1000) :
    Calls Try.prog 62 #[.slice A xs.length c, .slice B t.length d, .func (.func 63) #[] #[]] w (BsPost w (fun x : Ent => x.key.row) xs t) := by
  have HCMP : Hid (∀ (W : World), Below w.heap.size w W → ∀ x ∈ xs, Calls Try.prog 63 #[.agg #[.slice x.key.A x.key.row.length x.key.c, .int .i64 x.val], .slice B t.length d] W fun e w' => e = .returned (.int .i64 (cmpR x.key.row t)) ∧ Below W.heap.size W w') := Lib.hid fun W hW x hm => by
    have hx1 := ((hk x hm).el.keep (Keeps.of_below hW hK)).more (S' := (· < W.heap.size)) fun k hk => Nat.lt_of_lt_of_le (hK k hk) hW.size
    have hy1 := (hy.keep (Keeps.of_below hW hT)).more (S' := (· < W.heap.size)) fun k hk => Nat.lt_of_lt_of_le (hT k hk) hW.size
    have HC : Hid (∀ W' : World, Elems 3 Val.cs W' (· < W'.heap.size) x.key.A x.key.row → Elems 3 Val.cs W' (· < W'.heap.size) B t → Calls Try.prog 61 #[.slice x.key.A x.key.row.length x.key.c, .slice B t.length d] W' fun e w' => e = .returned (.int .i64 (cmpR x.key.row t)) ∧ Below W'.heap.size W' w') :=
      Lib.hid fun W' hx hy => (cmpRows x.key.A B x.key.c d x.key.row t W' _ _ hx hy (fun _ h => h) (fun _ h => h) (by have := (hk x hm).len; omega)).mono fun e w' ⟨h1, p, h2⟩ => ⟨h1, by rw [h2]; exact below_grow W' p.n p.os⟩
    have HX1 := Lib.hid hx1
    have HY1 := Lib.hid hy1
    have HBA : Hid (∀ o, Below W.heap.size W (W.alloc o)) := Lib.hid fun o => (Below.refl _ _).alloc (Nat.le_refl _) o
    have HSA : Hid (∀ o, W.heap.size ≤ (W.alloc o).heap.size) := Lib.hid fun o => le_size1 (Nat.le_refl _) o
    clear hx hx1 hy hy1 hs hk hT hK hW hl hm
    go_enter Try.func63, Try.ntmps63
    go_wp2_with fail
    refine (HC.out _ ((HX1.out.keep (Keeps.of_below (HBA.out _) fun _ h => h)).more fun k hk => Nat.lt_of_lt_of_le hk (HSA.out _)) ((HY1.out.keep (Keeps.of_below (HBA.out _) fun _ h => h)).more fun k hk => Nat.lt_of_lt_of_le hk (HSA.out _))).mono ?_
    rintro e w1 ⟨rfl, hb1⟩
    go_wp2_with fail
    go_ret
    exact ⟨rfl, (HBA.out _).trans (hb1.mono (HSA.out _))⟩
  have HX := Lib.hid hx
  have HM := Lib.hid (LtAt.mono (t := t) hs)
  clear hx hk hs hy
  go_enter Try.func62, Try.ntmps62
  go_wp2_with fail
  go_loopw [9, 10] (fun vi vj wr => ∃ i j : Nat, vi = .int .i64 i ∧ vj = .int .i64 j ∧ Bin (LtAt (fun x : Ent => x.key.row) xs t) xs.length i j ∧ Below w.heap.size w wr) (fun vi vj _ => (intOf vj).toNat - (intOf vi).toNat)
  case atStart => exact ⟨0, xs.length, rfl, rfl, Bin.first _ _, Below.refl _ _⟩
  case round =>
    obtain ⟨i, j, rfl, rfl, hB, hb⟩ := hrel
    obtain ⟨l1, l2⟩ := hB.le
    have HB := Lib.hid hB
    clear hB
    by_cases hlt : i < j
    · obtain ⟨h, hh⟩ : ∃ h, h = (i + j) / 2 := ⟨_, rfl⟩
      have hih : i ≤ h ∧ h < j := by omega
      have y1 : ((i : Int) + (j : Int)) / 2 = (h : Int) := by omega
      have y2 : (h : Int) < (xs.length : Int) := by omega
      have hhl : h < xs.length := by omega
      clear hh
      obtain ⟨b, off, rfl, hbs, c0, c1⟩ := (HX.out.keep (Keeps.of_below hb fun _ h => h)).ent hhl
      have HC := Lib.hid (HCMP.out wr hb xs[h] (List.getElem_mem hhl))
      have HI := Lib.hid (LtAt.iff (row := fun x : Ent => x.key.row) (t := t) hhl)
      generalize xs[h] = x at *
      go_wp2_with fail
      refine HC.out.mono ?_
      rintro e w1 ⟨rfl, hb1⟩
      have HB1 := Lib.hid (hb.trans (hb1.mono hb.size))
      have HR := Lib.hid (show rl x.key.row t ↔ cmpR x.key.row t < 0 from Iff.rfl)
      clear hb hb1 HC c0
      generalize cmpR x.key.row t = cv at *
      by_cases hcv : cv < 0
      · have HN := Lib.hid (HB.out.up HM.out hih (HI.out.2 (HR.out.2 hcv)))
        go_wp2_with fail
        go_roundw
        case rel => exact ⟨h + 1, j, by go_num, rfl, HN.out, HB1.out⟩
        case measure => simp [intOf]; omega
      · have HN := Lib.hid (HB.out.down HM.out hih (fun h => hcv (HR.out.1 (HI.out.1 h))))
        go_wp2_with fail
        go_roundw
        case rel => exact ⟨i, h, rfl, rfl, HN.out, HB1.out⟩
        case measure => simp [intOf]; omega
    · have hij : i = j := by omega
      subst hij
      by_cases hin : i < xs.length
      · obtain ⟨b, off, rfl, hbs, c0, c1⟩ := (HX.out.keep (Keeps.of_below hb fun _ h => h)).ent hin
        have HC := Lib.hid (HCMP.out wr hb xs[i] (List.getElem_mem hin))
        have HF : Hid (∀ fnd : Bool, (fnd = true ↔ xs[i].key.row = t) → At (fun x : Ent => x.key.row) xs t i fnd) := Lib.hid fun fnd hf => HB.out.at_ (by rw [hf]; exact ⟨fun h => ⟨hin, h⟩, fun ⟨_, h⟩ => h⟩)
        generalize xs[i] = x at *
        go_wp2_with fail
        refine HC.out.mono ?_
        rintro e w1 ⟨rfl, hb1⟩
        have HB1 := Lib.hid (hb.trans (hb1.mono hb.size))
        have HZ : Hid (cmpR x.key.row t = 0 ↔ x.key.row = t) := Lib.hid ⟨cmpR_zero, fun h => by rw [h]; exact cmpR_refl t⟩
        generalize cmpR x.key.row t = cv at *
        clear hb hb1 HC c0
        go_wp2_with fail
        go_ret2
        exact ⟨i, cv == 0, rfl, HF.out _ (by rw [beq_iff_eq]; exact HZ.out), HB1.out⟩
      · have HF : Hid (At (fun x : Ent => x.key.row) xs t i false) := Lib.hid (HB.out.at_ ⟨fun h => Bool.noConfusion h, fun ⟨h, _⟩ => absurd h hin⟩)
        go_wp2_with fail
        go_ret2
        exact ⟨i, false, rfl, HF.out, hb⟩

end Go.Proofs.Ytjdcnkbkbcfhfaa
