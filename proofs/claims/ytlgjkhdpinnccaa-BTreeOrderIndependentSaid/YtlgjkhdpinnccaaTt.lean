/-
  Trees, plain: what they hold, their order, one entry put in, taken out, nodes split and merged. No program in sight.
-/
import Derived.Test.YtlgjkhdpinnccaaBk
namespace Go.Proofs.Ytlgjkhdpinnccaa

/-- A tree whose leaves lie d levels down. -/
def T : Nat → Type
  | 0 => List Ent
  | n + 1 => List Key × List (T n)
def flat : (d : Nat) → T d → List Ent
  | 0, es => es
  | d + 1, t => t.2.flatMap (flat d)
def fill : (d : Nat) → T d → Nat
  | 0, es => List.length (α := Ent) es
  | _ + 1, t => t.2.length

/-- The entry e is put in. -/
def insF (e : Ent) : List Ent → List Ent
  | [] => [e]
  | x :: xs => if cmpR x.key.row e.key.row < 0 then x :: insF e xs else if cmpR x.key.row e.key.row = 0 then ⟨x.key, e.val⟩ :: xs else e :: x :: xs
/-- The key is taken out. -/
def delF (k : Row) : List Ent → List Ent
  | [] => []
  | x :: xs => if cmpR x.key.row k < 0 then x :: delF k xs else if cmpR x.key.row k = 0 then xs else x :: xs
/-- The key's value. -/
def getF (k : Row) : List Ent → Option Int
  | [] => none
  | x :: xs => if cmpR x.key.row k < 0 then getF k xs else if cmpR x.key.row k = 0 then some x.val else none

theorem insF_cons (e x : Ent) (xs : List Ent) : insF e (x :: xs) = if cmpR x.key.row e.key.row < 0 then x :: insF e xs else if cmpR x.key.row e.key.row = 0 then ⟨x.key, e.val⟩ :: xs else e :: x :: xs := rfl
theorem delF_cons (k : Row) (x : Ent) (xs : List Ent) : delF k (x :: xs) = if cmpR x.key.row k < 0 then x :: delF k xs else if cmpR x.key.row k = 0 then xs else x :: xs := rfl
theorem getF_cons (k : Row) (x : Ent) (xs : List Ent) : getF k (x :: xs) = if cmpR x.key.row k < 0 then getF k xs else if cmpR x.key.row k = 0 then some x.val else none := rfl
theorem rl_def {a b : Row} (h : rl a b) : cmpR a b < 0 := h

abbrev Ord (xs : List Ent) : Prop := xs.Pairwise fun a b => rl a.key.row b.key.row

section
variable {e : Ent} {k : Row} {A B xs : List Ent}
theorem insF_left : ∀ {A : List Ent}, (∀ x ∈ A, rl x.key.row e.key.row) → insF e (A ++ B) = A ++ insF e B
  | [], _ => rfl
  | x :: A, h => by
    rw [List.cons_append, insF_cons, if_pos (rl_def (h x List.mem_cons_self)), insF_left fun y hy => h y (List.mem_cons_of_mem _ hy), List.cons_append]
theorem delF_left : ∀ {A : List Ent}, (∀ x ∈ A, rl x.key.row k) → delF k (A ++ B) = A ++ delF k B
  | [], _ => rfl
  | x :: A, h => by
    rw [List.cons_append, delF_cons, if_pos (rl_def (h x List.mem_cons_self)), delF_left fun y hy => h y (List.mem_cons_of_mem _ hy), List.cons_append]
theorem getF_left : ∀ {A : List Ent}, (∀ x ∈ A, rl x.key.row k) → getF k (A ++ B) = getF k B
  | [], _ => rfl
  | x :: A, h => by
    rw [List.cons_append, getF_cons, if_pos (rl_def (h x List.mem_cons_self)), getF_left fun y hy => h y (List.mem_cons_of_mem _ hy)]
theorem gt_of {x : Ent} (h : rl k x.key.row) : ¬ cmpR x.key.row k < 0 ∧ ¬ cmpR x.key.row k = 0 := by
  have := cmpR_neg k x.key.row
  unfold rl at h
  omega
theorem insF_right (hB : ∀ x ∈ B, rl e.key.row x.key.row) : ∀ (A : List Ent), insF e (A ++ B) = insF e A ++ B
  | [] => by
    cases B with
    | nil => rfl
    | cons x B =>
      have := gt_of (hB x List.mem_cons_self)
      rw [List.nil_append, insF_cons, if_neg this.1, if_neg this.2]
      rfl
  | x :: A => by
    rw [List.cons_append, insF_cons, insF_right hB A, insF_cons]
    split
    · rfl
    · split <;> rfl
theorem delF_right (hB : ∀ x ∈ B, rl k x.key.row) : ∀ (A : List Ent), delF k (A ++ B) = delF k A ++ B
  | [] => by
    cases B with
    | nil => rfl
    | cons x B =>
      have := gt_of (hB x List.mem_cons_self)
      rw [List.nil_append, delF_cons, if_neg this.1, if_neg this.2]
      rfl
  | x :: A => by
    rw [List.cons_append, delF_cons, delF_right hB A, delF_cons]
    split
    · rfl
    · split <;> rfl
theorem getF_right (hB : ∀ x ∈ B, rl k x.key.row) : ∀ (A : List Ent), getF k (A ++ B) = getF k A
  | [] => by
    cases B with
    | nil => rfl
    | cons x B =>
      have := gt_of (hB x List.mem_cons_self)
      rw [List.nil_append, getF_cons, if_neg this.1, if_neg this.2]
      rfl
  | x :: A => by
    rw [List.cons_append, getF_cons, getF_right hB A, getF_cons]
theorem mem_insF {y : Ent} : ∀ {xs : List Ent}, y ∈ insF e xs → y.key.row = e.key.row ∨ ∃ x ∈ xs, x.key = y.key
  | [], h => by
    simp [insF] at h
    exact .inl (by rw [h])
  | x :: xs, h => by
    unfold insF at h
    split at h
    · rcases List.mem_cons.1 h with rfl | h
      · exact .inr ⟨_, List.mem_cons_self, rfl⟩
      · rcases mem_insF h with h | ⟨z, hz, h⟩
        · exact .inl h
        · exact .inr ⟨z, List.mem_cons_of_mem _ hz, h⟩
    · split at h
      · rcases List.mem_cons.1 h with rfl | h
        · exact .inr ⟨x, List.mem_cons_self, rfl⟩
        · exact .inr ⟨y, List.mem_cons_of_mem _ h, rfl⟩
      · rcases List.mem_cons.1 h with rfl | h
        · exact .inl rfl
        · exact .inr ⟨y, h, rfl⟩
theorem mem_delF {y : Ent} : ∀ {xs : List Ent}, y ∈ delF k xs → y ∈ xs
  | [], h => h
  | x :: xs, h => by
    unfold delF at h
    split at h
    · rcases List.mem_cons.1 h with rfl | h
      · exact List.mem_cons_self
      · exact List.mem_cons_of_mem _ (mem_delF h)
    · split at h
      · exact List.mem_cons_of_mem _ h
      · exact h

abbrev er (x : Ent) : Row := x.key.row
/-- Where a search in a leaf ends: what the three answer. -/
theorem at_ins {i : Nat} (h : At er xs e.key.row i false) : insF e xs = xs.take i ++ e :: xs.drop i := by
  conv => lhs; rw [← List.take_append_drop i xs]
  rw [insF_left h.lo]
  congr 1
  cases hd : xs.drop i with
  | nil => rfl
  | cons x r =>
    have h1 : ¬ cmpR x.key.row e.key.row < 0 := h.hi x (by rw [hd]; exact List.mem_cons_self)
    have h2 : ¬ x.key.row = e.key.row := fun hx => Bool.noConfusion (h.eq.2 ⟨x, r, hd, hx⟩)
    show (if _ then _ else _) = _
    rw [if_neg h1, if_neg fun hz => h2 (cmpR_zero hz)]
theorem at_upd {i : Nat} (h : At er xs e.key.row i true) : ∃ x, xs[i]? = some x ∧ x.key.row = e.key.row ∧ insF e xs = xs.take i ++ ⟨x.key, e.val⟩ :: xs.drop (i + 1) ∧ delF e.key.row xs = xs.take i ++ xs.drop (i + 1) ∧ getF e.key.row xs = some x.val := by
  obtain ⟨x, r, hd, hx⟩ := h.eq.1 rfl
  have h0 : xs = xs.take i ++ x :: r := by rw [← hd]; exact (List.take_append_drop i xs).symm
  have hi : xs[i]? = some x := by rw [← List.head?_drop, hd]; rfl
  have hr : xs.drop (i + 1) = r := by rw [← List.drop_drop, hd]; rfl
  have hx : x.key.row = e.key.row := hx
  have hc : cmpR x.key.row e.key.row = 0 := by rw [hx]; exact cmpR_refl _
  refine ⟨x, hi, hx, ?_, ?_, ?_⟩
  · conv => lhs; rw [h0]
    rw [insF_left h.lo, hr]
    congr 1
    rw [insF_cons, if_neg (by omega), if_pos hc]
  · conv => lhs; rw [h0]
    rw [delF_left h.lo, hr]
    congr 1
    rw [delF_cons, if_neg (by omega), if_pos hc]
  · conv => lhs; rw [h0]
    rw [getF_left h.lo]
    rw [getF_cons, if_neg (by omega), if_pos hc]
theorem at_none {i : Nat} (h : At er xs k i false) : delF k xs = xs ∧ getF k xs = none := by
  constructor
  · conv => lhs; rw [← List.take_append_drop i xs]
    rw [delF_left h.lo]
    conv => rhs; rw [← List.take_append_drop i xs]
    congr 1
    cases hd : xs.drop i with
    | nil => rfl
    | cons x r =>
      have h1 : ¬ cmpR x.key.row k < 0 := h.hi x (by rw [hd]; exact List.mem_cons_self)
      have h2 : ¬ x.key.row = k := fun hx => Bool.noConfusion (h.eq.2 ⟨x, r, hd, hx⟩)
      rw [delF_cons, if_neg h1, if_neg fun hz => h2 (cmpR_zero hz)]
  · conv => lhs; rw [← List.take_append_drop i xs]
    rw [getF_left h.lo]
    cases hd : xs.drop i with
    | nil => rfl
    | cons x r =>
      have h1 : ¬ cmpR x.key.row k < 0 := h.hi x (by rw [hd]; exact List.mem_cons_self)
      have h2 : ¬ x.key.row = k := fun hx => Bool.noConfusion (h.eq.2 ⟨x, r, hd, hx⟩)
      rw [getF_cons, if_neg h1, if_neg fun hz => h2 (cmpR_zero hz)]

theorem ord_append : Ord (A ++ B) ↔ Ord A ∧ Ord B ∧ ∀ a ∈ A, ∀ b ∈ B, rl a.key.row b.key.row := List.pairwise_append
theorem ord_ins : ∀ {xs : List Ent}, Ord xs → Ord (insF e xs)
  | [], _ => List.pairwise_singleton _ _
  | x :: xs, h => by
    obtain ⟨h1, h2⟩ := List.pairwise_cons.1 h
    unfold insF
    split
    · rename_i hlt
      refine List.pairwise_cons.2 ⟨fun y hy => ?_, ord_ins h2⟩
      rcases mem_insF hy with hy | ⟨z, hz, hy⟩
      · rw [hy]; exact hlt
      · rw [← hy]; exact h1 z hz
    · split
      · exact List.pairwise_cons.2 ⟨h1, h2⟩
      · rename_i h3 h4
        refine List.pairwise_cons.2 ⟨fun y hy => ?_, h⟩
        have h5 : rl e.key.row x.key.row := by
          have := cmpR_neg e.key.row x.key.row
          unfold rl
          omega
        rcases List.mem_cons.1 hy with rfl | hy
        · exact h5
        · exact rl_trans h5 (h1 y hy)
theorem delF_sub : ∀ (xs : List Ent), (delF k xs).Sublist xs
  | [] => List.Sublist.slnil
  | x :: xs => by
    unfold delF
    split
    · exact (delF_sub xs).cons_cons x
    · split
      · exact List.sublist_cons_self x xs
      · exact List.Sublist.refl _
theorem ord_del (h : Ord xs) : Ord (delF k xs) := List.Pairwise.sublist (delF_sub xs) h
theorem len_ins : (insF e xs).length = if (getF e.key.row xs).isSome then xs.length else xs.length + 1 := by
  induction xs with
  | nil => rfl
  | cons x xs ih =>
    unfold insF getF
    split
    · rw [List.length_cons, ih]
      split <;> simp
    · split <;> simp
theorem len_del : (delF k xs).length + (if (getF k xs).isSome then 1 else 0) = xs.length := by
  induction xs with
  | nil => rfl
  | cons x xs ih =>
    unfold delF getF
    split
    · rw [List.length_cons, List.length_cons, ← ih]
      omega
    · split <;> simp
theorem get_ins : ∀ {xs : List Ent}, getF e.key.row (insF e xs) = some e.val
  | [] => by
    show getF e.key.row (e :: []) = _
    rw [getF_cons, if_neg (by rw [cmpR_refl]; omega), if_pos (cmpR_refl _)]
  | x :: xs => by
    unfold insF
    split
    · rename_i h
      rw [getF_cons, if_pos h, get_ins]
    · split
      · rename_i h1 h2
        rw [getF_cons, if_neg h1, if_pos h2]
      · rw [getF_cons, if_neg (by rw [cmpR_refl]; omega), if_pos (cmpR_refl _)]
end

/-- The separators ks lie between the parts ts. -/
def Sep {τ : Type} (fl : τ → List Ent) (ks : List Key) (ts : List τ) : Prop :=
  ks.length + 1 = ts.length ∧ ∀ (j m : Nat) (k : Key) (t : τ), ks[j]? = some k → ts[m]? = some t → ∀ x ∈ fl t, (m ≤ j → rl x.key.row k.row) ∧ (j < m → ¬ rl x.key.row k.row)

/-- Ordered; each node below the top holds m to o. -/
def Ok (m o : Nat) : (d : Nat) → T d → Prop
  | 0, es => Ord es
  | d + 1, t => Sep (flat d) t.1 t.2 ∧ ∀ c ∈ t.2, Ok m o d c ∧ m ≤ fill d c ∧ fill d c ≤ o

/-- The child j covers the key. -/
def Cov (ks : List Key) (key : Row) (j : Nat) : Prop := j ≤ ks.length ∧ ∀ (a : Nat) (k : Key), ks[a]? = some k → (a < j → ¬ rl key k.row) ∧ (j ≤ a → rl key k.row)

section
variable {m o d : Nat}
theorem flat_ord : ∀ {d : Nat} {t : T d}, Ok m o d t → Ord (flat d t)
  | 0, _, h => h
  | d + 1, t, h => by
    obtain ⟨⟨hl, hs⟩, hc⟩ := h
    show (List.flatMap (flat d) t.2).Pairwise _
    rw [List.pairwise_flatMap]
    refine ⟨fun c hm => flat_ord (hc c hm).1, List.pairwise_iff_getElem.2 fun i j hi hj hij x hx y hy => ?_⟩
    have hik : i < t.1.length := by omega
    have h1 := (hs i i _ _ (List.getElem?_eq_getElem hik) (List.getElem?_eq_getElem hi) x hx).1 (Nat.le_refl _)
    have h2 := (hs i j _ _ (List.getElem?_eq_getElem hik) (List.getElem?_eq_getElem hj) y hy).2 hij
    exact rl_lt_le h1 h2
theorem flat_ne : ∀ {d : Nat} {t : T d}, Ok m o d t → 1 ≤ m → 1 ≤ fill d t → flat d t ≠ []
  | 0, t, _, _, hf => fun e => by
    have e : t = ([] : List Ent) := e
    subst e
    exact absurd hf (by show ¬ 1 ≤ 0; omega)
  | d + 1, t, h, hm, hf => fun e => by
    obtain ⟨hs, hc⟩ := h
    obtain ⟨ks, ts⟩ := t
    cases ts with
    | nil => exact absurd hf (by show ¬ 1 ≤ 0; omega)
    | cons c cs =>
      have h1 := hc c List.mem_cons_self
      have h2 := flat_ne h1.1 hm (Nat.le_trans hm h1.2.1)
      have e : List.flatMap (flat d) (c :: cs) = [] := e
      rw [List.flatMap_cons] at e
      exact h2 (List.append_eq_nil_iff.1 e).1
theorem keys_ord {t : T (d + 1)} (h : Ok m o (d + 1) t) (hm : 1 ≤ m) : t.1.Pairwise fun a b => rl a.row b.row := by
  obtain ⟨⟨hl, hs⟩, hc⟩ := h
  refine List.pairwise_iff_getElem.2 fun i j hi hj hij => ?_
  have hjt : j < t.2.length := by omega
  have h1 := hc _ (List.getElem_mem hjt)
  obtain ⟨x, hx⟩ := List.exists_mem_of_ne_nil _ (flat_ne h1.1 hm (Nat.le_trans hm h1.2.1))
  have h2 := (hs i j _ _ (List.getElem?_eq_getElem hi) (List.getElem?_eq_getElem hjt) x hx).2 hij
  have h3 := (hs j j _ _ (List.getElem?_eq_getElem hj) (List.getElem?_eq_getElem hjt) x hx).1 (Nat.le_refl _)
  exact rl_le_lt h2 h3
/-- Where the search among the separators ends. -/
theorem cov_of {ks : List Key} {key : Row} {i : Nat} {fnd : Bool} (hs : ks.Pairwise fun a b => rl a.row b.row) (h : At (fun x : Key => x.row) ks key i fnd) : Cov ks key (if fnd then i + 1 else i) := by
  have hlo : ∀ a k, ks[a]? = some k → a < i → rl k.row key := fun a k hk ha => h.lo k (List.mem_of_getElem? (i := a) (by rw [List.getElem?_take, if_pos ha]; exact hk))
  have hhi : ∀ a k, ks[a]? = some k → i ≤ a → ¬ rl k.row key := fun a k hk ha => h.hi k (List.mem_of_getElem? (i := a - i) (by rw [List.getElem?_drop]; rw [show i + (a - i) = a from by omega]; exact hk))
  have hlt : ∀ {a b : Nat} {k k' : Key}, ks[a]? = some k → ks[b]? = some k' → a < b → rl k.row k'.row := fun {a b k k'} ha hb hab => by
    obtain ⟨la, ea⟩ := List.getElem?_eq_some_iff.1 ha
    obtain ⟨lb, eb⟩ := List.getElem?_eq_some_iff.1 hb
    rw [← ea, ← eb]
    exact List.pairwise_iff_getElem.1 hs a b la lb hab
  cases fnd with
  | true =>
    obtain ⟨x, r, hd, hx⟩ := h.eq.1 rfl
    have hi : ks[i]? = some x := by rw [← List.head?_drop, hd]; rfl
    have hil := (List.getElem?_eq_some_iff.1 hi).1
    refine ⟨by simp only [if_true]; omega, fun a k hk => ⟨fun ha => ?_, fun ha => ?_⟩⟩
    · simp only [if_true] at ha
      rcases Nat.lt_or_ge a i with h1 | h1
      · exact rl_asymm (hlo a k hk h1)
      · have : a = i := by omega
        subst this
        rw [hi] at hk
        injection hk with hk
        subst hk
        rw [hx]
        exact rl_irrefl _
    · simp only [if_true] at ha
      rw [← hx]
      exact hlt hi hk (by omega)
  | false =>
    simp only [Bool.false_eq_true, if_false]
    refine ⟨h.le, fun a k hk => ⟨fun ha => rl_asymm (hlo a k hk ha), fun ha => ?_⟩⟩
    have hil : i < ks.length := by have := (List.getElem?_eq_some_iff.1 hk).1; omega
    have h1 : ¬ ks[i].row = key := fun e => Bool.noConfusion (h.eq.2 ⟨ks[i], ks.drop (i + 1), List.drop_eq_getElem_cons hil, e⟩)
    have h2 := hhi i _ (List.getElem?_eq_getElem hil) (Nat.le_refl _)
    have h3 : rl key ks[i].row := by
      rcases rl_tri key ks[i].row with h | h | h
      · exact h
      · exact absurd h.symm h1
      · exact absurd h h2
    rcases Nat.eq_or_lt_of_le ha with h4 | h4
    · subst h4
      rw [List.getElem?_eq_getElem hil] at hk
      injection hk with hk
      rw [← hk]
      exact h3
    · exact rl_trans h3 (hlt (List.getElem?_eq_getElem hil) hk h4)

/-- The parts at index j. -/
theorem flat_at {ks : List Key} {ts : List (T d)} {j : Nat} {c : T d} (hj : ts[j]? = some c) : flat (d + 1) (ks, ts) = (ts.take j).flatMap (flat d) ++ (flat d c ++ (ts.drop (j + 1)).flatMap (flat d)) := by
  obtain ⟨h1, h2⟩ := List.getElem?_eq_some_iff.1 hj
  show List.flatMap (flat d) ts = _
  conv => lhs; rw [← List.take_append_drop j ts, List.drop_eq_getElem_cons h1, h2]
  rw [List.flatMap_append, List.flatMap_cons]
theorem mem_flat_take {τ : Type} {fl : τ → List Ent} {ts : List τ} {n : Nat} {x : Ent} (h : x ∈ (ts.take n).flatMap fl) : ∃ m t, m < n ∧ ts[m]? = some t ∧ x ∈ fl t := by
  obtain ⟨t, ht, hx⟩ := List.mem_flatMap.1 h
  obtain ⟨m, hm⟩ := List.getElem?_of_mem ht
  rw [List.getElem?_take] at hm
  split at hm
  · rename_i hlt
    exact ⟨m, t, hlt, hm, hx⟩
  · cases hm
theorem mem_flat_drop {τ : Type} {fl : τ → List Ent} {ts : List τ} {n : Nat} {x : Ent} (h : x ∈ (ts.drop n).flatMap fl) : ∃ m t, n ≤ m ∧ ts[m]? = some t ∧ x ∈ fl t := by
  obtain ⟨t, ht, hx⟩ := List.mem_flatMap.1 h
  obtain ⟨m, hm⟩ := List.getElem?_of_mem ht
  rw [List.getElem?_drop] at hm
  exact ⟨n + m, t, by omega, hm, hx⟩
/-- What lies beside the child that covers the key. -/
theorem cov_sides {τ : Type} {fl : τ → List Ent} {ks : List Key} {ts : List τ} {key : Row} {j : Nat} (hs : Sep fl ks ts) (hc : Cov ks key j) :
    (∀ x ∈ (ts.take j).flatMap fl, rl x.key.row key) ∧ (∀ x ∈ (ts.drop (j + 1)).flatMap fl, rl key x.key.row) := by
  obtain ⟨hl, hs⟩ := hs
  obtain ⟨hj, hc⟩ := hc
  constructor
  · intro x hx
    obtain ⟨n, t, hn, ht, hx⟩ := mem_flat_take hx
    have hk : n < ks.length := by omega
    exact rl_lt_le ((hs n n _ _ (List.getElem?_eq_getElem hk) ht x hx).1 (Nat.le_refl _)) ((hc n _ (List.getElem?_eq_getElem hk)).1 hn)
  · intro x hx
    obtain ⟨n, t, hn, ht, hx⟩ := mem_flat_drop hx
    have hnt := (List.getElem?_eq_some_iff.1 ht).1
    have hk : j < ks.length := by omega
    exact rl_lt_le ((hc j _ (List.getElem?_eq_getElem hk)).2 (Nat.le_refl _)) ((hs j n _ _ (List.getElem?_eq_getElem hk) ht x hx).2 (by omega))
/-- One part is changed; its keys stay, or are the covered key. -/
theorem sep_set {τ : Type} {fl : τ → List Ent} {ks : List Key} {ts : List τ} {key : Row} {j : Nat} {c c' : τ} (hs : Sep fl ks ts) (hc : Cov ks key j) (hj : ts[j]? = some c)
    (hm : ∀ y ∈ fl c', y.key.row = key ∨ ∃ x ∈ fl c, x.key.row = y.key.row) : Sep fl ks (ts.set j c') := by
  refine ⟨by rw [List.length_set]; exact hs.1, fun a n k t hk ht x hx => ?_⟩
  rw [List.getElem?_set] at ht
  split at ht
  · rename_i hjn
    subst hjn
    split at ht
    · injection ht with ht
      subst ht
      rcases hm x hx with h | ⟨y, hy, h⟩
      · rw [h]
        exact ⟨(hc.2 a k hk).2, (hc.2 a k hk).1⟩
      · rw [← h]
        exact hs.2 a _ k c hk hj y hy
    · cases ht
  · exact hs.2 a n k t hk ht x hx
end

end Go.Proofs.Ytlgjkhdpinnccaa
