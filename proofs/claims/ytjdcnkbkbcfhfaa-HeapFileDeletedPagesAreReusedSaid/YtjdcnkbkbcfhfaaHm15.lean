/-
  What a secondary index holds, plain. No program in sight.
  Tables, columns and the entries of a secondary index in memory. No program's walk.
  The walks of relation.Key and secondary.project.
  The walks of slices.Contains over ints and of secondary.CheckTable.
  The walks of secondary.CheckRow, matches, sortedKeys, where all is well.
  The walks of slices.BinarySearchFunc over keys and the entries of an index; search.
-/
import Derived.Test.YtjdcnkbkbcfhfaaHm04
import Derived.Test.YtjdcnkbkbcfhfaaHm14
import Derived.Deep.QuietTactic
import Derived.BigQuiet
import Derived.Test.YtjdcnkbkbcfhfaaHm09
namespace Go.Proofs.Ytjdcnkbkbcfhfaa
open Go.RowKit

/-- Two lists sorted by one strict order with the same members are one. -/
theorem sorted_ext {α : Type} {R : α → α → Prop} (hi : ∀ a, ¬ R a a) (ha : ∀ a b, R a b → ¬ R b a) : ∀ {xs ys : List α}, xs.Pairwise R → ys.Pairwise R → (∀ k, k ∈ xs ↔ k ∈ ys) → xs = ys
  | [], [], _, _, _ => rfl
  | [], y :: ys, _, _, h => absurd ((h y).2 List.mem_cons_self) (by simp)
  | x :: xs, [], _, _, h => absurd ((h x).1 List.mem_cons_self) (by simp)
  | x :: xs, y :: ys, hx, hy, h => by
    obtain ⟨x1, x2⟩ := List.pairwise_cons.1 hx
    obtain ⟨y1, y2⟩ := List.pairwise_cons.1 hy
    have hxy : x = y := by
      rcases List.mem_cons.1 ((h x).1 List.mem_cons_self) with e | h1
      · exact e
      · rcases List.mem_cons.1 ((h y).2 List.mem_cons_self) with e | h2
        · exact e.symm
        · exact absurd (y1 x h1) (ha _ _ (x1 y h2))
    subst hxy
    rw [sorted_ext hi ha x2 y2 fun k => ⟨fun hk => ?_, fun hk => ?_⟩]
    · rcases List.mem_cons.1 ((h k).1 (List.mem_cons_of_mem _ hk)) with e | h1
      · exact absurd (e ▸ x1 k hk) (hi _)
      · exact h1
    · rcases List.mem_cons.1 ((h k).2 (List.mem_cons_of_mem _ hk)) with e | h1
      · exact absurd (e ▸ y1 k hk) (hi _)
      · exact h1
theorem sorted_nodup {α : Type} {R : α → α → Prop} (hi : ∀ a, ¬ R a a) {xs : List α} (h : xs.Pairwise R) : xs.Nodup := h.imp fun {a b} hab (e : a = b) => by subst e; exact hi _ hab

/-- An entry: values, keys. -/
abbrev XE := Row × List Row
abbrev XD := List XE
def flatX (d : XD) : List (Row × Row) := d.flatMap fun e => e.2.map (Prod.mk e.1)
def pl (a b : Row × Row) : Prop := rl a.1 b.1 ∨ (a.1 = b.1 ∧ rl a.2 b.2)
theorem pl_irrefl (a : Row × Row) : ¬ pl a a := fun h => h.elim (rl_irrefl _) fun h => rl_irrefl _ h.2
theorem pl_asymm (a b : Row × Row) (h : pl a b) : ¬ pl b a := by
  rintro (h2 | ⟨h2, h3⟩)
  · rcases h with h | ⟨h, _⟩
    · exact rl_asymm h h2
    · rw [h] at h2; exact rl_irrefl _ h2
  · rcases h with h | ⟨h, h4⟩
    · rw [h2] at h; exact rl_irrefl _ h
    · exact rl_asymm h4 h3
structure SrtX (d : XD) : Prop where
  vals : d.Pairwise fun a b => rl a.1 b.1
  keys : ∀ e ∈ d, e.2 ≠ [] ∧ e.2.Pairwise rl
theorem mem_flatX {d : XD} {p : Row × Row} : p ∈ flatX d ↔ ∃ e ∈ d, e.1 = p.1 ∧ p.2 ∈ e.2 := by
  unfold flatX
  rw [List.mem_flatMap]
  constructor
  · rintro ⟨e, he, hp⟩
    obtain ⟨k, hk, rfl⟩ := List.mem_map.1 hp
    exact ⟨e, he, rfl, hk⟩
  · rintro ⟨e, he, h1, h2⟩
    exact ⟨e, he, List.mem_map.2 ⟨p.2, h2, by rw [h1]⟩⟩
theorem flatX_sorted {d : XD} (h : SrtX d) : (flatX d).Pairwise pl := by
  unfold flatX
  rw [List.pairwise_flatMap]
  refine ⟨fun e he => ?_, h.vals.imp fun {a b} hab x hx y hy => ?_⟩
  · rw [List.pairwise_map]
    exact (h.keys e he).2.imp fun hk => .inr ⟨rfl, hk⟩
  · obtain ⟨k, _, rfl⟩ := List.mem_map.1 hx
    obtain ⟨k', _, rfl⟩ := List.mem_map.1 hy
    exact .inl hab
theorem flatX_ext {d d' : XD} (h : SrtX d) (h' : SrtX d') (hm : ∀ p, p ∈ flatX d ↔ p ∈ flatX d') : flatX d = flatX d' := sorted_ext pl_irrefl pl_asymm (flatX_sorted h) (flatX_sorted h') hm
theorem flatX_cons (e : XE) (d : XD) : flatX (e :: d) = e.2.map (Prod.mk e.1) ++ flatX d := rfl
theorem flatX_app (a b : XD) : flatX (a ++ b) = flatX a ++ flatX b := List.flatMap_append
theorem SrtX.tail {e : XE} {d : XD} (h : SrtX (e :: d)) : SrtX d := ⟨(List.pairwise_cons.1 h.vals).2, fun x hx => h.keys x (List.mem_cons_of_mem _ hx)⟩
theorem SrtX.len {d : XD} (h : SrtX d) : d.length ≤ (flatX d).length := by
  induction d with
  | nil => simp [flatX]
  | cons e d ih =>
    have h1 := (h.keys e List.mem_cons_self).1
    have h2 : 0 < e.2.length := List.length_pos_iff.2 h1
    have h3 := ih h.tail
    rw [flatX_cons, List.length_append, List.length_map, List.length_cons]
    omega
theorem flatX_keys_len {d : XD} {e : XE} (he : e ∈ d) : e.2.length ≤ (flatX d).length := by
  induction d with
  | nil => cases he
  | cons x d ih =>
    rw [flatX_cons, List.length_append, List.length_map]
    rcases List.mem_cons.1 he with rfl | h
    · omega
    · have := ih h; omega

/-- One key more. -/
def insL (k : Row) : List Row → List Row
  | [] => [k]
  | x :: xs => if cmpR x k < 0 then x :: insL k xs else k :: x :: xs
/-- One row more. -/
def insX (v k : Row) : XD → XD
  | [] => [(v, [k])]
  | e :: d => if cmpR e.1 v < 0 then e :: insX v k d else if cmpR e.1 v = 0 then (v, insL k e.2) :: d else (v, [k]) :: e :: d
theorem mem_insL (k x : Row) : ∀ ks, x ∈ insL k ks ↔ x = k ∨ x ∈ ks
  | [] => by simp [insL]
  | y :: ks => by
    unfold insL
    split
    · rw [List.mem_cons, mem_insL k x ks, List.mem_cons]
      constructor
      · rintro (h | h | h) <;> simp [h]
      · rintro (h | h | h) <;> simp [h]
    · simp
theorem insL_len (k : Row) : ∀ ks, (insL k ks).length = ks.length + 1
  | [] => rfl
  | y :: ks => by
    unfold insL
    split
    · rw [List.length_cons, insL_len k ks, List.length_cons]
    · rfl
theorem insL_ne (k : Row) (ks : List Row) : insL k ks ≠ [] := fun h => by have := insL_len k ks; rw [h] at this; cases this
theorem insL_sorted (k : Row) : ∀ {ks : List Row}, ks.Pairwise rl → k ∉ ks → (insL k ks).Pairwise rl
  | [], _, _ => List.pairwise_singleton _ _
  | y :: ks, h, hk => by
    obtain ⟨h1, h2⟩ := List.pairwise_cons.1 h
    rw [List.mem_cons, not_or] at hk
    unfold insL
    split
    · rename_i hc
      refine List.pairwise_cons.2 ⟨fun z hz => ?_, insL_sorted k h2 hk.2⟩
      rcases (mem_insL k z ks).1 hz with rfl | hz
      · exact hc
      · exact h1 z hz
    · rename_i hc
      have hky : rl k y := by
        rcases rl_tri k y with h | h | h
        · exact h
        · exact absurd h hk.1
        · exact absurd h hc
      exact List.pairwise_cons.2 ⟨fun z hz => (List.mem_cons.1 hz).elim (fun e => e ▸ hky) fun hz => rl_trans hky (h1 z hz), h⟩
theorem mem_insX (v k : Row) (p : Row × Row) : ∀ d, p ∈ flatX (insX v k d) ↔ p = (v, k) ∨ p ∈ flatX d
  | [] => by
    show p ∈ flatX [(v, [k])] ↔ _
    simp [flatX]
  | e :: d => by
    unfold insX
    split
    · rw [flatX_cons, List.mem_append, mem_insX v k p d, flatX_cons, List.mem_append]
      constructor
      · rintro (h | h | h) <;> simp [h]
      · rintro (h | h | h) <;> simp [h]
    · split
      · rename_i h1 h2
        have he := cmpR_zero h2
        rw [flatX_cons, List.mem_append, flatX_cons, List.mem_append]
        have : p ∈ (insL k e.2).map (Prod.mk v) ↔ p = (v, k) ∨ p ∈ e.2.map (Prod.mk e.1) := by
          rw [List.mem_map, List.mem_map]
          constructor
          · rintro ⟨x, hx, rfl⟩
            rcases (mem_insL k x e.2).1 hx with rfl | hx
            · exact .inl rfl
            · exact .inr ⟨x, hx, by rw [he]⟩
          · rintro (rfl | ⟨x, hx, rfl⟩)
            · exact ⟨k, (mem_insL k k e.2).2 (.inl rfl), rfl⟩
            · exact ⟨x, (mem_insL k x e.2).2 (.inr hx), by rw [he]⟩
        show p ∈ (insL k e.2).map (Prod.mk v) ∨ _ ↔ _
        rw [this, or_assoc]
      · rw [flatX_cons, List.mem_append]
        show p ∈ [(v, k)] ∨ _ ↔ _
        rw [List.mem_singleton]
theorem insX_flen (v k : Row) : ∀ d, (flatX (insX v k d)).length = (flatX d).length + 1
  | [] => rfl
  | e :: d => by
    unfold insX
    split
    · rw [flatX_cons, List.length_append, insX_flen v k d, flatX_cons, List.length_append]
      omega
    · split
      · rw [flatX_cons, List.length_append, List.length_map, flatX_cons, List.length_append, List.length_map]
        show (insL k e.2).length + _ = _
        rw [insL_len]
        omega
      · rw [flatX_cons, List.length_append, List.length_map]
        show 1 + _ = _
        omega
theorem insX_vals (v k : Row) : ∀ (d : XD) (e : XE), e ∈ insX v k d → e.1 = v ∨ ∃ x ∈ d, x.1 = e.1
  | [], e, h => by
    rw [show insX v k [] = [(v, [k])] from rfl, List.mem_singleton] at h
    exact .inl (by rw [h])
  | x :: d, e, h => by
    unfold insX at h
    split at h
    · rcases List.mem_cons.1 h with rfl | h
      · exact .inr ⟨_, List.mem_cons_self, rfl⟩
      · rcases insX_vals v k d e h with h | ⟨y, hy, h⟩
        · exact .inl h
        · exact .inr ⟨y, List.mem_cons_of_mem _ hy, h⟩
    · split at h
      · rcases List.mem_cons.1 h with rfl | h
        · exact .inl rfl
        · exact .inr ⟨e, List.mem_cons_of_mem _ h, rfl⟩
      · rcases List.mem_cons.1 h with rfl | h
        · exact .inl rfl
        · exact .inr ⟨e, h, rfl⟩
theorem insX_sorted (v k : Row) : ∀ {d : XD}, SrtX d → (v, k) ∉ flatX d → SrtX (insX v k d)
  | [], _, _ => ⟨List.pairwise_singleton _ _, fun e he => by
      rw [show insX v k [] = [(v, [k])] from rfl, List.mem_singleton] at he
      subst he
      exact ⟨by simp, List.pairwise_singleton _ _⟩⟩
  | e :: d, h, hn => by
    obtain ⟨h1, h2⟩ := List.pairwise_cons.1 h.vals
    have hn' : (v, k) ∉ flatX d := fun hh => hn (by rw [flatX_cons]; exact List.mem_append_right _ hh)
    unfold insX
    split
    · rename_i hc
      have ih := insX_sorted v k h.tail hn'
      refine ⟨List.pairwise_cons.2 ⟨fun z hz => ?_, ih.vals⟩, fun z hz => ?_⟩
      · rcases insX_vals v k d z hz with h3 | ⟨x, hx, h3⟩
        · rw [h3]; exact hc
        · rw [← h3]; exact h1 x hx
      · rcases List.mem_cons.1 hz with rfl | hz
        · exact h.keys _ List.mem_cons_self
        · exact ih.keys z hz
    · split
      · rename_i hc h0
        have he := cmpR_zero h0
        refine ⟨List.pairwise_cons.2 ⟨fun z hz => by rw [← he]; exact h1 z hz, h2⟩, fun z hz => ?_⟩
        rcases List.mem_cons.1 hz with rfl | hz
        · refine ⟨insL_ne _ _, insL_sorted k (h.keys e List.mem_cons_self).2 fun hk => hn ?_⟩
          exact mem_flatX.2 ⟨e, List.mem_cons_self, he, hk⟩
        · exact h.keys z (List.mem_cons_of_mem _ hz)
      · rename_i hc h0
        have hve : rl v e.1 := by
          rcases rl_tri v e.1 with h | h | h
          · exact h
          · exact absurd (by rw [h]; exact cmpR_refl _) h0
          · exact absurd h hc
        refine ⟨List.pairwise_cons.2 ⟨fun z hz => (List.mem_cons.1 hz).elim (fun e => e ▸ hve) fun hz => rl_trans hve (h1 z hz), h.vals⟩, fun z hz => ?_⟩
        rcases List.mem_cons.1 hz with rfl | hz
        · exact ⟨by simp, List.pairwise_singleton _ _⟩
        · exact h.keys z hz

/-- One key less. -/
def delL (k : Row) : List Row → List Row
  | [] => []
  | x :: xs => if cmpR x k < 0 then x :: delL k xs else if cmpR x k = 0 then xs else x :: xs
/-- One row less. -/
def delX (v k : Row) : XD → XD
  | [] => []
  | e :: d => if cmpR e.1 v < 0 then e :: delX v k d else if cmpR e.1 v = 0 then (if delL k e.2 = [] then d else (v, delL k e.2) :: d) else e :: d
theorem mem_delL (k x : Row) : ∀ {ks : List Row}, ks.Pairwise rl → (x ∈ delL k ks ↔ x ∈ ks ∧ x ≠ k)
  | [], _ => by simp [delL]
  | y :: ks, h => by
    obtain ⟨h1, h2⟩ := List.pairwise_cons.1 h
    unfold delL
    split
    · rename_i hc
      rw [List.mem_cons, mem_delL k x h2, List.mem_cons]
      constructor
      · rintro (rfl | ⟨h3, h4⟩)
        · exact ⟨.inl rfl, fun e => by rw [e, cmpR_refl] at hc; omega⟩
        · exact ⟨.inr h3, h4⟩
      · rintro ⟨rfl | h3, h4⟩
        · exact .inl rfl
        · exact .inr ⟨h3, h4⟩
    · split
      · rename_i hc h0
        have he := cmpR_zero h0
        subst he
        rw [List.mem_cons]
        constructor
        · exact fun h3 => ⟨.inr h3, fun e => rl_irrefl y (e ▸ h1 x h3)⟩
        · rintro ⟨rfl | h3, h4⟩
          · exact absurd rfl h4
          · exact h3
      · rename_i hc h0
        have hky : rl k y := by
          rcases rl_tri k y with h | h | h
          · exact h
          · exact absurd (by rw [h]; exact cmpR_refl _) h0
          · exact absurd h hc
        constructor
        · intro h3
          refine ⟨h3, fun e => ?_⟩
          subst e
          rcases List.mem_cons.1 h3 with e | h3
          · exact rl_irrefl _ (e ▸ hky)
          · exact rl_asymm hky (h1 _ h3)
        · exact fun h3 => h3.1
theorem delL_sub (k : Row) : ∀ ks : List Row, (delL k ks).Sublist ks
  | [] => List.Sublist.slnil
  | y :: ks => by
    unfold delL
    split
    · exact (delL_sub k ks).cons_cons y
    · split
      · exact List.sublist_cons_self y ks
      · exact List.Sublist.refl _
theorem delX_vals (v k : Row) : ∀ (d : XD) (e : XE), e ∈ delX v k d → ∃ x ∈ d, x.1 = e.1
  | [], e, h => by cases h
  | x :: d, e, h => by
    unfold delX at h
    split at h
    · rcases List.mem_cons.1 h with rfl | h
      · exact ⟨_, List.mem_cons_self, rfl⟩
      · obtain ⟨y, hy, h⟩ := delX_vals v k d e h
        exact ⟨y, List.mem_cons_of_mem _ hy, h⟩
    · split at h
      · rename_i h1 h0
        have he := cmpR_zero h0
        split at h
        · exact ⟨e, List.mem_cons_of_mem _ h, rfl⟩
        · rcases List.mem_cons.1 h with rfl | h
          · exact ⟨x, List.mem_cons_self, he⟩
          · exact ⟨e, List.mem_cons_of_mem _ h, rfl⟩
      · exact ⟨e, h, rfl⟩
theorem delX_sorted (v k : Row) : ∀ {d : XD}, SrtX d → SrtX (delX v k d)
  | [], h => h
  | e :: d, h => by
    obtain ⟨h1, h2⟩ := List.pairwise_cons.1 h.vals
    unfold delX
    split
    · have ih := delX_sorted v k h.tail
      refine ⟨List.pairwise_cons.2 ⟨fun z hz => ?_, ih.vals⟩, fun z hz => ?_⟩
      · obtain ⟨x, hx, h3⟩ := delX_vals v k d z hz
        rw [← h3]; exact h1 x hx
      · rcases List.mem_cons.1 hz with rfl | hz
        · exact h.keys _ List.mem_cons_self
        · exact ih.keys z hz
    · split
      · rename_i hc h0
        have he := cmpR_zero h0
        split
        · exact h.tail
        · rename_i hne
          refine ⟨List.pairwise_cons.2 ⟨fun z hz => by rw [← he]; exact h1 z hz, h2⟩, fun z hz => ?_⟩
          rcases List.mem_cons.1 hz with rfl | hz
          · exact ⟨hne, (h.keys e List.mem_cons_self).2.sublist (delL_sub k e.2)⟩
          · exact h.keys z (List.mem_cons_of_mem _ hz)
      · exact h
theorem mem_delX (v k : Row) (p : Row × Row) : ∀ {d : XD}, SrtX d → (p ∈ flatX (delX v k d) ↔ p ∈ flatX d ∧ p ≠ (v, k))
  | [], _ => by simp [delX, flatX]
  | e :: d, h => by
    obtain ⟨h1, h2⟩ := List.pairwise_cons.1 h.vals
    have hv : ∀ x, x ∈ e.2.map (Prod.mk e.1) → x.1 = e.1 := fun x hx => by
      obtain ⟨_, _, rfl⟩ := List.mem_map.1 hx
      rfl
    have hd : ∀ x, x ∈ flatX d → rl e.1 x.1 := fun x hx => by
      obtain ⟨y, hy, h3, _⟩ := mem_flatX.1 hx
      rw [← h3]
      exact h1 y hy
    unfold delX
    split
    · rename_i hc
      rw [flatX_cons, List.mem_append, mem_delX v k p h.tail, flatX_cons, List.mem_append]
      constructor
      · rintro (h3 | ⟨h3, h4⟩)
        · exact ⟨.inl h3, fun e' => by have := hv p h3; rw [e'] at this; simp only at this; rw [this] at hc; rw [cmpR_refl] at hc; omega⟩
        · exact ⟨.inr h3, h4⟩
      · rintro ⟨h3 | h3, h4⟩
        · exact .inl h3
        · exact .inr ⟨h3, h4⟩
    · split
      · rename_i hc h0
        have he := cmpR_zero h0
        have hks := (h.keys e List.mem_cons_self).2
        have hmid : p ∈ (delL k e.2).map (Prod.mk v) ↔ p ∈ e.2.map (Prod.mk e.1) ∧ p ≠ (v, k) := by
          rw [List.mem_map, List.mem_map]
          constructor
          · rintro ⟨x, hx, rfl⟩
            obtain ⟨h3, h4⟩ := (mem_delL k x hks).1 hx
            exact ⟨⟨x, h3, by rw [he]⟩, fun e' => h4 (by injection e')⟩
          · rintro ⟨⟨x, hx, rfl⟩, h4⟩
            exact ⟨x, (mem_delL k x hks).2 ⟨hx, fun e' => h4 (by rw [he, e'])⟩, by rw [he]⟩
        have htl : ∀ x, x ∈ flatX d → x ≠ (v, k) := fun x hx e' => by
          have := hd x hx
          rw [e', he] at this
          exact rl_irrefl _ this
        split
        · rename_i hnil
          rw [flatX_cons, List.mem_append]
          rw [hnil] at hmid
          constructor
          · exact fun h3 => ⟨.inr h3, htl p h3⟩
          · rintro ⟨h3 | h3, h4⟩
            · exact absurd (hmid.2 ⟨h3, h4⟩) (by simp)
            · exact h3
        · rw [flatX_cons, List.mem_append, flatX_cons, List.mem_append]
          show p ∈ (delL k e.2).map (Prod.mk v) ∨ _ ↔ _
          rw [hmid]
          constructor
          · rintro (⟨h3, h4⟩ | h3)
            · exact ⟨.inl h3, h4⟩
            · exact ⟨.inr h3, htl p h3⟩
          · rintro ⟨h3 | h3, h4⟩
            · exact .inl ⟨h3, h4⟩
            · exact .inr h3
      · rename_i hc h0
        have hve : rl v e.1 := by
          rcases rl_tri v e.1 with h | h | h
          · exact h
          · exact absurd (by rw [h]; exact cmpR_refl _) h0
          · exact absurd h hc
        constructor
        · intro h3
          refine ⟨h3, fun e' => ?_⟩
          rw [flatX_cons, List.mem_append] at h3
          rcases h3 with h3 | h3
          · have := hv p h3
            rw [e'] at this
            simp only at this
            rw [← this] at hve
            exact rl_irrefl _ hve
          · have := hd p h3
            rw [e'] at this
            exact rl_asymm hve this
        · exact fun h3 => h3.1

/-- Where the search stands, the insertion goes. -/
theorem insL_at {ks : List Row} {k : Row} {i : Nat} {f : Bool} (h : At (fun x : Row => x) ks k i f) : insL k ks = ks.take i ++ k :: ks.drop i := by
  induction ks generalizing i with
  | nil => simp [insL]
  | cons x ks ih =>
    cases i with
    | zero =>
      have h0 : ¬ cmpR x k < 0 := h.hi x (by simp)
      unfold insL
      rw [if_neg h0]
      rfl
    | succ i =>
      have h1 : cmpR x k < 0 := h.lo x (by simp)
      unfold insL
      rw [if_pos h1, ih ⟨by have := h.le; simpa using this, fun y hy => h.lo y (by simp [hy]), fun y hy => h.hi y (by simpa using hy), by simpa using h.eq⟩]
      rfl
theorem delL_at {ks : List Row} {k : Row} {i : Nat} (h : At (fun x : Row => x) ks k i true) : delL k ks = ks.take i ++ ks.drop (i + 1) := by
  induction ks generalizing i with
  | nil => simp [delL]
  | cons x ks ih =>
    cases i with
    | zero =>
      obtain ⟨y, r, h1, h2⟩ := h.eq.1 rfl
      injection h1 with h1 h3
      have h0 : ¬ cmpR x k < 0 := h.hi x (by simp)
      unfold delL
      rw [if_neg h0, if_pos (by rw [h1, h2]; exact cmpR_refl _)]
      rfl
    | succ i =>
      have h1 : cmpR x k < 0 := h.lo x (by simp)
      unfold delL
      rw [if_pos h1, ih ⟨by have := h.le; simpa using this, fun y hy => h.lo y (by simp [hy]), fun y hy => h.hi y (by simpa using hy), by simpa using h.eq⟩]
      rfl
theorem insX_old {d : XD} {v k : Row} {i : Nat} (h : At (fun x : XE => x.1) d v i true) : ∃ e r, d.drop i = e :: r ∧ e.1 = v ∧ insX v k d = d.take i ++ (v, insL k e.2) :: r := by
  induction d generalizing i with
  | nil =>
    obtain ⟨y, r, h1, _⟩ := h.eq.1 rfl
    simp at h1
  | cons x d ih =>
    cases i with
    | zero =>
      obtain ⟨y, r, h1, h2⟩ := h.eq.1 rfl
      have h0 : ¬ cmpR x.1 v < 0 := h.hi x (by simp)
      injection h1 with h1 h3
      refine ⟨x, d, rfl, by rw [h1]; exact h2, ?_⟩
      unfold insX
      rw [if_neg h0, if_pos (by rw [h1, h2]; exact cmpR_refl _)]
      rfl
    | succ i =>
      have h1 : cmpR x.1 v < 0 := h.lo x (by simp)
      obtain ⟨e, r, e1, e2, e3⟩ := ih (i := i) ⟨by have := h.le; simpa using this, fun y hy => h.lo y (by simp [hy]), fun y hy => h.hi y (by simpa using hy), by simpa using h.eq⟩
      refine ⟨e, r, e1, e2, ?_⟩
      unfold insX
      rw [if_pos h1, e3]
      rfl
theorem insX_new {d : XD} {v k : Row} {i : Nat} (h : At (fun x : XE => x.1) d v i false) : insX v k d = d.take i ++ (v, [k]) :: d.drop i := by
  induction d generalizing i with
  | nil => simp [insX]
  | cons x d ih =>
    cases i with
    | zero =>
      have h0 : ¬ cmpR x.1 v < 0 := h.hi x (by simp)
      unfold insX
      rw [if_neg h0, if_neg fun hz => ?_]
      · rfl
      · exact Bool.noConfusion (h.eq.2 ⟨x, d, rfl, cmpR_zero hz⟩)
    | succ i =>
      have h1 : cmpR x.1 v < 0 := h.lo x (by simp)
      unfold insX
      rw [if_pos h1, ih ⟨by have := h.le; simpa using this, fun y hy => h.lo y (by simp [hy]), fun y hy => h.hi y (by simpa using hy), by simpa using h.eq⟩]
      rfl
theorem delX_at {d : XD} {v k : Row} {i : Nat} (h : At (fun x : XE => x.1) d v i true) : ∃ e r, d.drop i = e :: r ∧ e.1 = v ∧ delX v k d = d.take i ++ (if delL k e.2 = [] then r else (v, delL k e.2) :: r) := by
  induction d generalizing i with
  | nil =>
    obtain ⟨y, r, h1, _⟩ := h.eq.1 rfl
    simp at h1
  | cons x d ih =>
    cases i with
    | zero =>
      obtain ⟨y, r, h1, h2⟩ := h.eq.1 rfl
      have h0 : ¬ cmpR x.1 v < 0 := h.hi x (by simp)
      injection h1 with h1 h3
      refine ⟨x, d, rfl, by rw [h1]; exact h2, ?_⟩
      unfold delX
      rw [if_neg h0, if_pos (by rw [h1, h2]; exact cmpR_refl _)]
      rfl
    | succ i =>
      have h1 : cmpR x.1 v < 0 := h.lo x (by simp)
      obtain ⟨e, r, e1, e2, e3⟩ := ih (i := i) ⟨by have := h.le; simpa using this, fun y hy => h.lo y (by simp [hy]), fun y hy => h.hi y (by simpa using hy), by simpa using h.eq⟩
      refine ⟨e, r, e1, e2, ?_⟩
      unfold delX
      rw [if_pos h1, e3]
      rfl
/-- A key stands under one list of values. -/
def KInj (d : XD) : Prop := ∀ p ∈ flatX d, ∀ q ∈ flatX d, p.2 = q.2 → p.1 = q.1
theorem allKeys_nodup {d : XD} (h : SrtX d) (hk : KInj d) : (d.flatMap Prod.snd).Nodup := by
  have e : d.flatMap Prod.snd = (flatX d).map Prod.snd := by
    unfold flatX
    rw [List.map_flatMap]
    congr 1
    funext x
    rw [List.map_map]
    exact (List.map_id _).symm
  rw [e]
  have hn := sorted_nodup pl_irrefl (flatX_sorted h)
  rw [List.nodup_iff_pairwise_ne, List.pairwise_map]
  refine hn.imp_of_mem fun {a b} ha hb hne he => hne ?_
  obtain ⟨a1, a2⟩ := a
  obtain ⟨b1, b2⟩ := b
  have h1 := hk _ ha _ hb he
  simp only at h1 he
  rw [h1, he]
end Go.Proofs.Ytjdcnkbkbcfhfaa

namespace Go.Proofs.Ytjdcnkbkbcfhfaa
open Go.RowKit

structure Col where
  name : ByteArray
  kind : Int
  null : Bool
def Col.cs (c : Col) : List Value := [.string c.name, .int .i64 c.kind, .bool c.null]
theorem colLay : Lay 3 Col.cs := ⟨fun _ => rfl, fun x c hc => by simp [Col.cs] at hc; rcases hc with rfl | rfl | rfl <;> rfl⟩
theorem scValLay : Lay 3 Val.cs := ⟨fun _ => rfl, fun x c hc => by simp [Val.cs] at hc; rcases hc with rfl | rfl | rfl <;> rfl⟩
theorem Elems.col {w : World} {S : Nat → Prop} {A : Option Addr} {r : List Col} {k : Nat} (h : Elems 3 Col.cs w S A r) (hk : k < r.length) :
    ∃ b off, A = some ⟨b, off, none⟩ ∧ S b ∧ w.cell? ⟨b, off + k * 3, none⟩ = some (.string r[k].name) ∧ w.cell? ⟨b, off + k * 3 + 1, none⟩ = some (.int .i64 r[k].kind) ∧ w.cell? ⟨b, off + k * 3 + 2, none⟩ = some (.bool r[k].null) := by
  obtain ⟨b, off, e, hb, hc⟩ := h.at_ hk
  exact ⟨b, off, e, hb, hc 0 _ rfl, hc 1 _ rfl, hc 2 _ rfl⟩
theorem Elems.int {w : World} {S : Nat → Prop} {A : Option Addr} {xs : List Int} {k : Nat} (h : Elems 1 intCs w S A xs) (hk : k < xs.length) :
    ∃ b off, A = some ⟨b, off, none⟩ ∧ S b ∧ w.cell? ⟨b, off + k, none⟩ = some (.int .i64 xs[k]) := by
  obtain ⟨b, off, e, hb, hc⟩ := h.at_ hk
  exact ⟨b, off, e, hb, by simpa using hc 0 _ rfl⟩
theorem Elems.on {α : Type} {sz : Nat} {cs : α → List Value} {w w' : World} {A : Option Addr} {xs : List α} (h : Elems sz cs w (· < w.heap.size) A xs) (hb : Below w.heap.size w w') : Elems sz cs w' (· < w'.heap.size) A xs :=
  (h.keep (Keeps.of_below hb fun _ h => h)).more fun _ hk => Nat.lt_of_lt_of_le hk hb.size

/-- A table's description: its name, its columns and its primary key, and where they lie. -/
structure Tbl where
  name : ByteArray
  CA : Option Addr
  cc : Nat
  cols : List Col
  PA : Option Addr
  pc : Nat
  pk : List Int
def Tbl.val (t : Tbl) : Value := .agg #[.string t.name, .slice t.CA t.cols.length t.cc, .slice t.PA t.pk.length t.pc]
structure TOk (S : Nat → Prop) (w : World) (t : Tbl) : Prop where
  cols : Elems 3 Col.cs w S t.CA t.cols
  pk : Elems 1 intCs w S t.PA t.pk
section
variable {S S' : Nat → Prop} {w w' : World} {t : Tbl}
theorem TOk.keep (h : TOk S w t) (hk : Keeps S w w') : TOk S w' t := ⟨h.cols.keep hk, h.pk.keep hk⟩
theorem TOk.more (h : TOk S w t) (hs : ∀ k, S k → S' k) : TOk S' w t := ⟨h.cols.more hs, h.pk.more hs⟩
theorem TOk.on (h : TOk (· < w.heap.size) w t) (hb : Below w.heap.size w w') : TOk (· < w'.heap.size) w' t := ⟨h.cols.on hb, h.pk.on hb⟩
end

def zeroV : Val := ⟨0, 0, ByteArray.empty⟩
/-- What Key answers. -/
def keyAt (row : Row) (c : Int) : Val := if 0 ≤ c ∧ c < (row.length : Int) then row.getD c.toNat zeroV else zeroV
def keyOf (pk : List Int) (row : Row) : Row := pk.map (keyAt row)

/-- An entry of an index. -/
structure EntM where
  vals : Key
  KA : Option Addr
  kc : Nat
  keys : List Key
def EntM.cs (e : EntM) : List Value := [.slice e.vals.A e.vals.row.length e.vals.c, .slice e.KA e.keys.length e.kc]
theorem entMLay : Lay 2 EntM.cs := ⟨fun _ => rfl, fun x c hc => by simp [EntM.cs] at hc; rcases hc with rfl | rfl <;> rfl⟩
/-- The entry as data. -/
def EntM.xe (e : EntM) : XE := (e.vals.row, e.keys.map Key.row)
theorem Elems.entM {w : World} {S : Nat → Prop} {A : Option Addr} {r : List EntM} {k : Nat} (h : Elems 2 EntM.cs w S A r) (hk : k < r.length) :
    ∃ b off, A = some ⟨b, off, none⟩ ∧ S b ∧ w.cell? ⟨b, off + k * 2, none⟩ = some (.slice r[k].vals.A r[k].vals.row.length r[k].vals.c) ∧ w.cell? ⟨b, off + k * 2 + 1, none⟩ = some (.slice r[k].KA r[k].keys.length r[k].kc) := by
  obtain ⟨b, off, e, hb, hc⟩ := h.at_ hk
  exact ⟨b, off, e, hb, hc 0 _ rfl, hc 1 _ rfl⟩
/-- An entry's parts in memory. -/
structure EOk (S : Nat → Prop) (w : World) (e : EntM) : Prop where
  vals : KOk S w e.vals
  keys : Elems 1 Key.cs w S e.KA e.keys
  key : ∀ k ∈ e.keys, KOk S w k
/-- An index: its table, columns and entries, and where they lie. -/
structure Ix where
  t : Tbl
  XA : Option Addr
  xc : Nat
  cols : List Int
  EA : Option Addr
  ec : Nat
  ents : List EntM
/-- Its cells (a struct within a struct lies flat). -/
def Ix.cells (x : Ix) : Array Value := #[.string x.t.name, .slice x.t.CA x.t.cols.length x.t.cc, .slice x.t.PA x.t.pk.length x.t.pc, .slice x.XA x.cols.length x.xc, .slice x.EA x.ents.length x.ec]
def Ix.val (x : Ix) : Value := .agg x.cells
def Ix.xd (x : Ix) : XD := x.ents.map EntM.xe
structure IOk (S : Nat → Prop) (w : World) (x : Ix) : Prop where
  t : TOk S w x.t
  cols : Elems 1 intCs w S x.XA x.cols
  ents : Elems 2 EntM.cs w S x.EA x.ents
  ent : ∀ e ∈ x.ents, EOk S w e
section
variable {S S' : Nat → Prop} {w w' : World} {e : EntM} {x : Ix}
theorem EOk.keep (h : EOk S w e) (hk : Keeps S w w') : EOk S w' e := ⟨h.vals.keep hk, h.keys.keep hk, fun k hm => (h.key k hm).keep hk⟩
theorem EOk.more (h : EOk S w e) (hs : ∀ k, S k → S' k) : EOk S' w e := ⟨h.vals.more hs, h.keys.more hs, fun k hm => (h.key k hm).more hs⟩
theorem EOk.on (h : EOk (· < w.heap.size) w e) (hb : Below w.heap.size w w') : EOk (· < w'.heap.size) w' e := (h.keep (Keeps.of_below hb fun _ h => h)).more fun _ hk => Nat.lt_of_lt_of_le hk hb.size
theorem IOk.keep (h : IOk S w x) (hk : Keeps S w w') : IOk S w' x := ⟨h.t.keep hk, h.cols.keep hk, h.ents.keep hk, fun k hm => (h.ent k hm).keep hk⟩
theorem IOk.more (h : IOk S w x) (hs : ∀ k, S k → S' k) : IOk S' w x := ⟨h.t.more hs, h.cols.more hs, h.ents.more hs, fun k hm => (h.ent k hm).more hs⟩
theorem IOk.on (h : IOk (· < w.heap.size) w x) (hb : Below w.heap.size w w') : IOk (· < w'.heap.size) w' x := (h.keep (Keeps.of_below hb fun _ h => h)).more fun _ hk => Nat.lt_of_lt_of_le hk hb.size
theorem KOk.on {k : Key} (h : KOk (· < w.heap.size) w k) (hb : Below w.heap.size w w') : KOk (· < w'.heap.size) w' k := (h.keep (Keeps.of_below hb fun _ h => h)).more fun _ hk => Nat.lt_of_lt_of_le hk hb.size
end
end Go.Proofs.Ytjdcnkbkbcfhfaa

namespace Go.Proofs.Ytjdcnkbkbcfhfaa
open Go.RowKit

theorem scElemVal : ElemT Try.prog 35 44 3 32 := ⟨Try.underlying35, by
  have h : (Try.prog.info? 44).map (fun i => (i.zero, i.size, i.bytes)) = some (some (.agg #[.int .i64 0, .int .i64 0, .string ByteArray.empty]), 3, 32) := by kernel_rfl
  obtain ⟨i0, hi, hz0, hz1, hz2⟩ := info_parts h
  exact ⟨i0, _, hi, hz0, hz1, hz2, rfl⟩, by omega⟩

theorem keyOf_take {pk : List Int} {row : Row} {k : Nat} (hk : k < pk.length) : keyOf (pk.take (k + 1)) row = keyOf (pk.take k) row ++ [keyAt row pk[k]] := by
  unfold keyOf
  rw [List.take_succ_eq_append_getElem hk, List.map_append]
  rfl

set_option maxRecDepth 100000 in
set_option maxHeartbeats 1000000 in
theorem relKey (t : Tbl) (A : Option Addr) (c : Nat) (row : Row) (w : World) (ht : TOk (· < w.heap.size) w t) (hx : Elems 3 Val.cs w (· < w.heap.size) A row) (hp : t.pk.length ≤ 1000) :
    Calls Try.prog 23 #[t.val, .slice A row.length c] w fun e w' => ∃ v, e = .returned v ∧ Own 3 Val.cs 44 w.heap.size w' v (keyOf t.pk row) ∧ Below w.heap.size w w' := by
  obtain ⟨name, CA, cc, cols, PA, pc, pk⟩ := t
  have HP := Lib.hid ht.pk
  have HX := Lib.hid hx
  obtain ⟨n, hn⟩ : ∃ n, pk.length = n := ⟨_, rfl⟩
  have hp : pk.length ≤ 1000 := hp
  unfold Tbl.val
  simp only
  rw [hn] at hp ⊢
  have HN := Lib.hid hn
  have HB : Hid (∀ o, Below w.heap.size w (w.alloc o)) := Lib.hid fun o => (Below.refl _ _).alloc (Nat.le_refl _) _
  clear ht hx hn
  go_enter Try.func23, Try.ntmps23
  go_wp2_with fail
  go_loopw [5, 12] (fun v5 vi wr => ∃ k : Nat, vi = .int .i64 (k : Int) ∧ k ≤ n ∧ Own 3 Val.cs 44 w.heap.size wr v5 (keyOf (pk.take k) row) ∧ Below w.heap.size w wr) (fun _ vi _ => n - (intOf vi).toNat)
  case atStart => exact ⟨0, rfl, by omega, Own.nil _, HB.out _⟩
  case round =>
    obtain ⟨k, rfl, hkn, ho, hb⟩ := hrel
    by_cases hlt : k < n
    · have hki : k < pk.length := by have := HN.out; omega
      obtain ⟨b, off, rfl, hbs, c0⟩ := (HP.out.on hb).int hki
      have HKO := Lib.hid (keyOf_take (row := row) hki)
      have HX1 := Lib.hid (HX.out.on hb)
      have hki' : (k : Int) < (n : Int) := by omega
      generalize pk[k] = col at *
      have HL1 : Hid (((keyOf (pk.take k) row).length + 1) * 32 ≤ 140737488355328) := Lib.hid (by unfold keyOf; rw [List.length_map, List.length_take]; omega)
      have HL2 : Hid ((keyOf (pk.take k) row).length + 1 ≤ maxLen) := Lib.hid (by unfold keyOf maxLen; rw [List.length_map, List.length_take]; omega)
      have HO1 : Hid (∀ o, Own 3 Val.cs 44 w.heap.size (wr.alloc o) u5 (keyOf (pk.take k) row)) := Lib.hid fun o => ho.alloc o
      have HS1 : Hid (∀ o, w.heap.size ≤ (wr.alloc o).heap.size) := Lib.hid fun o => le_size1 hb.size o
      have HFR : Hid (∀ o w2 v2, Ext (wr.alloc o) u5 w2 v2 → Below w.heap.size w w2) := Lib.hid fun o w2 v2 hx => (hb.alloc hb.size o).trans (hx.below (le_size1 hb.size o) fun g hg => (ho.lt g hg).1)
      have hcrow : ∀ o, Elems 3 Val.cs (wr.alloc o) (fun k => k < (wr.alloc o).heap.size) A row := fun o => HX1.out.on ((Below.refl _ _).alloc (Nat.le_refl _) o)
      by_cases hin : 0 ≤ col ∧ col < (row.length : Int)
      · obtain ⟨j, rfl⟩ := Int.eq_ofNat_of_zero_le hin.1
        have hj : j < row.length := by omega
        have hka : keyAt row (j : Int) = row[j] := by
          unfold keyAt
          rw [if_pos hin, Int.toNat_natCast, List.getD_eq_getElem?_getD, List.getElem?_eq_getElem hj]
          rfl
        have HKA := Lib.hid hka
        obtain ⟨b', off', rfl, hbs', -⟩ := HX1.out.val hj
        have e0 : ∀ o, (wr.alloc o).cell? ⟨b', off' + j * 3, none⟩ = some (.int .i64 row[j].kind) ∧ (wr.alloc o).cell? ⟨b', off' + j * 3 + 1, none⟩ = some (.int .i64 row[j].int) ∧ (wr.alloc o).cell? ⟨b', off' + j * 3 + 2, none⟩ = some (.string row[j].text) := fun o => by
          obtain ⟨b'', off'', e, -, h⟩ := (hcrow o).val hj
          injection e with e
          injection e with e1 e2
          subst e1 e2
          exact h
        have d0 := fun o => (e0 o).1
        have d1 := fun o => (e0 o).2.1
        have d2 := fun o => (e0 o).2.2
        have hj2 : (j : Int) < (row.length : Int) := hin.2
        have HB2 := Lib.hid hb
        clear hka hin ho e0 hcrow hbs' hb
        generalize row[j] = x at *
        go_wp2_with (at_builtin; refine wpList_app rfl (.tmp 29) (.tmp 31) _ _ rfl rfl rfl (run_push scElemVal scValLay _ _ _ (keyOf (pk.take k) row) x _ (HO1.out _) rfl HL1.out HL2.out (HS1.out _) (size1 _ _)) ?_; rintro v2 w2 ⟨ho2, hx2⟩)
        have HF : Hid (Own 3 Val.cs 44 w.heap.size w2 v2 (keyOf (pk.take (k + 1)) row) ∧ Below w.heap.size w w2) := Lib.hid ⟨by rw [HKO.out, HKA.out]; exact ho2, HFR.out _ _ _ hx2⟩
        clear ho2 hx2
        go_wp2_with fail
        go_roundw
        case rel => exact ⟨k + 1, by go_num, by omega, HF.out.1, HF.out.2⟩
        case measure => simp [intOf]; omega
      · have HKA : Hid (keyAt row col = zeroV) := Lib.hid (if_neg hin)
        rcases Int.lt_or_le col 0 with hc | hc
        · clear hin hb ho hcrow
          go_wp2_with (at_builtin; refine wpList_app rfl (.tmp 29) (.tmp 31) _ _ rfl rfl rfl (run_push scElemVal scValLay _ _ _ (keyOf (pk.take k) row) zeroV _ (HO1.out _) rfl HL1.out HL2.out (HS1.out _) (size1 _ _)) ?_; rintro v2 w2 ⟨ho2, hx2⟩)
          have HF : Hid (Own 3 Val.cs 44 w.heap.size w2 v2 (keyOf (pk.take (k + 1)) row) ∧ Below w.heap.size w w2) := Lib.hid ⟨by rw [HKO.out, HKA.out]; exact ho2, HFR.out _ _ _ hx2⟩
          clear ho2 hx2
          go_wp2_with fail
          go_roundw
          case rel => exact ⟨k + 1, by go_num, by omega, HF.out.1, HF.out.2⟩
          case measure => simp [intOf]; omega
        · have hc2 : (row.length : Int) ≤ col := by omega
          clear hin hb ho hcrow
          go_wp2_with (at_builtin; refine wpList_app rfl (.tmp 29) (.tmp 31) _ _ rfl rfl rfl (run_push scElemVal scValLay _ _ _ (keyOf (pk.take k) row) zeroV _ (HO1.out _) rfl HL1.out HL2.out (HS1.out _) (size1 _ _)) ?_; rintro v2 w2 ⟨ho2, hx2⟩)
          have HF : Hid (Own 3 Val.cs 44 w.heap.size w2 v2 (keyOf (pk.take (k + 1)) row) ∧ Below w.heap.size w w2) := Lib.hid ⟨by rw [HKO.out, HKA.out]; exact ho2, HFR.out _ _ _ hx2⟩
          clear ho2 hx2
          go_wp2_with fail
          go_roundw
          case rel => exact ⟨k + 1, by go_num, by omega, HF.out.1, HF.out.2⟩
          case measure => simp [intOf]; omega
    · have hkn' : k = n := by omega
      subst hkn'
      have HF : Hid (Own 3 Val.cs 44 w.heap.size wr u5 (keyOf pk row) ∧ Below w.heap.size w wr) := Lib.hid ⟨by rwa [List.take_of_length_le (by have := HN.out; omega)] at ho, hb⟩
      clear ho hb
      go_wp2_with fail
      go_ret
      exact ⟨_, rfl, HF.out.1, HF.out.2⟩

end Go.Proofs.Ytjdcnkbkbcfhfaa

namespace Go.Proofs.Ytjdcnkbkbcfhfaa
open Go.RowKit

def IdxPost (xs : List Int) (x : Int) (w : World) (e : Ending) (w' : World) : Prop := ∃ i : Int, e = .returned (.int .i64 i) ∧ (0 ≤ i ↔ x ∈ xs) ∧ w = w'

set_option maxRecDepth 100000 in
set_option maxHeartbeats 1000000 in
theorem indexInts (A : Option Addr) (c : Nat) (xs : List Int) (x : Int) (w : World) (hx : Elems 1 intCs w (· < w.heap.size) A xs) (hl : xs.length ≤ 1000) :
    Calls Try.prog 57 #[.slice A xs.length c, .int .i64 x] w (IdxPost xs x w) := by
  have HX := Lib.hid hx
  obtain ⟨n, hn⟩ : ∃ n, xs.length = n := ⟨_, rfl⟩
  rw [hn] at hl ⊢
  have HN := Lib.hid hn
  clear hx hn
  go_enter Try.func57, Try.ntmps57
  go_wp2_with fail
  go_loopw [8] (fun vi wr => ∃ k : Nat, vi = .int .i64 (k : Int) ∧ k ≤ n ∧ x ∉ xs.take k ∧ w = wr) (fun vi _ => n - (intOf vi).toNat)
  case atStart => exact ⟨0, rfl, by omega, by simp, rfl⟩
  case round =>
    obtain ⟨k, rfl, hkn, hnot, rfl⟩ := hrel
    by_cases hlt : k < n
    · have hki : k < xs.length := by have := HN.out; omega
      obtain ⟨b, off, rfl, hbs, c0⟩ := HX.out.int hki
      have hki' : (k : Int) < (n : Int) := by omega
      have HT : Hid (xs.take (k + 1) = xs.take k ++ [xs[k]]) := Lib.hid (List.take_succ_eq_append_getElem hki)
      have HM : Hid (xs[k] ∈ xs) := Lib.hid (List.getElem_mem hki)
      have HNOT := Lib.hid hnot
      clear hnot
      generalize xs[k] = y at *
      by_cases hxy : x = y
      · have HXY := Lib.hid hxy
        have hb : (x == y) = true := by simp [hxy]
        clear hxy
        go_wp2_with fail
        go_ret
        exact ⟨k, rfl, ⟨fun _ => by rw [HXY.out]; exact HM.out, fun _ => by omega⟩, rfl⟩
      · have HXY := Lib.hid hxy
        have hb : (x == y) = false := by simp [hxy]
        clear hxy
        go_wp2_with fail
        go_roundw
        case rel => exact ⟨k + 1, by go_num, by omega, by rw [HT.out]; intro h; rcases List.mem_append.1 h with h | h; exact HNOT.out h; exact HXY.out (by simpa using h), by trivial⟩
        case measure => simp [intOf]; omega
    · have hkn' : k = n := by omega
      subst hkn'
      have HF : Hid (¬ x ∈ xs) := Lib.hid (by rwa [List.take_of_length_le (by have := HN.out; omega)] at hnot)
      clear hnot
      go_wp2_with fail
      go_ret
      exact ⟨-1, rfl, ⟨fun h => by omega, fun h => absurd h HF.out⟩, rfl⟩

set_option maxRecDepth 100000 in
theorem containsInts (A : Option Addr) (c : Nat) (xs : List Int) (x : Int) (w : World) (hx : Elems 1 intCs w (· < w.heap.size) A xs) (hl : xs.length ≤ 1000) :
    Calls Try.prog 34 #[.slice A xs.length c, .int .i64 x] w fun e w' => e = .returned (.bool (decide (x ∈ xs))) ∧ w = w' := by
  have HI := Lib.hid (indexInts A c xs x w hx hl)
  clear hx
  go_enter Try.func34, Try.ntmps34
  go_wp2_with fail
  refine HI.out.mono ?_
  rintro e w' ⟨i, rfl, hi, rfl⟩
  have HD : Hid (decide (0 ≤ i) = decide (x ∈ xs)) := Lib.hid (by simp [hi])
  clear hi
  go_wp2_with fail
  go_ret
  exact ⟨ret_bool HD.out, rfl⟩

/-- A table that may have an index. -/
structure TabOk (t : Tbl) : Prop where
  ncols : t.cols.length ≤ 6
  npk : 0 < t.pk.length ∧ t.pk.length ≤ 1000
  pk : ∀ k ∈ t.pk, 0 ≤ k ∧ k < (t.cols.length : Int)
  ord : t.pk.Pairwise (· < ·)
/-- .. over these columns. -/
structure ColsOk (t : Tbl) (cols : List Int) : Prop where
  pos : 0 < cols.length ∧ cols.length ≤ 1000
  rng : ∀ k ∈ cols, 0 ≤ k ∧ k < (t.cols.length : Int)
  nd : cols.Nodup

set_option maxRecDepth 100000 in
set_option maxHeartbeats 4000000 in
theorem checkTable (t : Tbl) (B : Option Addr) (d : Nat) (cols : List Int) (w : World) (ht : TOk (· < w.heap.size) w t) (hy : Elems 1 intCs w (· < w.heap.size) B cols) (hd : cols.length ≤ d) (hT : TabOk t) (hC : ColsOk t cols) :
    Calls Try.prog 16 #[t.val, .slice B cols.length d] w fun e w' => e = .returned (.int .i64 0) ∧ Below w.heap.size w w' := by
  obtain ⟨name, CA, cc, tc, PA, pc, pk⟩ := t
  have HP := Lib.hid ht.pk
  have HY := Lib.hid hy
  have HT := Lib.hid hT
  have HC := Lib.hid hC
  obtain ⟨m, hm⟩ : ∃ m, tc.length = m := ⟨_, rfl⟩
  obtain ⟨n, hn⟩ : ∃ n, pk.length = n := ⟨_, rfl⟩
  obtain ⟨l, hl⟩ : ∃ l, cols.length = l := ⟨_, rfl⟩
  have hm6 : m ≤ 6 := by rw [← hm]; exact hT.ncols
  have hn1 : 0 < n ∧ n ≤ 1000 := by rw [← hn]; exact hT.npk
  have hl1 : 0 < l ∧ l ≤ 1000 := by rw [← hl]; exact hC.pos
  unfold Tbl.val
  simp only
  rw [hl] at hd
  rw [hn, hm, hl]
  have HN := Lib.hid (And.intro hm (And.intro hn hl))
  have HB : Hid (∀ o, Below w.heap.size w (w.alloc o)) := Lib.hid fun o => (Below.refl _ _).alloc (Nat.le_refl _) _
  clear ht hy hn hm hl hT hC
  obtain ⟨hn1, hn2⟩ := hn1
  obtain ⟨hl1, hl2⟩ := hl1
  go_enter Try.func16, Try.ntmps16
  go_wp2_with fail
  have hbx := heap_alloc_new w (.cells #[.string name, .slice CA m cc, .slice PA n pc] 29)
  obtain ⟨w1, hw1⟩ : ∃ w1, w1 = w.alloc (.cells #[.string name, .slice CA m cc, .slice PA n pc] 29) := ⟨_, rfl⟩
  have HB1 : Hid (Below w.heap.size w w1) := by rw [hw1]; exact Lib.hid (HB.out _)
  have c1 : w1.cell? ⟨w.heap.size, 1, none⟩ = some (.slice CA m cc) := by rw [hw1, cell_of_row _ _ _ _ _ (0, 0) hbx]; rfl
  have c2 : w1.cell? ⟨w.heap.size, 2, none⟩ = some (.slice PA n pc) := by rw [hw1, cell_of_row _ _ _ _ _ (0, 0) hbx]; rfl
  rw [← hw1]
  clear hbx hw1
  go_loopw [16] (fun vi wr => ∃ k : Nat, vi = .int .i64 (k : Int) ∧ k ≤ n ∧ w1 = wr) (fun vi _ => n - (intOf vi).toNat)
  case atStart => exact ⟨0, rfl, by omega, rfl⟩
  case round =>
    obtain ⟨k, rfl, hkn, rfl⟩ := hrel
    by_cases hlt : k < n
    · have hki : k < pk.length := by have := HN.out; omega
      obtain ⟨b, off, rfl, hbs, c0⟩ := (HP.out.on HB1.out).int hki
      have hki' : (k : Int) < (n : Int) := by omega
      have hr := HT.out.pk _ (List.getElem_mem hki)
      have hr1 : 0 ≤ pk[k] := hr.1
      have hr2 : pk[k] < (m : Int) := by rw [← HN.out.1]; exact hr.2
      clear hr
      by_cases hk0 : k = 0
      · have hk1 : ¬ (0 : Int) < (k : Int) := by omega
        clear hk0
        generalize pk[k] = y at *
        go_wp2_with fail
        go_roundw
        case rel => exact ⟨k + 1, by go_num, by omega, by trivial⟩
        case measure => simp [intOf]; omega
      · obtain ⟨j, rfl⟩ : ∃ j, k = j + 1 := ⟨k - 1, by omega⟩
        have hlt2 := List.pairwise_iff_getElem.1 HT.out.ord j (j + 1) (show j < pk.length from by omega) hki (by omega)
        obtain ⟨b', off', e', -, c1'⟩ := (HP.out.on HB1.out).int (k := j) (show j < pk.length from by omega)
        injection e' with e'
        injection e' with e1 e2
        subst e1 e2
        have hj1 : (0 : Int) < (j : Int) + 1 := by omega
        have hj2 : ((j + 1 : Nat) : Int) - 1 = (j : Int) := by omega
        have hj3 : (j : Int) < (n : Int) := by omega
        simp only at hlt2
        generalize pk[j + 1] = y at *
        generalize pk[j]'(show j < pk.length from by omega) = z at *
        go_wp2_with fail
        go_roundw
        case rel => exact ⟨j + 1 + 1, by go_num, by omega, by trivial⟩
        case measure => simp [intOf]; omega
    · have hkn' : k = n := by omega
      subst hkn'
      have hk0 : ((k : Int) == 0) = false := by simp; omega
      go_wp2_with fail
      go_loopw [51] (fun vi wr => ∃ i : Nat, vi = .int .i64 (i : Int) ∧ i ≤ l ∧ w1 = wr) (fun vi _ => l - (intOf vi).toNat)
      case atStart => exact ⟨0, rfl, by omega, rfl⟩
      case round =>
        obtain ⟨i, rfl, hil, rfl⟩ := hrel
        by_cases hlt2 : i < l
        · have hki : i < cols.length := by have := HN.out; omega
          have hyy := HY.out.on HB1.out
          obtain ⟨b, off, rfl, hbs, c0⟩ := hyy.int hki
          have hr := HC.out.rng _ (List.getElem_mem hki)
          have hr1 : 0 ≤ cols[i] := hr.1
          have hr2 : cols[i] < (m : Int) := by rw [← HN.out.1]; exact hr.2
          have hnd : cols[i] ∉ cols.take i := fun hmem => by
            obtain ⟨j, hj, e⟩ := List.getElem_of_mem hmem
            rw [List.getElem_take] at e
            rw [List.length_take] at hj
            have h := (List.nodup_iff_pairwise_ne.1 HC.out.nd)
            exact List.pairwise_iff_getElem.1 h j i (by omega) hki (by omega) e
          have hli : (cols.take i).length = i := by rw [List.length_take]; omega
          have hcc := containsInts (some ⟨b, off, none⟩) d (cols.take i) cols[i] w1 (hyy.take i) (by omega)
          rw [hli, decide_eq_false hnd] at hcc
          have HCC := Lib.hid hcc
          have hi1 : (i : Int) < (l : Int) := by omega
          have hi2 : (i : Int) ≤ (d : Int) := by omega
          clear hr hnd hli hcc hyy
          generalize cols[i] = y at *
          go_wp2_with fail
          refine HCC.out.mono ?_
          rintro e w' ⟨rfl, rfl⟩
          go_wp2_with fail
          go_roundw
          case rel => first | exact ⟨i + 1, by go_num, by omega, by trivial⟩ | ((repeat apply Exists.intro); exact ⟨⟨i + 1, by go_num, by omega, by trivial⟩, rfl⟩)
          case measure => simp [intOf]; omega
        · have hil' : i = l := by omega
          subst hil'
          go_wp2_with fail
          go_ret
          exact ⟨rfl, HB1.out⟩
end Go.Proofs.Ytjdcnkbkbcfhfaa

namespace Go.Proofs.Ytjdcnkbkbcfhfaa
open Go.RowKit Go.Sort

def col0 : Col := ⟨ByteArray.empty, 0, false⟩
/-- The value fits the column. -/
def colOk (c : Col) (v : Val) : Prop := (v.kind = c.kind ∧ v.kind ≠ 0) ∨ (v.kind = 0 ∧ c.null = true)
/-- A row of the table. -/
structure RowOk (t : Tbl) (r : Row) : Prop where
  len : r.length = t.cols.length
  err : rErr r = 0
  col : ∀ (i : Nat) (h : i < r.length), colOk (t.cols.getD i col0) r[i]
/-- A value for each column. -/
structure VOk (t : Tbl) (cols : List Int) (r : Row) : Prop where
  len : r.length = cols.length
  err : rErr r = 0
  col : ∀ (i : Nat) (h : i < r.length), colOk (t.cols.getD (cols.getD i 0).toNat col0) r[i]

set_option maxRecDepth 100000 in
set_option maxHeartbeats 4000000 in
theorem secCheckRow (t : Tbl) (A : Option Addr) (c : Nat) (r : Row) (w : World) (ht : TOk (· < w.heap.size) w t) (hx : Elems 3 Val.cs w (· < w.heap.size) A r) (h6 : t.cols.length ≤ 1000) (hr : RowOk t r) :
    Calls Try.prog 21 #[t.val, .slice A r.length c] w fun e w' => e = .returned (.int .i64 0) ∧ Below w.heap.size w w' := by
  obtain ⟨name, CA, cc, tc, PA, pc, pk⟩ := t
  have HC := Lib.hid ht.cols
  have HX := Lib.hid hx
  have HR := Lib.hid hr
  obtain ⟨n, hn⟩ : ∃ n, tc.length = n := ⟨_, rfl⟩
  have hrn : r.length = n := by rw [← hn]; exact hr.len
  have h6 : n ≤ 1000 := by rw [← hn]; exact h6
  have HK0 := Lib.hid fun o => checkRow A c r (w.alloc o) (hx.on ((Below.refl _ _).alloc (Nat.le_refl _) o)) (by unfold maxLen; omega)
  unfold Tbl.val
  simp only
  rw [hrn] at HK0 ⊢
  rw [hn]
  rw [hr.err] at HK0
  have HN := Lib.hid (And.intro hn hrn)
  have HB : Hid (∀ o, Below w.heap.size w (w.alloc o)) := Lib.hid fun o => (Below.refl _ _).alloc (Nat.le_refl _) _
  clear ht hx hr hn hrn
  have hbx := heap_alloc_new w (.cells #[.string name, .slice CA n cc, .slice PA pk.length pc] 29)
  obtain ⟨w1, hw1⟩ : ∃ w1, w1 = w.alloc (.cells #[.string name, .slice CA n cc, .slice PA pk.length pc] 29) := ⟨_, rfl⟩
  have HB1 : Hid (Below w.heap.size w w1) := by rw [hw1]; exact Lib.hid (HB.out _)
  have HG1 : Hid (w.heap.size < w1.heap.size) := Lib.hid (by rw [hw1]; simp)
  have c1 : w1.cell? ⟨w.heap.size, 1, none⟩ = some (.slice CA n cc) := by rw [hw1, cell_of_row _ _ _ _ _ (0, 0) hbx]; rfl
  have HK := Lib.hid (HK0.out (.cells #[.string name, .slice CA n cc, .slice PA pk.length pc] 29))
  rw [← hw1] at HK
  have HW1 := Lib.hid hw1
  clear hbx hw1 HK0
  go_enter Try.func21, Try.ntmps21
  go_wp2_with fail
  rw [← HW1.out]
  refine HK.out.mono ?_
  rintro e w2 ⟨rfl, hb2⟩
  have c1' := (hb2.cell (p := ⟨w.heap.size, 1, none⟩) HG1.out).trans c1
  have HB2 := Lib.hid (HB1.out.trans (hb2.mono HB1.out.size))
  clear hb2 c1 HK
  go_wp2_with fail
  go_loopw [22] (fun vi wr => ∃ k : Nat, vi = .int .i64 (k : Int) ∧ k ≤ n ∧ Below w.heap.size w wr) (fun vi _ => n - (intOf vi).toNat)
  case atStart => exact ⟨0, rfl, by omega, HB2.out⟩
  case round =>
    obtain ⟨k, rfl, hkn, hb⟩ := hrel
    by_cases hlt : k < n
    · have hkr : k < r.length := by have := HN.out; omega
      have hkc : k < tc.length := by have := HN.out; omega
      obtain ⟨b, off, rfl, hbs, c0, c1, c2⟩ := (HC.out.on hb).col hkc
      have hxr := HX.out.on hb
      have hco := HR.out.col k hkr
      have hgd : tc.getD k col0 = tc[k] := by rw [List.getD_eq_getElem?_getD, List.getElem?_eq_getElem hkc]; rfl
      have hco : colOk tc[k] r[k] := hgd ▸ hco
      obtain ⟨b', off', rfl, hbs', -⟩ := hxr.val hkr
      have e0 : ∀ o, (wr.alloc o).cell? ⟨b', off' + k * 3, none⟩ = some (.int .i64 r[k].kind) := fun o => by
        obtain ⟨b'', off'', e, -, h, -⟩ := (hxr.on ((Below.refl _ _).alloc (Nat.le_refl _) o)).val hkr
        injection e with e
        injection e with e1 e2
        subst e1 e2
        exact h
      have hkn' : (k : Int) < (n : Int) := by omega
      have HB := Lib.hid hb
      have HBA : Hid (∀ o m, Below w.heap.size w ((wr.alloc o).drewN m)) := Lib.hid fun o m => below_drewN (hb.alloc hb.size o) m
      clear hb hxr hbs hbs' hgd
      generalize tc[k] = cl at *
      generalize r[k] = v at *
      rcases hco with ⟨h1, h2⟩ | ⟨h1, h2⟩
      · have g1 : (v.kind == 0) = false := by simp [h2]
        have g2 : (v.kind != 0) = true := by simp [h2]
        have g3 : (v.kind != cl.kind) = false := by simp [h1]
        clear h1 h2
        go_wp2_with fail
        go_quiet (fail)
        go_wp2_with fail
        go_roundw
        case rel => exact ⟨k + 1, by go_num, by omega, HBA.out _ _⟩
        case measure => simp [intOf]; omega
      · have g1 : (v.kind == 0) = true := by simp [h1]
        have g2 : (v.kind != 0) = false := by simp [h1]
        have g3 : cl.null = true := h2
        clear h1 h2
        go_wp2_with fail
        go_quiet (fail)
        go_wp2_with fail
        go_roundw
        case rel => exact ⟨k + 1, by go_num, by omega, HBA.out _ _⟩
        case measure => simp [intOf]; omega
    · have hkn' : k = n := by omega
      subst hkn'
      have HB := Lib.hid hb
      clear hb
      go_wp2_with fail
      go_ret
      exact ⟨rfl, HB.out⟩

theorem cmpKeys (a b : Key) (w : World) (ha : KOk (· < w.heap.size) w a) (hb : KOk (· < w.heap.size) w b) :
    Calls Try.prog 61 #[.slice a.A a.row.length a.c, .slice b.A b.row.length b.c] w fun e w' => e = .returned (.int .i64 (cmpR a.row b.row)) ∧ Below w.heap.size w w' :=
  (cmpRows a.A b.A a.c b.c a.row b.row w _ _ ha.el hb.el (fun _ h => h) (fun _ h => h) (by have := ha.len; omega)).mono fun e w' ⟨h1, p, h2⟩ => ⟨h1, by rw [h2]; exact below_grow w p.n p.os⟩

end Go.Proofs.Ytjdcnkbkbcfhfaa

namespace Go.Proofs.Ytjdcnkbkbcfhfaa
open Go.RowKit Go.Sort

set_option maxRecDepth 100000 in
set_option maxHeartbeats 1000000 in
theorem scBsKeys (A : Option Addr) (c : Nat) (xs : List Key) (B : Option Addr) (d : Nat) (t : Row) (w : World) (K T : Nat → Prop) (hx : Elems 1 Key.cs w (· < w.heap.size) A xs) (hK : ∀ k, K k → k < w.heap.size) (hT : ∀ k, T k → k < w.heap.size)
    (hk : ∀ x ∈ xs, KOk K w x) (hs : xs.Pairwise fun a b => rl a.row b.row) (hy : Elems 3 Val.cs w T B t) (hl : xs.length ≤ 1000) :
    Calls Try.prog 60 #[.slice A xs.length c, .slice B t.length d, .func (.func 61) #[] #[]] w (BsPost w (fun x : Key => x.row) xs t) := by
  have HCMP : Hid (∀ (W : World), Below w.heap.size w W → ∀ x ∈ xs, Calls Try.prog 61 #[.slice x.A x.row.length x.c, .slice B t.length d] W fun e w' => e = .returned (.int .i64 (cmpR x.row t)) ∧ Below W.heap.size W w') := Lib.hid fun W hW x hm => by
    have hx1 := ((hk x hm).el.keep (Keeps.of_below hW hK)).more (S' := (· < W.heap.size)) fun k hk => Nat.lt_of_lt_of_le (hK k hk) hW.size
    have hy1 := (hy.keep (Keeps.of_below hW hT)).more (S' := (· < W.heap.size)) fun k hk => Nat.lt_of_lt_of_le (hT k hk) hW.size
    exact (cmpRows _ _ _ d _ t W _ _ hx1 hy1 (fun _ h => h) (fun _ h => h) (by have := (hk x hm).len; omega)).mono fun e w' ⟨h1, p, h2⟩ => ⟨h1, by rw [h2]; exact below_grow W p.n p.os⟩
  have HX := Lib.hid hx
  have HM := Lib.hid (LtAt.mono (t := t) hs)
  clear hx hk hs hy
  go_enter Try.func60, Try.ntmps60
  go_wp2_with fail
  go_loopw [9, 10] (fun vi vj wr => ∃ i j : Nat, vi = .int .i64 i ∧ vj = .int .i64 j ∧ Bin (LtAt (fun x : Key => x.row) xs t) xs.length i j ∧ Below w.heap.size w wr) (fun vi vj _ => (intOf vj).toNat - (intOf vi).toNat)
  case atStart => exact ⟨0, xs.length, rfl, rfl, Bin.first _ _, Below.refl _ _⟩
  case round =>
    obtain ⟨i, j, rfl, rfl, hB, hb⟩ := hrel
    obtain ⟨l1, l2⟩ := hB.le
    have HB := Lib.hid hB
    clear hB
    by_cases hlt : i < j
    · obtain ⟨h, hh⟩ : ∃ h, h = (i + j) / 2 := ⟨_, rfl⟩
      have hih : i ≤ h ∧ h < j := by omega
      have y1 : ((i : Int) + (j : Int)) / 2 = (h : Int) := by omega
      have y2 : (h : Int) < (xs.length : Int) := by omega
      have hhl : h < xs.length := by omega
      clear hh
      obtain ⟨b, off, rfl, hbs, c0⟩ := (HX.out.keep (Keeps.of_below hb fun _ h => h)).key hhl
      have HC := Lib.hid (HCMP.out wr hb xs[h] (List.getElem_mem hhl))
      have HI := Lib.hid (LtAt.iff (row := fun x : Key => x.row) (t := t) hhl)
      generalize xs[h] = x at *
      go_wp2_with fail
      refine HC.out.mono ?_
      rintro e w1 ⟨rfl, hb1⟩
      have HB1 := Lib.hid (hb.trans (hb1.mono hb.size))
      have HR := Lib.hid (show rl x.row t ↔ cmpR x.row t < 0 from Iff.rfl)
      clear hb hb1 HC c0
      generalize cmpR x.row t = cv at *
      by_cases hcv : cv < 0
      · have HN := Lib.hid (HB.out.up HM.out hih (HI.out.2 (HR.out.2 hcv)))
        go_wp2_with fail
        go_roundw
        case rel => exact ⟨h + 1, j, by go_num, rfl, HN.out, HB1.out⟩
        case measure => simp [intOf]; omega
      · have HN := Lib.hid (HB.out.down HM.out hih (fun h => hcv (HR.out.1 (HI.out.1 h))))
        go_wp2_with fail
        go_roundw
        case rel => exact ⟨i, h, rfl, rfl, HN.out, HB1.out⟩
        case measure => simp [intOf]; omega
    · have hij : i = j := by omega
      subst hij
      by_cases hin : i < xs.length
      · obtain ⟨b, off, rfl, hbs, c0⟩ := (HX.out.keep (Keeps.of_below hb fun _ h => h)).key hin
        have HC := Lib.hid (HCMP.out wr hb xs[i] (List.getElem_mem hin))
        have HF : Hid (∀ fnd : Bool, (fnd = true ↔ xs[i].row = t) → At (fun x : Key => x.row) xs t i fnd) := Lib.hid fun fnd hf => HB.out.at_ (by rw [hf]; exact ⟨fun h => ⟨hin, h⟩, fun ⟨_, h⟩ => h⟩)
        generalize xs[i] = x at *
        go_wp2_with fail
        refine HC.out.mono ?_
        rintro e w1 ⟨rfl, hb1⟩
        have HB1 := Lib.hid (hb.trans (hb1.mono hb.size))
        have HZ : Hid (cmpR x.row t = 0 ↔ x.row = t) := Lib.hid ⟨cmpR_zero, fun h => by rw [h]; exact cmpR_refl t⟩
        generalize cmpR x.row t = cv at *
        clear hb hb1 HC c0
        go_wp2_with fail
        go_ret2
        exact ⟨i, cv == 0, rfl, HF.out _ (by rw [beq_iff_eq]; exact HZ.out), HB1.out⟩
      · have HF : Hid (At (fun x : Key => x.row) xs t i false) := Lib.hid (HB.out.at_ ⟨fun h => Bool.noConfusion h, fun ⟨h, _⟩ => absurd h hin⟩)
        go_wp2_with fail
        go_ret2
        exact ⟨i, false, rfl, HF.out, hb⟩

end Go.Proofs.Ytjdcnkbkbcfhfaa
