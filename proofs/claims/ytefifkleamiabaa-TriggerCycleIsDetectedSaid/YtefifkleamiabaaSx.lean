/-
  What a secondary index holds, plain. No program in sight.
-/
import Derived.Test.YtefifkleamiabaaBk
namespace Go.Proofs.Ytefifkleamiabaa
open Go.RowKit

/-- Two lists sorted by one strict order with the same members are one. -/
theorem sorted_ext {α : Type} {R : α → α → Prop} (hi : ∀ a, ¬ R a a) (ha : ∀ a b, R a b → ¬ R b a) : ∀ {xs ys : List α}, xs.Pairwise R → ys.Pairwise R → (∀ k, k ∈ xs ↔ k ∈ ys) → xs = ys
  | [], [], _, _, _ => rfl
  | [], y :: ys, _, _, h => absurd ((h y).2 List.mem_cons_self) (by simp)
  | x :: xs, [], _, _, h => absurd ((h x).1 List.mem_cons_self) (by simp)
  | x :: xs, y :: ys, hx, hy, h => by
    obtain ⟨x1, x2⟩ := List.pairwise_cons.1 hx
    obtain ⟨y1, y2⟩ := List.pairwise_cons.1 hy
    have hxy : x = y := by
      rcases List.mem_cons.1 ((h x).1 List.mem_cons_self) with e | h1
      · exact e
      · rcases List.mem_cons.1 ((h y).2 List.mem_cons_self) with e | h2
        · exact e.symm
        · exact absurd (y1 x h1) (ha _ _ (x1 y h2))
    subst hxy
    rw [sorted_ext hi ha x2 y2 fun k => ⟨fun hk => ?_, fun hk => ?_⟩]
    · rcases List.mem_cons.1 ((h k).1 (List.mem_cons_of_mem _ hk)) with e | h1
      · exact absurd (e ▸ x1 k hk) (hi _)
      · exact h1
    · rcases List.mem_cons.1 ((h k).2 (List.mem_cons_of_mem _ hk)) with e | h1
      · exact absurd (e ▸ y1 k hk) (hi _)
      · exact h1
theorem sorted_nodup {α : Type} {R : α → α → Prop} (hi : ∀ a, ¬ R a a) {xs : List α} (h : xs.Pairwise R) : xs.Nodup := h.imp fun {a b} hab (e : a = b) => by subst e; exact hi _ hab

/-- An entry: values, keys. -/
abbrev XE := Row × List Row
abbrev XD := List XE
def flatX (d : XD) : List (Row × Row) := d.flatMap fun e => e.2.map (Prod.mk e.1)
def pl (a b : Row × Row) : Prop := rl a.1 b.1 ∨ (a.1 = b.1 ∧ rl a.2 b.2)
theorem pl_irrefl (a : Row × Row) : ¬ pl a a := fun h => h.elim (rl_irrefl _) fun h => rl_irrefl _ h.2
theorem pl_asymm (a b : Row × Row) (h : pl a b) : ¬ pl b a := by
  rintro (h2 | ⟨h2, h3⟩)
  · rcases h with h | ⟨h, _⟩
    · exact rl_asymm h h2
    · rw [h] at h2; exact rl_irrefl _ h2
  · rcases h with h | ⟨h, h4⟩
    · rw [h2] at h; exact rl_irrefl _ h
    · exact rl_asymm h4 h3
structure SrtX (d : XD) : Prop where
  vals : d.Pairwise fun a b => rl a.1 b.1
  keys : ∀ e ∈ d, e.2 ≠ [] ∧ e.2.Pairwise rl
theorem mem_flatX {d : XD} {p : Row × Row} : p ∈ flatX d ↔ ∃ e ∈ d, e.1 = p.1 ∧ p.2 ∈ e.2 := by
  unfold flatX
  rw [List.mem_flatMap]
  constructor
  · rintro ⟨e, he, hp⟩
    obtain ⟨k, hk, rfl⟩ := List.mem_map.1 hp
    exact ⟨e, he, rfl, hk⟩
  · rintro ⟨e, he, h1, h2⟩
    exact ⟨e, he, List.mem_map.2 ⟨p.2, h2, by rw [h1]⟩⟩
theorem flatX_sorted {d : XD} (h : SrtX d) : (flatX d).Pairwise pl := by
  unfold flatX
  rw [List.pairwise_flatMap]
  refine ⟨fun e he => ?_, h.vals.imp fun {a b} hab x hx y hy => ?_⟩
  · rw [List.pairwise_map]
    exact (h.keys e he).2.imp fun hk => .inr ⟨rfl, hk⟩
  · obtain ⟨k, _, rfl⟩ := List.mem_map.1 hx
    obtain ⟨k', _, rfl⟩ := List.mem_map.1 hy
    exact .inl hab
theorem flatX_ext {d d' : XD} (h : SrtX d) (h' : SrtX d') (hm : ∀ p, p ∈ flatX d ↔ p ∈ flatX d') : flatX d = flatX d' := sorted_ext pl_irrefl pl_asymm (flatX_sorted h) (flatX_sorted h') hm
theorem flatX_cons (e : XE) (d : XD) : flatX (e :: d) = e.2.map (Prod.mk e.1) ++ flatX d := rfl
theorem flatX_app (a b : XD) : flatX (a ++ b) = flatX a ++ flatX b := List.flatMap_append
theorem SrtX.tail {e : XE} {d : XD} (h : SrtX (e :: d)) : SrtX d := ⟨(List.pairwise_cons.1 h.vals).2, fun x hx => h.keys x (List.mem_cons_of_mem _ hx)⟩
theorem SrtX.len {d : XD} (h : SrtX d) : d.length ≤ (flatX d).length := by
  induction d with
  | nil => simp [flatX]
  | cons e d ih =>
    have h1 := (h.keys e List.mem_cons_self).1
    have h2 : 0 < e.2.length := List.length_pos_iff.2 h1
    have h3 := ih h.tail
    rw [flatX_cons, List.length_append, List.length_map, List.length_cons]
    omega
theorem flatX_keys_len {d : XD} {e : XE} (he : e ∈ d) : e.2.length ≤ (flatX d).length := by
  induction d with
  | nil => cases he
  | cons x d ih =>
    rw [flatX_cons, List.length_append, List.length_map]
    rcases List.mem_cons.1 he with rfl | h
    · omega
    · have := ih h; omega

/-- One key more. -/
def insL (k : Row) : List Row → List Row
  | [] => [k]
  | x :: xs => if cmpR x k < 0 then x :: insL k xs else k :: x :: xs
/-- One row more. -/
def insX (v k : Row) : XD → XD
  | [] => [(v, [k])]
  | e :: d => if cmpR e.1 v < 0 then e :: insX v k d else if cmpR e.1 v = 0 then (v, insL k e.2) :: d else (v, [k]) :: e :: d
theorem mem_insL (k x : Row) : ∀ ks, x ∈ insL k ks ↔ x = k ∨ x ∈ ks
  | [] => by simp [insL]
  | y :: ks => by
    unfold insL
    split
    · rw [List.mem_cons, mem_insL k x ks, List.mem_cons]
      constructor
      · rintro (h | h | h) <;> simp [h]
      · rintro (h | h | h) <;> simp [h]
    · simp
theorem insL_len (k : Row) : ∀ ks, (insL k ks).length = ks.length + 1
  | [] => rfl
  | y :: ks => by
    unfold insL
    split
    · rw [List.length_cons, insL_len k ks, List.length_cons]
    · rfl
theorem insL_ne (k : Row) (ks : List Row) : insL k ks ≠ [] := fun h => by have := insL_len k ks; rw [h] at this; cases this
theorem insL_sorted (k : Row) : ∀ {ks : List Row}, ks.Pairwise rl → k ∉ ks → (insL k ks).Pairwise rl
  | [], _, _ => List.pairwise_singleton _ _
  | y :: ks, h, hk => by
    obtain ⟨h1, h2⟩ := List.pairwise_cons.1 h
    rw [List.mem_cons, not_or] at hk
    unfold insL
    split
    · rename_i hc
      refine List.pairwise_cons.2 ⟨fun z hz => ?_, insL_sorted k h2 hk.2⟩
      rcases (mem_insL k z ks).1 hz with rfl | hz
      · exact hc
      · exact h1 z hz
    · rename_i hc
      have hky : rl k y := by
        rcases rl_tri k y with h | h | h
        · exact h
        · exact absurd h hk.1
        · exact absurd h hc
      exact List.pairwise_cons.2 ⟨fun z hz => (List.mem_cons.1 hz).elim (fun e => e ▸ hky) fun hz => rl_trans hky (h1 z hz), h⟩
theorem mem_insX (v k : Row) (p : Row × Row) : ∀ d, p ∈ flatX (insX v k d) ↔ p = (v, k) ∨ p ∈ flatX d
  | [] => by
    show p ∈ flatX [(v, [k])] ↔ _
    simp [flatX]
  | e :: d => by
    unfold insX
    split
    · rw [flatX_cons, List.mem_append, mem_insX v k p d, flatX_cons, List.mem_append]
      constructor
      · rintro (h | h | h) <;> simp [h]
      · rintro (h | h | h) <;> simp [h]
    · split
      · rename_i h1 h2
        have he := cmpR_zero h2
        rw [flatX_cons, List.mem_append, flatX_cons, List.mem_append]
        have : p ∈ (insL k e.2).map (Prod.mk v) ↔ p = (v, k) ∨ p ∈ e.2.map (Prod.mk e.1) := by
          rw [List.mem_map, List.mem_map]
          constructor
          · rintro ⟨x, hx, rfl⟩
            rcases (mem_insL k x e.2).1 hx with rfl | hx
            · exact .inl rfl
            · exact .inr ⟨x, hx, by rw [he]⟩
          · rintro (rfl | ⟨x, hx, rfl⟩)
            · exact ⟨k, (mem_insL k k e.2).2 (.inl rfl), rfl⟩
            · exact ⟨x, (mem_insL k x e.2).2 (.inr hx), by rw [he]⟩
        show p ∈ (insL k e.2).map (Prod.mk v) ∨ _ ↔ _
        rw [this, or_assoc]
      · rw [flatX_cons, List.mem_append]
        show p ∈ [(v, k)] ∨ _ ↔ _
        rw [List.mem_singleton]
theorem insX_flen (v k : Row) : ∀ d, (flatX (insX v k d)).length = (flatX d).length + 1
  | [] => rfl
  | e :: d => by
    unfold insX
    split
    · rw [flatX_cons, List.length_append, insX_flen v k d, flatX_cons, List.length_append]
      omega
    · split
      · rw [flatX_cons, List.length_append, List.length_map, flatX_cons, List.length_append, List.length_map]
        show (insL k e.2).length + _ = _
        rw [insL_len]
        omega
      · rw [flatX_cons, List.length_append, List.length_map]
        show 1 + _ = _
        omega
theorem insX_vals (v k : Row) : ∀ (d : XD) (e : XE), e ∈ insX v k d → e.1 = v ∨ ∃ x ∈ d, x.1 = e.1
  | [], e, h => by
    rw [show insX v k [] = [(v, [k])] from rfl, List.mem_singleton] at h
    exact .inl (by rw [h])
  | x :: d, e, h => by
    unfold insX at h
    split at h
    · rcases List.mem_cons.1 h with rfl | h
      · exact .inr ⟨_, List.mem_cons_self, rfl⟩
      · rcases insX_vals v k d e h with h | ⟨y, hy, h⟩
        · exact .inl h
        · exact .inr ⟨y, List.mem_cons_of_mem _ hy, h⟩
    · split at h
      · rcases List.mem_cons.1 h with rfl | h
        · exact .inl rfl
        · exact .inr ⟨e, List.mem_cons_of_mem _ h, rfl⟩
      · rcases List.mem_cons.1 h with rfl | h
        · exact .inl rfl
        · exact .inr ⟨e, h, rfl⟩
theorem insX_sorted (v k : Row) : ∀ {d : XD}, SrtX d → (v, k) ∉ flatX d → SrtX (insX v k d)
  | [], _, _ => ⟨List.pairwise_singleton _ _, fun e he => by
      rw [show insX v k [] = [(v, [k])] from rfl, List.mem_singleton] at he
      subst he
      exact ⟨by simp, List.pairwise_singleton _ _⟩⟩
  | e :: d, h, hn => by
    obtain ⟨h1, h2⟩ := List.pairwise_cons.1 h.vals
    have hn' : (v, k) ∉ flatX d := fun hh => hn (by rw [flatX_cons]; exact List.mem_append_right _ hh)
    unfold insX
    split
    · rename_i hc
      have ih := insX_sorted v k h.tail hn'
      refine ⟨List.pairwise_cons.2 ⟨fun z hz => ?_, ih.vals⟩, fun z hz => ?_⟩
      · rcases insX_vals v k d z hz with h3 | ⟨x, hx, h3⟩
        · rw [h3]; exact hc
        · rw [← h3]; exact h1 x hx
      · rcases List.mem_cons.1 hz with rfl | hz
        · exact h.keys _ List.mem_cons_self
        · exact ih.keys z hz
    · split
      · rename_i hc h0
        have he := cmpR_zero h0
        refine ⟨List.pairwise_cons.2 ⟨fun z hz => by rw [← he]; exact h1 z hz, h2⟩, fun z hz => ?_⟩
        rcases List.mem_cons.1 hz with rfl | hz
        · refine ⟨insL_ne _ _, insL_sorted k (h.keys e List.mem_cons_self).2 fun hk => hn ?_⟩
          exact mem_flatX.2 ⟨e, List.mem_cons_self, he, hk⟩
        · exact h.keys z (List.mem_cons_of_mem _ hz)
      · rename_i hc h0
        have hve : rl v e.1 := by
          rcases rl_tri v e.1 with h | h | h
          · exact h
          · exact absurd (by rw [h]; exact cmpR_refl _) h0
          · exact absurd h hc
        refine ⟨List.pairwise_cons.2 ⟨fun z hz => (List.mem_cons.1 hz).elim (fun e => e ▸ hve) fun hz => rl_trans hve (h1 z hz), h.vals⟩, fun z hz => ?_⟩
        rcases List.mem_cons.1 hz with rfl | hz
        · exact ⟨by simp, List.pairwise_singleton _ _⟩
        · exact h.keys z hz

/-- One key less. -/
def delL (k : Row) : List Row → List Row
  | [] => []
  | x :: xs => if cmpR x k < 0 then x :: delL k xs else if cmpR x k = 0 then xs else x :: xs
/-- One row less. -/
def delX (v k : Row) : XD → XD
  | [] => []
  | e :: d => if cmpR e.1 v < 0 then e :: delX v k d else if cmpR e.1 v = 0 then (if delL k e.2 = [] then d else (v, delL k e.2) :: d) else e :: d
theorem mem_delL (k x : Row) : ∀ {ks : List Row}, ks.Pairwise rl → (x ∈ delL k ks ↔ x ∈ ks ∧ x ≠ k)
  | [], _ => by simp [delL]
  | y :: ks, h => by
    obtain ⟨h1, h2⟩ := List.pairwise_cons.1 h
    unfold delL
    split
    · rename_i hc
      rw [List.mem_cons, mem_delL k x h2, List.mem_cons]
      constructor
      · rintro (rfl | ⟨h3, h4⟩)
        · exact ⟨.inl rfl, fun e => by rw [e, cmpR_refl] at hc; omega⟩
        · exact ⟨.inr h3, h4⟩
      · rintro ⟨rfl | h3, h4⟩
        · exact .inl rfl
        · exact .inr ⟨h3, h4⟩
    · split
      · rename_i hc h0
        have he := cmpR_zero h0
        subst he
        rw [List.mem_cons]
        constructor
        · exact fun h3 => ⟨.inr h3, fun e => rl_irrefl y (e ▸ h1 x h3)⟩
        · rintro ⟨rfl | h3, h4⟩
          · exact absurd rfl h4
          · exact h3
      · rename_i hc h0
        have hky : rl k y := by
          rcases rl_tri k y with h | h | h
          · exact h
          · exact absurd (by rw [h]; exact cmpR_refl _) h0
          · exact absurd h hc
        constructor
        · intro h3
          refine ⟨h3, fun e => ?_⟩
          subst e
          rcases List.mem_cons.1 h3 with e | h3
          · exact rl_irrefl _ (e ▸ hky)
          · exact rl_asymm hky (h1 _ h3)
        · exact fun h3 => h3.1
theorem delL_sub (k : Row) : ∀ ks : List Row, (delL k ks).Sublist ks
  | [] => List.Sublist.slnil
  | y :: ks => by
    unfold delL
    split
    · exact (delL_sub k ks).cons_cons y
    · split
      · exact List.sublist_cons_self y ks
      · exact List.Sublist.refl _
theorem delX_vals (v k : Row) : ∀ (d : XD) (e : XE), e ∈ delX v k d → ∃ x ∈ d, x.1 = e.1
  | [], e, h => by cases h
  | x :: d, e, h => by
    unfold delX at h
    split at h
    · rcases List.mem_cons.1 h with rfl | h
      · exact ⟨_, List.mem_cons_self, rfl⟩
      · obtain ⟨y, hy, h⟩ := delX_vals v k d e h
        exact ⟨y, List.mem_cons_of_mem _ hy, h⟩
    · split at h
      · rename_i h1 h0
        have he := cmpR_zero h0
        split at h
        · exact ⟨e, List.mem_cons_of_mem _ h, rfl⟩
        · rcases List.mem_cons.1 h with rfl | h
          · exact ⟨x, List.mem_cons_self, he⟩
          · exact ⟨e, List.mem_cons_of_mem _ h, rfl⟩
      · exact ⟨e, h, rfl⟩
theorem delX_sorted (v k : Row) : ∀ {d : XD}, SrtX d → SrtX (delX v k d)
  | [], h => h
  | e :: d, h => by
    obtain ⟨h1, h2⟩ := List.pairwise_cons.1 h.vals
    unfold delX
    split
    · have ih := delX_sorted v k h.tail
      refine ⟨List.pairwise_cons.2 ⟨fun z hz => ?_, ih.vals⟩, fun z hz => ?_⟩
      · obtain ⟨x, hx, h3⟩ := delX_vals v k d z hz
        rw [← h3]; exact h1 x hx
      · rcases List.mem_cons.1 hz with rfl | hz
        · exact h.keys _ List.mem_cons_self
        · exact ih.keys z hz
    · split
      · rename_i hc h0
        have he := cmpR_zero h0
        split
        · exact h.tail
        · rename_i hne
          refine ⟨List.pairwise_cons.2 ⟨fun z hz => by rw [← he]; exact h1 z hz, h2⟩, fun z hz => ?_⟩
          rcases List.mem_cons.1 hz with rfl | hz
          · exact ⟨hne, (h.keys e List.mem_cons_self).2.sublist (delL_sub k e.2)⟩
          · exact h.keys z (List.mem_cons_of_mem _ hz)
      · exact h
theorem mem_delX (v k : Row) (p : Row × Row) : ∀ {d : XD}, SrtX d → (p ∈ flatX (delX v k d) ↔ p ∈ flatX d ∧ p ≠ (v, k))
  | [], _ => by simp [delX, flatX]
  | e :: d, h => by
    obtain ⟨h1, h2⟩ := List.pairwise_cons.1 h.vals
    have hv : ∀ x, x ∈ e.2.map (Prod.mk e.1) → x.1 = e.1 := fun x hx => by
      obtain ⟨_, _, rfl⟩ := List.mem_map.1 hx
      rfl
    have hd : ∀ x, x ∈ flatX d → rl e.1 x.1 := fun x hx => by
      obtain ⟨y, hy, h3, _⟩ := mem_flatX.1 hx
      rw [← h3]
      exact h1 y hy
    unfold delX
    split
    · rename_i hc
      rw [flatX_cons, List.mem_append, mem_delX v k p h.tail, flatX_cons, List.mem_append]
      constructor
      · rintro (h3 | ⟨h3, h4⟩)
        · exact ⟨.inl h3, fun e' => by have := hv p h3; rw [e'] at this; simp only at this; rw [this] at hc; rw [cmpR_refl] at hc; omega⟩
        · exact ⟨.inr h3, h4⟩
      · rintro ⟨h3 | h3, h4⟩
        · exact .inl h3
        · exact .inr ⟨h3, h4⟩
    · split
      · rename_i hc h0
        have he := cmpR_zero h0
        have hks := (h.keys e List.mem_cons_self).2
        have hmid : p ∈ (delL k e.2).map (Prod.mk v) ↔ p ∈ e.2.map (Prod.mk e.1) ∧ p ≠ (v, k) := by
          rw [List.mem_map, List.mem_map]
          constructor
          · rintro ⟨x, hx, rfl⟩
            obtain ⟨h3, h4⟩ := (mem_delL k x hks).1 hx
            exact ⟨⟨x, h3, by rw [he]⟩, fun e' => h4 (by injection e')⟩
          · rintro ⟨⟨x, hx, rfl⟩, h4⟩
            exact ⟨x, (mem_delL k x hks).2 ⟨hx, fun e' => h4 (by rw [he, e'])⟩, by rw [he]⟩
        have htl : ∀ x, x ∈ flatX d → x ≠ (v, k) := fun x hx e' => by
          have := hd x hx
          rw [e', he] at this
          exact rl_irrefl _ this
        split
        · rename_i hnil
          rw [flatX_cons, List.mem_append]
          rw [hnil] at hmid
          constructor
          · exact fun h3 => ⟨.inr h3, htl p h3⟩
          · rintro ⟨h3 | h3, h4⟩
            · exact absurd (hmid.2 ⟨h3, h4⟩) (by simp)
            · exact h3
        · rw [flatX_cons, List.mem_append, flatX_cons, List.mem_append]
          show p ∈ (delL k e.2).map (Prod.mk v) ∨ _ ↔ _
          rw [hmid]
          constructor
          · rintro (⟨h3, h4⟩ | h3)
            · exact ⟨.inl h3, h4⟩
            · exact ⟨.inr h3, htl p h3⟩
          · rintro ⟨h3 | h3, h4⟩
            · exact .inl ⟨h3, h4⟩
            · exact .inr h3
      · rename_i hc h0
        have hve : rl v e.1 := by
          rcases rl_tri v e.1 with h | h | h
          · exact h
          · exact absurd (by rw [h]; exact cmpR_refl _) h0
          · exact absurd h hc
        constructor
        · intro h3
          refine ⟨h3, fun e' => ?_⟩
          rw [flatX_cons, List.mem_append] at h3
          rcases h3 with h3 | h3
          · have := hv p h3
            rw [e'] at this
            simp only at this
            rw [← this] at hve
            exact rl_irrefl _ hve
          · have := hd p h3
            rw [e'] at this
            exact rl_asymm hve this
        · exact fun h3 => h3.1

/-- Where the search stands, the insertion goes. -/
theorem insL_at {ks : List Row} {k : Row} {i : Nat} {f : Bool} (h : At (fun x : Row => x) ks k i f) : insL k ks = ks.take i ++ k :: ks.drop i := by
  induction ks generalizing i with
  | nil => simp [insL]
  | cons x ks ih =>
    cases i with
    | zero =>
      have h0 : ¬ cmpR x k < 0 := h.hi x (by simp)
      unfold insL
      rw [if_neg h0]
      rfl
    | succ i =>
      have h1 : cmpR x k < 0 := h.lo x (by simp)
      unfold insL
      rw [if_pos h1, ih ⟨by have := h.le; simpa using this, fun y hy => h.lo y (by simp [hy]), fun y hy => h.hi y (by simpa using hy), by simpa using h.eq⟩]
      rfl
theorem delL_at {ks : List Row} {k : Row} {i : Nat} (h : At (fun x : Row => x) ks k i true) : delL k ks = ks.take i ++ ks.drop (i + 1) := by
  induction ks generalizing i with
  | nil => simp [delL]
  | cons x ks ih =>
    cases i with
    | zero =>
      obtain ⟨y, r, h1, h2⟩ := h.eq.1 rfl
      injection h1 with h1 h3
      have h0 : ¬ cmpR x k < 0 := h.hi x (by simp)
      unfold delL
      rw [if_neg h0, if_pos (by rw [h1, h2]; exact cmpR_refl _)]
      rfl
    | succ i =>
      have h1 : cmpR x k < 0 := h.lo x (by simp)
      unfold delL
      rw [if_pos h1, ih ⟨by have := h.le; simpa using this, fun y hy => h.lo y (by simp [hy]), fun y hy => h.hi y (by simpa using hy), by simpa using h.eq⟩]
      rfl
theorem insX_old {d : XD} {v k : Row} {i : Nat} (h : At (fun x : XE => x.1) d v i true) : ∃ e r, d.drop i = e :: r ∧ e.1 = v ∧ insX v k d = d.take i ++ (v, insL k e.2) :: r := by
  induction d generalizing i with
  | nil =>
    obtain ⟨y, r, h1, _⟩ := h.eq.1 rfl
    simp at h1
  | cons x d ih =>
    cases i with
    | zero =>
      obtain ⟨y, r, h1, h2⟩ := h.eq.1 rfl
      have h0 : ¬ cmpR x.1 v < 0 := h.hi x (by simp)
      injection h1 with h1 h3
      refine ⟨x, d, rfl, by rw [h1]; exact h2, ?_⟩
      unfold insX
      rw [if_neg h0, if_pos (by rw [h1, h2]; exact cmpR_refl _)]
      rfl
    | succ i =>
      have h1 : cmpR x.1 v < 0 := h.lo x (by simp)
      obtain ⟨e, r, e1, e2, e3⟩ := ih (i := i) ⟨by have := h.le; simpa using this, fun y hy => h.lo y (by simp [hy]), fun y hy => h.hi y (by simpa using hy), by simpa using h.eq⟩
      refine ⟨e, r, e1, e2, ?_⟩
      unfold insX
      rw [if_pos h1, e3]
      rfl
theorem insX_new {d : XD} {v k : Row} {i : Nat} (h : At (fun x : XE => x.1) d v i false) : insX v k d = d.take i ++ (v, [k]) :: d.drop i := by
  induction d generalizing i with
  | nil => simp [insX]
  | cons x d ih =>
    cases i with
    | zero =>
      have h0 : ¬ cmpR x.1 v < 0 := h.hi x (by simp)
      unfold insX
      rw [if_neg h0, if_neg fun hz => ?_]
      · rfl
      · exact Bool.noConfusion (h.eq.2 ⟨x, d, rfl, cmpR_zero hz⟩)
    | succ i =>
      have h1 : cmpR x.1 v < 0 := h.lo x (by simp)
      unfold insX
      rw [if_pos h1, ih ⟨by have := h.le; simpa using this, fun y hy => h.lo y (by simp [hy]), fun y hy => h.hi y (by simpa using hy), by simpa using h.eq⟩]
      rfl
theorem delX_at {d : XD} {v k : Row} {i : Nat} (h : At (fun x : XE => x.1) d v i true) : ∃ e r, d.drop i = e :: r ∧ e.1 = v ∧ delX v k d = d.take i ++ (if delL k e.2 = [] then r else (v, delL k e.2) :: r) := by
  induction d generalizing i with
  | nil =>
    obtain ⟨y, r, h1, _⟩ := h.eq.1 rfl
    simp at h1
  | cons x d ih =>
    cases i with
    | zero =>
      obtain ⟨y, r, h1, h2⟩ := h.eq.1 rfl
      have h0 : ¬ cmpR x.1 v < 0 := h.hi x (by simp)
      injection h1 with h1 h3
      refine ⟨x, d, rfl, by rw [h1]; exact h2, ?_⟩
      unfold delX
      rw [if_neg h0, if_pos (by rw [h1, h2]; exact cmpR_refl _)]
      rfl
    | succ i =>
      have h1 : cmpR x.1 v < 0 := h.lo x (by simp)
      obtain ⟨e, r, e1, e2, e3⟩ := ih (i := i) ⟨by have := h.le; simpa using this, fun y hy => h.lo y (by simp [hy]), fun y hy => h.hi y (by simpa using hy), by simpa using h.eq⟩
      refine ⟨e, r, e1, e2, ?_⟩
      unfold delX
      rw [if_pos h1, e3]
      rfl
/-- A key stands under one list of values. -/
def KInj (d : XD) : Prop := ∀ p ∈ flatX d, ∀ q ∈ flatX d, p.2 = q.2 → p.1 = q.1
theorem allKeys_nodup {d : XD} (h : SrtX d) (hk : KInj d) : (d.flatMap Prod.snd).Nodup := by
  have e : d.flatMap Prod.snd = (flatX d).map Prod.snd := by
    unfold flatX
    rw [List.map_flatMap]
    congr 1
    funext x
    rw [List.map_map]
    exact (List.map_id _).symm
  rw [e]
  have hn := sorted_nodup pl_irrefl (flatX_sorted h)
  rw [List.nodup_iff_pairwise_ne, List.pairwise_map]
  refine hn.imp_of_mem fun {a b} ha hb hne he => hne ?_
  obtain ⟨a1, a2⟩ := a
  obtain ⟨b1, b2⟩ := b
  have h1 := hk _ ha _ hb he
  simp only at h1 he
  rw [h1, he]
end Go.Proofs.Ytefifkleamiabaa
