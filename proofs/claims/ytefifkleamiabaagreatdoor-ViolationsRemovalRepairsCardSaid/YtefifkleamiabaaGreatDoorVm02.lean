/-
  Keys and entries in memory; the binary search, plain. No program's walk.
  What a secondary index holds, plain. No program in sight.
  Tables, columns and the entries of a secondary index in memory. No program's walk.
  Schemas in memory; the first index at which a test holds. No program's walk.
  The walks of FindTable, FindColumn.
  The walk of schema.ValidName, where the name is valid.
-/
import Derived.Test.YtefifkleamiabaaGreatDoorVm01
import Derived.Deep.QuietTactic
import Derived.Lib.ConvBytes
namespace Go.Proofs.YtefifkleamiabaaGreatDoor
open Go.RowKit

/-- A row's header and what it reads as. -/
structure Key where
  A : Option Addr
  c : Nat
  row : Row
def Key.cs (k : Key) : List Value := [.slice k.A k.row.length k.c]
/-- An entry: key and integer. -/
structure Ent where
  key : Key
  val : Int
def Ent.cs (e : Ent) : List Value := [.slice e.key.A e.key.row.length e.key.c, .int .i64 e.val]
theorem keyLay : Lay 1 Key.cs := ⟨fun _ => rfl, fun x c hc => by simp [Key.cs] at hc; subst hc; rfl⟩
theorem entLay : Lay 2 Ent.cs := ⟨fun _ => rfl, fun x c hc => by simp [Ent.cs] at hc; rcases hc with rfl | rfl <;> rfl⟩

/-- The row lies in blocks of K. -/
structure KOk (K : Nat → Prop) (w : World) (k : Key) : Prop where
  el : Elems 3 Val.cs w K k.A k.row
  len : k.row.length ≤ 12
theorem KOk.keep {K : Nat → Prop} {w w' : World} {k : Key} (h : KOk K w k) (hk : Keeps K w w') : KOk K w' k := ⟨h.el.keep hk, h.len⟩
theorem KOk.more {K K' : Nat → Prop} {w : World} {k : Key} (h : KOk K w k) (hk : ∀ i, K i → K' i) : KOk K' w k := ⟨h.el.more hk, h.len⟩

theorem Elems.key {w : World} {S : Nat → Prop} {A : Option Addr} {r : List Key} {k : Nat} (h : Elems 1 Key.cs w S A r) (hk : k < r.length) :
    ∃ b off, A = some ⟨b, off, none⟩ ∧ S b ∧ w.cell? ⟨b, off + k, none⟩ = some (.slice r[k].A r[k].row.length r[k].c) := by
  obtain ⟨b, off, e, hb, hc⟩ := h.at_ hk
  exact ⟨b, off, e, hb, by simpa using hc 0 _ rfl⟩
theorem Elems.ent {w : World} {S : Nat → Prop} {A : Option Addr} {r : List Ent} {k : Nat} (h : Elems 2 Ent.cs w S A r) (hk : k < r.length) :
    ∃ b off, A = some ⟨b, off, none⟩ ∧ S b ∧ w.cell? ⟨b, off + k * 2, none⟩ = some (.slice r[k].key.A r[k].key.row.length r[k].key.c) ∧ w.cell? ⟨b, off + k * 2 + 1, none⟩ = some (.int .i64 r[k].val) := by
  obtain ⟨b, off, e, hb, hc⟩ := h.at_ hk
  exact ⟨b, off, e, hb, hc 0 _ rfl, hc 1 _ rfl⟩

section
variable {α : Type}
/-- The search's state. -/
structure Bin (lt : Nat → Prop) (n i j : Nat) : Prop where
  le : i ≤ j ∧ j ≤ n
  lo : ∀ k, k < i → lt k
  hi : ∀ k, j ≤ k → k < n → ¬ lt k
theorem Bin.first (lt : Nat → Prop) (n : Nat) : Bin lt n 0 n := ⟨⟨Nat.zero_le _, Nat.le_refl _⟩, fun k h => by omega, fun k h1 h2 => by omega⟩
theorem Bin.up {lt : Nat → Prop} {n i j h : Nat} (B : Bin lt n i j) (hm : ∀ a b, a < b → b < n → lt b → lt a) (hh : i ≤ h ∧ h < j) (hl : lt h) : Bin lt n (h + 1) j := by
  obtain ⟨l1, l2⟩ := B.le
  refine ⟨⟨by omega, l2⟩, fun k hk => ?_, B.hi⟩
  by_cases hkh : k = h
  · rw [hkh]; exact hl
  · exact hm k h (by omega) (by omega) hl
theorem Bin.down {lt : Nat → Prop} {n i j h : Nat} (B : Bin lt n i j) (hm : ∀ a b, a < b → b < n → lt b → lt a) (hh : i ≤ h ∧ h < j) (hl : ¬ lt h) : Bin lt n i h := by
  obtain ⟨l1, l2⟩ := B.le
  refine ⟨⟨hh.1, by omega⟩, B.lo, fun k hk hkn => ?_⟩
  by_cases hkh : k = h
  · rw [hkh]; exact hl
  · exact fun h2 => hl (hm h k (by omega) hkn h2)

/-- Where t goes among xs. -/
structure At (row : α → Row) (xs : List α) (t : Row) (i : Nat) (fnd : Bool) : Prop where
  le : i ≤ xs.length
  lo : ∀ x ∈ xs.take i, rl (row x) t
  hi : ∀ x ∈ xs.drop i, ¬ rl (row x) t
  eq : fnd = true ↔ ∃ x r, xs.drop i = x :: r ∧ row x = t
def LtAt (row : α → Row) (xs : List α) (t : Row) (k : Nat) : Prop := ∃ x, xs[k]? = some x ∧ rl (row x) t
theorem LtAt.mono {row : α → Row} {xs : List α} {t : Row} (hs : xs.Pairwise fun a b => rl (row a) (row b)) : ∀ a b, a < b → b < xs.length → LtAt row xs t b → LtAt row xs t a := by
  rintro a b hab hb ⟨x, hx, hl⟩
  have ha : a < xs.length := by omega
  rw [List.getElem?_eq_getElem hb] at hx
  injection hx with hx
  subst hx
  exact ⟨xs[a], List.getElem?_eq_getElem ha, rl_trans (List.pairwise_iff_getElem.1 hs a b ha hb hab) hl⟩
theorem LtAt.iff {row : α → Row} {xs : List α} {t : Row} {k : Nat} (hk : k < xs.length) : LtAt row xs t k ↔ rl (row xs[k]) t := by
  constructor
  · rintro ⟨x, hx, h⟩
    rw [List.getElem?_eq_getElem hk] at hx
    injection hx with hx
    subst hx
    exact h
  · exact fun h => ⟨_, List.getElem?_eq_getElem hk, h⟩
theorem Bin.at_ {row : α → Row} {xs : List α} {t : Row} {i : Nat} {fnd : Bool} (B : Bin (LtAt row xs t) xs.length i i) (hf : fnd = true ↔ ∃ h : i < xs.length, row xs[i] = t) : At row xs t i fnd := by
  obtain ⟨_, l2⟩ := B.le
  refine ⟨l2, fun x hx => ?_, fun x hx => ?_, ?_⟩
  · obtain ⟨k, hk, rfl⟩ := List.getElem_of_mem hx
    rw [List.length_take] at hk
    rw [List.getElem_take]
    exact (LtAt.iff (by omega)).1 (B.lo k (by omega))
  · obtain ⟨k, hk, rfl⟩ := List.getElem_of_mem hx
    rw [List.length_drop] at hk
    rw [List.getElem_drop]
    exact fun h => B.hi (i + k) (by omega) (by omega) ((LtAt.iff (by omega)).2 h)
  · rw [hf]
    constructor
    · rintro ⟨h, e⟩
      exact ⟨xs[i], xs.drop (i + 1), List.drop_eq_getElem_cons h, e⟩
    · rintro ⟨x, r, h, e⟩
      have hi : i < xs.length := by
        rcases Nat.lt_or_ge i xs.length with h' | h'
        · exact h'
        · rw [List.drop_eq_nil_of_le h'] at h
          cases h
      rw [List.drop_eq_getElem_cons hi] at h
      injection h with h _
      exact ⟨hi, by rw [h]; exact e⟩
/-- What BinarySearchFunc leaves. -/
def BsPost (w : World) (row : α → Row) (xs : List α) (t : Row) (e : Ending) (w' : World) : Prop := ∃ (i : Nat) (fnd : Bool), e = .returned (.tuple #[.int .i64 i, .bool fnd]) ∧ At row xs t i fnd ∧ Below w.heap.size w w'
end

end Go.Proofs.YtefifkleamiabaaGreatDoor

namespace Go.Proofs.YtefifkleamiabaaGreatDoor
open Go.RowKit

/-- Two lists sorted by one strict order with the same members are one. -/
theorem sorted_ext {α : Type} {R : α → α → Prop} (hi : ∀ a, ¬ R a a) (ha : ∀ a b, R a b → ¬ R b a) : ∀ {xs ys : List α}, xs.Pairwise R → ys.Pairwise R → (∀ k, k ∈ xs ↔ k ∈ ys) → xs = ys
  | [], [], _, _, _ => rfl
  | [], y :: ys, _, _, h => absurd ((h y).2 List.mem_cons_self) (by simp)
  | x :: xs, [], _, _, h => absurd ((h x).1 List.mem_cons_self) (by simp)
  | x :: xs, y :: ys, hx, hy, h => by
    obtain ⟨x1, x2⟩ := List.pairwise_cons.1 hx
    obtain ⟨y1, y2⟩ := List.pairwise_cons.1 hy
    have hxy : x = y := by
      rcases List.mem_cons.1 ((h x).1 List.mem_cons_self) with e | h1
      · exact e
      · rcases List.mem_cons.1 ((h y).2 List.mem_cons_self) with e | h2
        · exact e.symm
        · exact absurd (y1 x h1) (ha _ _ (x1 y h2))
    subst hxy
    rw [sorted_ext hi ha x2 y2 fun k => ⟨fun hk => ?_, fun hk => ?_⟩]
    · rcases List.mem_cons.1 ((h k).1 (List.mem_cons_of_mem _ hk)) with e | h1
      · exact absurd (e ▸ x1 k hk) (hi _)
      · exact h1
    · rcases List.mem_cons.1 ((h k).2 (List.mem_cons_of_mem _ hk)) with e | h1
      · exact absurd (e ▸ y1 k hk) (hi _)
      · exact h1
theorem sorted_nodup {α : Type} {R : α → α → Prop} (hi : ∀ a, ¬ R a a) {xs : List α} (h : xs.Pairwise R) : xs.Nodup := h.imp fun {a b} hab (e : a = b) => by subst e; exact hi _ hab

/-- An entry: values, keys. -/
abbrev XE := Row × List Row
abbrev XD := List XE
def flatX (d : XD) : List (Row × Row) := d.flatMap fun e => e.2.map (Prod.mk e.1)
def pl (a b : Row × Row) : Prop := rl a.1 b.1 ∨ (a.1 = b.1 ∧ rl a.2 b.2)
theorem pl_irrefl (a : Row × Row) : ¬ pl a a := fun h => h.elim (rl_irrefl _) fun h => rl_irrefl _ h.2
theorem pl_asymm (a b : Row × Row) (h : pl a b) : ¬ pl b a := by
  rintro (h2 | ⟨h2, h3⟩)
  · rcases h with h | ⟨h, _⟩
    · exact rl_asymm h h2
    · rw [h] at h2; exact rl_irrefl _ h2
  · rcases h with h | ⟨h, h4⟩
    · rw [h2] at h; exact rl_irrefl _ h
    · exact rl_asymm h4 h3
structure SrtX (d : XD) : Prop where
  vals : d.Pairwise fun a b => rl a.1 b.1
  keys : ∀ e ∈ d, e.2 ≠ [] ∧ e.2.Pairwise rl
theorem mem_flatX {d : XD} {p : Row × Row} : p ∈ flatX d ↔ ∃ e ∈ d, e.1 = p.1 ∧ p.2 ∈ e.2 := by
  unfold flatX
  rw [List.mem_flatMap]
  constructor
  · rintro ⟨e, he, hp⟩
    obtain ⟨k, hk, rfl⟩ := List.mem_map.1 hp
    exact ⟨e, he, rfl, hk⟩
  · rintro ⟨e, he, h1, h2⟩
    exact ⟨e, he, List.mem_map.2 ⟨p.2, h2, by rw [h1]⟩⟩
theorem flatX_sorted {d : XD} (h : SrtX d) : (flatX d).Pairwise pl := by
  unfold flatX
  rw [List.pairwise_flatMap]
  refine ⟨fun e he => ?_, h.vals.imp fun {a b} hab x hx y hy => ?_⟩
  · rw [List.pairwise_map]
    exact (h.keys e he).2.imp fun hk => .inr ⟨rfl, hk⟩
  · obtain ⟨k, _, rfl⟩ := List.mem_map.1 hx
    obtain ⟨k', _, rfl⟩ := List.mem_map.1 hy
    exact .inl hab
theorem flatX_ext {d d' : XD} (h : SrtX d) (h' : SrtX d') (hm : ∀ p, p ∈ flatX d ↔ p ∈ flatX d') : flatX d = flatX d' := sorted_ext pl_irrefl pl_asymm (flatX_sorted h) (flatX_sorted h') hm
theorem flatX_cons (e : XE) (d : XD) : flatX (e :: d) = e.2.map (Prod.mk e.1) ++ flatX d := rfl
theorem flatX_app (a b : XD) : flatX (a ++ b) = flatX a ++ flatX b := List.flatMap_append
theorem SrtX.tail {e : XE} {d : XD} (h : SrtX (e :: d)) : SrtX d := ⟨(List.pairwise_cons.1 h.vals).2, fun x hx => h.keys x (List.mem_cons_of_mem _ hx)⟩
theorem SrtX.len {d : XD} (h : SrtX d) : d.length ≤ (flatX d).length := by
  induction d with
  | nil => simp [flatX]
  | cons e d ih =>
    have h1 := (h.keys e List.mem_cons_self).1
    have h2 : 0 < e.2.length := List.length_pos_iff.2 h1
    have h3 := ih h.tail
    rw [flatX_cons, List.length_append, List.length_map, List.length_cons]
    omega
theorem flatX_keys_len {d : XD} {e : XE} (he : e ∈ d) : e.2.length ≤ (flatX d).length := by
  induction d with
  | nil => cases he
  | cons x d ih =>
    rw [flatX_cons, List.length_append, List.length_map]
    rcases List.mem_cons.1 he with rfl | h
    · omega
    · have := ih h; omega

/-- One key more. -/
def insL (k : Row) : List Row → List Row
  | [] => [k]
  | x :: xs => if cmpR x k < 0 then x :: insL k xs else k :: x :: xs
/-- One row more. -/
def insX (v k : Row) : XD → XD
  | [] => [(v, [k])]
  | e :: d => if cmpR e.1 v < 0 then e :: insX v k d else if cmpR e.1 v = 0 then (v, insL k e.2) :: d else (v, [k]) :: e :: d
theorem mem_insL (k x : Row) : ∀ ks, x ∈ insL k ks ↔ x = k ∨ x ∈ ks
  | [] => by simp [insL]
  | y :: ks => by
    unfold insL
    split
    · rw [List.mem_cons, mem_insL k x ks, List.mem_cons]
      constructor
      · rintro (h | h | h) <;> simp [h]
      · rintro (h | h | h) <;> simp [h]
    · simp
theorem insL_len (k : Row) : ∀ ks, (insL k ks).length = ks.length + 1
  | [] => rfl
  | y :: ks => by
    unfold insL
    split
    · rw [List.length_cons, insL_len k ks, List.length_cons]
    · rfl
theorem insL_ne (k : Row) (ks : List Row) : insL k ks ≠ [] := fun h => by have := insL_len k ks; rw [h] at this; cases this
theorem insL_sorted (k : Row) : ∀ {ks : List Row}, ks.Pairwise rl → k ∉ ks → (insL k ks).Pairwise rl
  | [], _, _ => List.pairwise_singleton _ _
  | y :: ks, h, hk => by
    obtain ⟨h1, h2⟩ := List.pairwise_cons.1 h
    rw [List.mem_cons, not_or] at hk
    unfold insL
    split
    · rename_i hc
      refine List.pairwise_cons.2 ⟨fun z hz => ?_, insL_sorted k h2 hk.2⟩
      rcases (mem_insL k z ks).1 hz with rfl | hz
      · exact hc
      · exact h1 z hz
    · rename_i hc
      have hky : rl k y := by
        rcases rl_tri k y with h | h | h
        · exact h
        · exact absurd h hk.1
        · exact absurd h hc
      exact List.pairwise_cons.2 ⟨fun z hz => (List.mem_cons.1 hz).elim (fun e => e ▸ hky) fun hz => rl_trans hky (h1 z hz), h⟩
theorem mem_insX (v k : Row) (p : Row × Row) : ∀ d, p ∈ flatX (insX v k d) ↔ p = (v, k) ∨ p ∈ flatX d
  | [] => by
    show p ∈ flatX [(v, [k])] ↔ _
    simp [flatX]
  | e :: d => by
    unfold insX
    split
    · rw [flatX_cons, List.mem_append, mem_insX v k p d, flatX_cons, List.mem_append]
      constructor
      · rintro (h | h | h) <;> simp [h]
      · rintro (h | h | h) <;> simp [h]
    · split
      · rename_i h1 h2
        have he := cmpR_zero h2
        rw [flatX_cons, List.mem_append, flatX_cons, List.mem_append]
        have : p ∈ (insL k e.2).map (Prod.mk v) ↔ p = (v, k) ∨ p ∈ e.2.map (Prod.mk e.1) := by
          rw [List.mem_map, List.mem_map]
          constructor
          · rintro ⟨x, hx, rfl⟩
            rcases (mem_insL k x e.2).1 hx with rfl | hx
            · exact .inl rfl
            · exact .inr ⟨x, hx, by rw [he]⟩
          · rintro (rfl | ⟨x, hx, rfl⟩)
            · exact ⟨k, (mem_insL k k e.2).2 (.inl rfl), rfl⟩
            · exact ⟨x, (mem_insL k x e.2).2 (.inr hx), by rw [he]⟩
        show p ∈ (insL k e.2).map (Prod.mk v) ∨ _ ↔ _
        rw [this, or_assoc]
      · rw [flatX_cons, List.mem_append]
        show p ∈ [(v, k)] ∨ _ ↔ _
        rw [List.mem_singleton]
theorem insX_flen (v k : Row) : ∀ d, (flatX (insX v k d)).length = (flatX d).length + 1
  | [] => rfl
  | e :: d => by
    unfold insX
    split
    · rw [flatX_cons, List.length_append, insX_flen v k d, flatX_cons, List.length_append]
      omega
    · split
      · rw [flatX_cons, List.length_append, List.length_map, flatX_cons, List.length_append, List.length_map]
        show (insL k e.2).length + _ = _
        rw [insL_len]
        omega
      · rw [flatX_cons, List.length_append, List.length_map]
        show 1 + _ = _
        omega
theorem insX_vals (v k : Row) : ∀ (d : XD) (e : XE), e ∈ insX v k d → e.1 = v ∨ ∃ x ∈ d, x.1 = e.1
  | [], e, h => by
    rw [show insX v k [] = [(v, [k])] from rfl, List.mem_singleton] at h
    exact .inl (by rw [h])
  | x :: d, e, h => by
    unfold insX at h
    split at h
    · rcases List.mem_cons.1 h with rfl | h
      · exact .inr ⟨_, List.mem_cons_self, rfl⟩
      · rcases insX_vals v k d e h with h | ⟨y, hy, h⟩
        · exact .inl h
        · exact .inr ⟨y, List.mem_cons_of_mem _ hy, h⟩
    · split at h
      · rcases List.mem_cons.1 h with rfl | h
        · exact .inl rfl
        · exact .inr ⟨e, List.mem_cons_of_mem _ h, rfl⟩
      · rcases List.mem_cons.1 h with rfl | h
        · exact .inl rfl
        · exact .inr ⟨e, h, rfl⟩
theorem insX_sorted (v k : Row) : ∀ {d : XD}, SrtX d → (v, k) ∉ flatX d → SrtX (insX v k d)
  | [], _, _ => ⟨List.pairwise_singleton _ _, fun e he => by
      rw [show insX v k [] = [(v, [k])] from rfl, List.mem_singleton] at he
      subst he
      exact ⟨by simp, List.pairwise_singleton _ _⟩⟩
  | e :: d, h, hn => by
    obtain ⟨h1, h2⟩ := List.pairwise_cons.1 h.vals
    have hn' : (v, k) ∉ flatX d := fun hh => hn (by rw [flatX_cons]; exact List.mem_append_right _ hh)
    unfold insX
    split
    · rename_i hc
      have ih := insX_sorted v k h.tail hn'
      refine ⟨List.pairwise_cons.2 ⟨fun z hz => ?_, ih.vals⟩, fun z hz => ?_⟩
      · rcases insX_vals v k d z hz with h3 | ⟨x, hx, h3⟩
        · rw [h3]; exact hc
        · rw [← h3]; exact h1 x hx
      · rcases List.mem_cons.1 hz with rfl | hz
        · exact h.keys _ List.mem_cons_self
        · exact ih.keys z hz
    · split
      · rename_i hc h0
        have he := cmpR_zero h0
        refine ⟨List.pairwise_cons.2 ⟨fun z hz => by rw [← he]; exact h1 z hz, h2⟩, fun z hz => ?_⟩
        rcases List.mem_cons.1 hz with rfl | hz
        · refine ⟨insL_ne _ _, insL_sorted k (h.keys e List.mem_cons_self).2 fun hk => hn ?_⟩
          exact mem_flatX.2 ⟨e, List.mem_cons_self, he, hk⟩
        · exact h.keys z (List.mem_cons_of_mem _ hz)
      · rename_i hc h0
        have hve : rl v e.1 := by
          rcases rl_tri v e.1 with h | h | h
          · exact h
          · exact absurd (by rw [h]; exact cmpR_refl _) h0
          · exact absurd h hc
        refine ⟨List.pairwise_cons.2 ⟨fun z hz => (List.mem_cons.1 hz).elim (fun e => e ▸ hve) fun hz => rl_trans hve (h1 z hz), h.vals⟩, fun z hz => ?_⟩
        rcases List.mem_cons.1 hz with rfl | hz
        · exact ⟨by simp, List.pairwise_singleton _ _⟩
        · exact h.keys z hz

/-- One key less. -/
def delL (k : Row) : List Row → List Row
  | [] => []
  | x :: xs => if cmpR x k < 0 then x :: delL k xs else if cmpR x k = 0 then xs else x :: xs
/-- One row less. -/
def delX (v k : Row) : XD → XD
  | [] => []
  | e :: d => if cmpR e.1 v < 0 then e :: delX v k d else if cmpR e.1 v = 0 then (if delL k e.2 = [] then d else (v, delL k e.2) :: d) else e :: d
theorem mem_delL (k x : Row) : ∀ {ks : List Row}, ks.Pairwise rl → (x ∈ delL k ks ↔ x ∈ ks ∧ x ≠ k)
  | [], _ => by simp [delL]
  | y :: ks, h => by
    obtain ⟨h1, h2⟩ := List.pairwise_cons.1 h
    unfold delL
    split
    · rename_i hc
      rw [List.mem_cons, mem_delL k x h2, List.mem_cons]
      constructor
      · rintro (rfl | ⟨h3, h4⟩)
        · exact ⟨.inl rfl, fun e => by rw [e, cmpR_refl] at hc; omega⟩
        · exact ⟨.inr h3, h4⟩
      · rintro ⟨rfl | h3, h4⟩
        · exact .inl rfl
        · exact .inr ⟨h3, h4⟩
    · split
      · rename_i hc h0
        have he := cmpR_zero h0
        subst he
        rw [List.mem_cons]
        constructor
        · exact fun h3 => ⟨.inr h3, fun e => rl_irrefl y (e ▸ h1 x h3)⟩
        · rintro ⟨rfl | h3, h4⟩
          · exact absurd rfl h4
          · exact h3
      · rename_i hc h0
        have hky : rl k y := by
          rcases rl_tri k y with h | h | h
          · exact h
          · exact absurd (by rw [h]; exact cmpR_refl _) h0
          · exact absurd h hc
        constructor
        · intro h3
          refine ⟨h3, fun e => ?_⟩
          subst e
          rcases List.mem_cons.1 h3 with e | h3
          · exact rl_irrefl _ (e ▸ hky)
          · exact rl_asymm hky (h1 _ h3)
        · exact fun h3 => h3.1
theorem delL_sub (k : Row) : ∀ ks : List Row, (delL k ks).Sublist ks
  | [] => List.Sublist.slnil
  | y :: ks => by
    unfold delL
    split
    · exact (delL_sub k ks).cons_cons y
    · split
      · exact List.sublist_cons_self y ks
      · exact List.Sublist.refl _
theorem delX_vals (v k : Row) : ∀ (d : XD) (e : XE), e ∈ delX v k d → ∃ x ∈ d, x.1 = e.1
  | [], e, h => by cases h
  | x :: d, e, h => by
    unfold delX at h
    split at h
    · rcases List.mem_cons.1 h with rfl | h
      · exact ⟨_, List.mem_cons_self, rfl⟩
      · obtain ⟨y, hy, h⟩ := delX_vals v k d e h
        exact ⟨y, List.mem_cons_of_mem _ hy, h⟩
    · split at h
      · rename_i h1 h0
        have he := cmpR_zero h0
        split at h
        · exact ⟨e, List.mem_cons_of_mem _ h, rfl⟩
        · rcases List.mem_cons.1 h with rfl | h
          · exact ⟨x, List.mem_cons_self, he⟩
          · exact ⟨e, List.mem_cons_of_mem _ h, rfl⟩
      · exact ⟨e, h, rfl⟩
theorem delX_sorted (v k : Row) : ∀ {d : XD}, SrtX d → SrtX (delX v k d)
  | [], h => h
  | e :: d, h => by
    obtain ⟨h1, h2⟩ := List.pairwise_cons.1 h.vals
    unfold delX
    split
    · have ih := delX_sorted v k h.tail
      refine ⟨List.pairwise_cons.2 ⟨fun z hz => ?_, ih.vals⟩, fun z hz => ?_⟩
      · obtain ⟨x, hx, h3⟩ := delX_vals v k d z hz
        rw [← h3]; exact h1 x hx
      · rcases List.mem_cons.1 hz with rfl | hz
        · exact h.keys _ List.mem_cons_self
        · exact ih.keys z hz
    · split
      · rename_i hc h0
        have he := cmpR_zero h0
        split
        · exact h.tail
        · rename_i hne
          refine ⟨List.pairwise_cons.2 ⟨fun z hz => by rw [← he]; exact h1 z hz, h2⟩, fun z hz => ?_⟩
          rcases List.mem_cons.1 hz with rfl | hz
          · exact ⟨hne, (h.keys e List.mem_cons_self).2.sublist (delL_sub k e.2)⟩
          · exact h.keys z (List.mem_cons_of_mem _ hz)
      · exact h
theorem mem_delX (v k : Row) (p : Row × Row) : ∀ {d : XD}, SrtX d → (p ∈ flatX (delX v k d) ↔ p ∈ flatX d ∧ p ≠ (v, k))
  | [], _ => by simp [delX, flatX]
  | e :: d, h => by
    obtain ⟨h1, h2⟩ := List.pairwise_cons.1 h.vals
    have hv : ∀ x, x ∈ e.2.map (Prod.mk e.1) → x.1 = e.1 := fun x hx => by
      obtain ⟨_, _, rfl⟩ := List.mem_map.1 hx
      rfl
    have hd : ∀ x, x ∈ flatX d → rl e.1 x.1 := fun x hx => by
      obtain ⟨y, hy, h3, _⟩ := mem_flatX.1 hx
      rw [← h3]
      exact h1 y hy
    unfold delX
    split
    · rename_i hc
      rw [flatX_cons, List.mem_append, mem_delX v k p h.tail, flatX_cons, List.mem_append]
      constructor
      · rintro (h3 | ⟨h3, h4⟩)
        · exact ⟨.inl h3, fun e' => by have := hv p h3; rw [e'] at this; simp only at this; rw [this] at hc; rw [cmpR_refl] at hc; omega⟩
        · exact ⟨.inr h3, h4⟩
      · rintro ⟨h3 | h3, h4⟩
        · exact .inl h3
        · exact .inr ⟨h3, h4⟩
    · split
      · rename_i hc h0
        have he := cmpR_zero h0
        have hks := (h.keys e List.mem_cons_self).2
        have hmid : p ∈ (delL k e.2).map (Prod.mk v) ↔ p ∈ e.2.map (Prod.mk e.1) ∧ p ≠ (v, k) := by
          rw [List.mem_map, List.mem_map]
          constructor
          · rintro ⟨x, hx, rfl⟩
            obtain ⟨h3, h4⟩ := (mem_delL k x hks).1 hx
            exact ⟨⟨x, h3, by rw [he]⟩, fun e' => h4 (by injection e')⟩
          · rintro ⟨⟨x, hx, rfl⟩, h4⟩
            exact ⟨x, (mem_delL k x hks).2 ⟨hx, fun e' => h4 (by rw [he, e'])⟩, by rw [he]⟩
        have htl : ∀ x, x ∈ flatX d → x ≠ (v, k) := fun x hx e' => by
          have := hd x hx
          rw [e', he] at this
          exact rl_irrefl _ this
        split
        · rename_i hnil
          rw [flatX_cons, List.mem_append]
          rw [hnil] at hmid
          constructor
          · exact fun h3 => ⟨.inr h3, htl p h3⟩
          · rintro ⟨h3 | h3, h4⟩
            · exact absurd (hmid.2 ⟨h3, h4⟩) (by simp)
            · exact h3
        · rw [flatX_cons, List.mem_append, flatX_cons, List.mem_append]
          show p ∈ (delL k e.2).map (Prod.mk v) ∨ _ ↔ _
          rw [hmid]
          constructor
          · rintro (⟨h3, h4⟩ | h3)
            · exact ⟨.inl h3, h4⟩
            · exact ⟨.inr h3, htl p h3⟩
          · rintro ⟨h3 | h3, h4⟩
            · exact .inl ⟨h3, h4⟩
            · exact .inr h3
      · rename_i hc h0
        have hve : rl v e.1 := by
          rcases rl_tri v e.1 with h | h | h
          · exact h
          · exact absurd (by rw [h]; exact cmpR_refl _) h0
          · exact absurd h hc
        constructor
        · intro h3
          refine ⟨h3, fun e' => ?_⟩
          rw [flatX_cons, List.mem_append] at h3
          rcases h3 with h3 | h3
          · have := hv p h3
            rw [e'] at this
            simp only at this
            rw [← this] at hve
            exact rl_irrefl _ hve
          · have := hd p h3
            rw [e'] at this
            exact rl_asymm hve this
        · exact fun h3 => h3.1

/-- Where the search stands, the insertion goes. -/
theorem insL_at {ks : List Row} {k : Row} {i : Nat} {f : Bool} (h : At (fun x : Row => x) ks k i f) : insL k ks = ks.take i ++ k :: ks.drop i := by
  induction ks generalizing i with
  | nil => simp [insL]
  | cons x ks ih =>
    cases i with
    | zero =>
      have h0 : ¬ cmpR x k < 0 := h.hi x (by simp)
      unfold insL
      rw [if_neg h0]
      rfl
    | succ i =>
      have h1 : cmpR x k < 0 := h.lo x (by simp)
      unfold insL
      rw [if_pos h1, ih ⟨by have := h.le; simpa using this, fun y hy => h.lo y (by simp [hy]), fun y hy => h.hi y (by simpa using hy), by simpa using h.eq⟩]
      rfl
theorem delL_at {ks : List Row} {k : Row} {i : Nat} (h : At (fun x : Row => x) ks k i true) : delL k ks = ks.take i ++ ks.drop (i + 1) := by
  induction ks generalizing i with
  | nil => simp [delL]
  | cons x ks ih =>
    cases i with
    | zero =>
      obtain ⟨y, r, h1, h2⟩ := h.eq.1 rfl
      injection h1 with h1 h3
      have h0 : ¬ cmpR x k < 0 := h.hi x (by simp)
      unfold delL
      rw [if_neg h0, if_pos (by rw [h1, h2]; exact cmpR_refl _)]
      rfl
    | succ i =>
      have h1 : cmpR x k < 0 := h.lo x (by simp)
      unfold delL
      rw [if_pos h1, ih ⟨by have := h.le; simpa using this, fun y hy => h.lo y (by simp [hy]), fun y hy => h.hi y (by simpa using hy), by simpa using h.eq⟩]
      rfl
theorem insX_old {d : XD} {v k : Row} {i : Nat} (h : At (fun x : XE => x.1) d v i true) : ∃ e r, d.drop i = e :: r ∧ e.1 = v ∧ insX v k d = d.take i ++ (v, insL k e.2) :: r := by
  induction d generalizing i with
  | nil =>
    obtain ⟨y, r, h1, _⟩ := h.eq.1 rfl
    simp at h1
  | cons x d ih =>
    cases i with
    | zero =>
      obtain ⟨y, r, h1, h2⟩ := h.eq.1 rfl
      have h0 : ¬ cmpR x.1 v < 0 := h.hi x (by simp)
      injection h1 with h1 h3
      refine ⟨x, d, rfl, by rw [h1]; exact h2, ?_⟩
      unfold insX
      rw [if_neg h0, if_pos (by rw [h1, h2]; exact cmpR_refl _)]
      rfl
    | succ i =>
      have h1 : cmpR x.1 v < 0 := h.lo x (by simp)
      obtain ⟨e, r, e1, e2, e3⟩ := ih (i := i) ⟨by have := h.le; simpa using this, fun y hy => h.lo y (by simp [hy]), fun y hy => h.hi y (by simpa using hy), by simpa using h.eq⟩
      refine ⟨e, r, e1, e2, ?_⟩
      unfold insX
      rw [if_pos h1, e3]
      rfl
theorem insX_new {d : XD} {v k : Row} {i : Nat} (h : At (fun x : XE => x.1) d v i false) : insX v k d = d.take i ++ (v, [k]) :: d.drop i := by
  induction d generalizing i with
  | nil => simp [insX]
  | cons x d ih =>
    cases i with
    | zero =>
      have h0 : ¬ cmpR x.1 v < 0 := h.hi x (by simp)
      unfold insX
      rw [if_neg h0, if_neg fun hz => ?_]
      · rfl
      · exact Bool.noConfusion (h.eq.2 ⟨x, d, rfl, cmpR_zero hz⟩)
    | succ i =>
      have h1 : cmpR x.1 v < 0 := h.lo x (by simp)
      unfold insX
      rw [if_pos h1, ih ⟨by have := h.le; simpa using this, fun y hy => h.lo y (by simp [hy]), fun y hy => h.hi y (by simpa using hy), by simpa using h.eq⟩]
      rfl
theorem delX_at {d : XD} {v k : Row} {i : Nat} (h : At (fun x : XE => x.1) d v i true) : ∃ e r, d.drop i = e :: r ∧ e.1 = v ∧ delX v k d = d.take i ++ (if delL k e.2 = [] then r else (v, delL k e.2) :: r) := by
  induction d generalizing i with
  | nil =>
    obtain ⟨y, r, h1, _⟩ := h.eq.1 rfl
    simp at h1
  | cons x d ih =>
    cases i with
    | zero =>
      obtain ⟨y, r, h1, h2⟩ := h.eq.1 rfl
      have h0 : ¬ cmpR x.1 v < 0 := h.hi x (by simp)
      injection h1 with h1 h3
      refine ⟨x, d, rfl, by rw [h1]; exact h2, ?_⟩
      unfold delX
      rw [if_neg h0, if_pos (by rw [h1, h2]; exact cmpR_refl _)]
      rfl
    | succ i =>
      have h1 : cmpR x.1 v < 0 := h.lo x (by simp)
      obtain ⟨e, r, e1, e2, e3⟩ := ih (i := i) ⟨by have := h.le; simpa using this, fun y hy => h.lo y (by simp [hy]), fun y hy => h.hi y (by simpa using hy), by simpa using h.eq⟩
      refine ⟨e, r, e1, e2, ?_⟩
      unfold delX
      rw [if_pos h1, e3]
      rfl
/-- A key stands under one list of values. -/
def KInj (d : XD) : Prop := ∀ p ∈ flatX d, ∀ q ∈ flatX d, p.2 = q.2 → p.1 = q.1
theorem allKeys_nodup {d : XD} (h : SrtX d) (hk : KInj d) : (d.flatMap Prod.snd).Nodup := by
  have e : d.flatMap Prod.snd = (flatX d).map Prod.snd := by
    unfold flatX
    rw [List.map_flatMap]
    congr 1
    funext x
    rw [List.map_map]
    exact (List.map_id _).symm
  rw [e]
  have hn := sorted_nodup pl_irrefl (flatX_sorted h)
  rw [List.nodup_iff_pairwise_ne, List.pairwise_map]
  refine hn.imp_of_mem fun {a b} ha hb hne he => hne ?_
  obtain ⟨a1, a2⟩ := a
  obtain ⟨b1, b2⟩ := b
  have h1 := hk _ ha _ hb he
  simp only at h1 he
  rw [h1, he]
end Go.Proofs.YtefifkleamiabaaGreatDoor

namespace Go.Proofs.YtefifkleamiabaaGreatDoor
open Go.RowKit

structure Col where
  name : ByteArray
  kind : Int
  null : Bool
def Col.cs (c : Col) : List Value := [.string c.name, .int .i64 c.kind, .bool c.null]
theorem colLay : Lay 3 Col.cs := ⟨fun _ => rfl, fun x c hc => by simp [Col.cs] at hc; rcases hc with rfl | rfl | rfl <;> rfl⟩
theorem valLay : Lay 3 Val.cs := ⟨fun _ => rfl, fun x c hc => by simp [Val.cs] at hc; rcases hc with rfl | rfl | rfl <;> rfl⟩
theorem Elems.col {w : World} {S : Nat → Prop} {A : Option Addr} {r : List Col} {k : Nat} (h : Elems 3 Col.cs w S A r) (hk : k < r.length) :
    ∃ b off, A = some ⟨b, off, none⟩ ∧ S b ∧ w.cell? ⟨b, off + k * 3, none⟩ = some (.string r[k].name) ∧ w.cell? ⟨b, off + k * 3 + 1, none⟩ = some (.int .i64 r[k].kind) ∧ w.cell? ⟨b, off + k * 3 + 2, none⟩ = some (.bool r[k].null) := by
  obtain ⟨b, off, e, hb, hc⟩ := h.at_ hk
  exact ⟨b, off, e, hb, hc 0 _ rfl, hc 1 _ rfl, hc 2 _ rfl⟩
theorem Elems.int {w : World} {S : Nat → Prop} {A : Option Addr} {xs : List Int} {k : Nat} (h : Elems 1 intCs w S A xs) (hk : k < xs.length) :
    ∃ b off, A = some ⟨b, off, none⟩ ∧ S b ∧ w.cell? ⟨b, off + k, none⟩ = some (.int .i64 xs[k]) := by
  obtain ⟨b, off, e, hb, hc⟩ := h.at_ hk
  exact ⟨b, off, e, hb, by simpa using hc 0 _ rfl⟩
theorem Elems.on {α : Type} {sz : Nat} {cs : α → List Value} {w w' : World} {A : Option Addr} {xs : List α} (h : Elems sz cs w (· < w.heap.size) A xs) (hb : Below w.heap.size w w') : Elems sz cs w' (· < w'.heap.size) A xs :=
  (h.keep (Keeps.of_below hb fun _ h => h)).more fun _ hk => Nat.lt_of_lt_of_le hk hb.size

/-- A table's description: its name, its columns and its primary key, and where they lie. -/
structure Tbl where
  name : ByteArray
  CA : Option Addr
  cc : Nat
  cols : List Col
  PA : Option Addr
  pc : Nat
  pk : List Int
def Tbl.val (t : Tbl) : Value := .agg #[.string t.name, .slice t.CA t.cols.length t.cc, .slice t.PA t.pk.length t.pc]
structure TOk (S : Nat → Prop) (w : World) (t : Tbl) : Prop where
  cols : Elems 3 Col.cs w S t.CA t.cols
  pk : Elems 1 intCs w S t.PA t.pk
section
variable {S S' : Nat → Prop} {w w' : World} {t : Tbl}
theorem TOk.keep (h : TOk S w t) (hk : Keeps S w w') : TOk S w' t := ⟨h.cols.keep hk, h.pk.keep hk⟩
theorem TOk.more (h : TOk S w t) (hs : ∀ k, S k → S' k) : TOk S' w t := ⟨h.cols.more hs, h.pk.more hs⟩
theorem TOk.on (h : TOk (· < w.heap.size) w t) (hb : Below w.heap.size w w') : TOk (· < w'.heap.size) w' t := ⟨h.cols.on hb, h.pk.on hb⟩
end

def zeroV : Val := ⟨0, 0, ByteArray.empty⟩
/-- What Key answers. -/
def keyAt (row : Row) (c : Int) : Val := if 0 ≤ c ∧ c < (row.length : Int) then row.getD c.toNat zeroV else zeroV
def keyOf (pk : List Int) (row : Row) : Row := pk.map (keyAt row)

/-- An entry of an index. -/
structure EntM where
  vals : Key
  KA : Option Addr
  kc : Nat
  keys : List Key
def EntM.cs (e : EntM) : List Value := [.slice e.vals.A e.vals.row.length e.vals.c, .slice e.KA e.keys.length e.kc]
theorem entMLay : Lay 2 EntM.cs := ⟨fun _ => rfl, fun x c hc => by simp [EntM.cs] at hc; rcases hc with rfl | rfl <;> rfl⟩
/-- The entry as data. -/
def EntM.xe (e : EntM) : XE := (e.vals.row, e.keys.map Key.row)
theorem Elems.entM {w : World} {S : Nat → Prop} {A : Option Addr} {r : List EntM} {k : Nat} (h : Elems 2 EntM.cs w S A r) (hk : k < r.length) :
    ∃ b off, A = some ⟨b, off, none⟩ ∧ S b ∧ w.cell? ⟨b, off + k * 2, none⟩ = some (.slice r[k].vals.A r[k].vals.row.length r[k].vals.c) ∧ w.cell? ⟨b, off + k * 2 + 1, none⟩ = some (.slice r[k].KA r[k].keys.length r[k].kc) := by
  obtain ⟨b, off, e, hb, hc⟩ := h.at_ hk
  exact ⟨b, off, e, hb, hc 0 _ rfl, hc 1 _ rfl⟩
/-- An entry's parts in memory. -/
structure EOk (S : Nat → Prop) (w : World) (e : EntM) : Prop where
  vals : KOk S w e.vals
  keys : Elems 1 Key.cs w S e.KA e.keys
  key : ∀ k ∈ e.keys, KOk S w k
/-- An index: its table, columns and entries, and where they lie. -/
structure Ix where
  t : Tbl
  XA : Option Addr
  xc : Nat
  cols : List Int
  EA : Option Addr
  ec : Nat
  ents : List EntM
/-- Its cells (a struct within a struct lies flat). -/
def Ix.cells (x : Ix) : Array Value := #[.string x.t.name, .slice x.t.CA x.t.cols.length x.t.cc, .slice x.t.PA x.t.pk.length x.t.pc, .slice x.XA x.cols.length x.xc, .slice x.EA x.ents.length x.ec]
def Ix.val (x : Ix) : Value := .agg x.cells
def Ix.xd (x : Ix) : XD := x.ents.map EntM.xe
structure IOk (S : Nat → Prop) (w : World) (x : Ix) : Prop where
  t : TOk S w x.t
  cols : Elems 1 intCs w S x.XA x.cols
  ents : Elems 2 EntM.cs w S x.EA x.ents
  ent : ∀ e ∈ x.ents, EOk S w e
section
variable {S S' : Nat → Prop} {w w' : World} {e : EntM} {x : Ix}
theorem EOk.keep (h : EOk S w e) (hk : Keeps S w w') : EOk S w' e := ⟨h.vals.keep hk, h.keys.keep hk, fun k hm => (h.key k hm).keep hk⟩
theorem EOk.more (h : EOk S w e) (hs : ∀ k, S k → S' k) : EOk S' w e := ⟨h.vals.more hs, h.keys.more hs, fun k hm => (h.key k hm).more hs⟩
theorem EOk.on (h : EOk (· < w.heap.size) w e) (hb : Below w.heap.size w w') : EOk (· < w'.heap.size) w' e := (h.keep (Keeps.of_below hb fun _ h => h)).more fun _ hk => Nat.lt_of_lt_of_le hk hb.size
theorem IOk.keep (h : IOk S w x) (hk : Keeps S w w') : IOk S w' x := ⟨h.t.keep hk, h.cols.keep hk, h.ents.keep hk, fun k hm => (h.ent k hm).keep hk⟩
theorem IOk.more (h : IOk S w x) (hs : ∀ k, S k → S' k) : IOk S' w x := ⟨h.t.more hs, h.cols.more hs, h.ents.more hs, fun k hm => (h.ent k hm).more hs⟩
theorem IOk.on (h : IOk (· < w.heap.size) w x) (hb : Below w.heap.size w w') : IOk (· < w'.heap.size) w' x := (h.keep (Keeps.of_below hb fun _ h => h)).more fun _ hk => Nat.lt_of_lt_of_le hk hb.size
theorem KOk.on {k : Key} (h : KOk (· < w.heap.size) w k) (hb : Below w.heap.size w w') : KOk (· < w'.heap.size) w' k := (h.keep (Keeps.of_below hb fun _ h => h)).more fun _ hk => Nat.lt_of_lt_of_le hk hb.size
end
end Go.Proofs.YtefifkleamiabaaGreatDoor

namespace Go.Proofs.YtefifkleamiabaaGreatDoor
open Go.RowKit

abbrev ptr (a : Nat) : Value := .pointer (some ⟨a, 0, none⟩)
/-- The first index at which p holds, or -1. -/
def fidx {α : Type} (p : α → Bool) (xs : List α) : Int := if xs.any p = true then (xs.findIdx p : Nat) else -1
theorem fidx_at {α : Type} {p : α → Bool} {xs : List α} {k : Nat} (hk : k < xs.length) (hp : p xs[k] = true) (hb : ∀ x ∈ xs.take k, p x = false) : fidx p xs = (k : Int) := by
  have hf : xs.findIdx p = k := by
    rw [List.findIdx_eq hk]
    refine ⟨hp, fun j hj => ?_⟩
    exact hb _ (by rw [List.mem_take_iff_getElem]; exact ⟨j, by omega, rfl⟩)
  unfold fidx
  rw [if_pos (List.any_eq_true.2 ⟨_, List.getElem_mem hk, hp⟩), hf]
theorem fidx_no {α : Type} {p : α → Bool} {xs : List α} (hb : ∀ x ∈ xs, p x = false) : fidx p xs = -1 := by
  unfold fidx
  rw [if_neg]
  rw [List.any_eq_true]
  rintro ⟨x, hx, h⟩
  rw [hb x hx] at h
  cases h
theorem fidx_lt {α : Type} (p : α → Bool) (xs : List α) : -1 ≤ fidx p xs ∧ fidx p xs < (xs.length : Int) ∧ (0 ≤ fidx p xs ↔ xs.any p = true) := by
  unfold fidx
  by_cases h : xs.any p = true
  · rw [if_pos h]
    have : xs.findIdx p < xs.length := List.findIdx_lt_length.2 (by
      obtain ⟨x, hx, h2⟩ := List.any_eq_true.1 h
      exact ⟨x, hx, h2⟩)
    exact ⟨by omega, by omega, fun _ => h, fun _ => by omega⟩
  · rw [if_neg h]
    exact ⟨by omega, by omega, fun h' => by omega, fun h' => absurd h' h⟩

def Tbl.cs (t : Tbl) : List Value := [.string t.name, .slice t.CA t.cols.length t.cc, .slice t.PA t.pk.length t.pc]
theorem tblLay : Lay 3 Tbl.cs := ⟨fun _ => rfl, fun x c hc => by simp [Tbl.cs] at hc; rcases hc with rfl | rfl | rfl <;> rfl⟩
/-- A foreign key. -/
structure FkM where
  name : ByteArray
  A : Option Addr
  c : Nat
  cols : List Int
  ref : ByteArray
def FkM.cs (f : FkM) : List Value := [.string f.name, .slice f.A f.cols.length f.c, .string f.ref]
def FkM.val (f : FkM) : Value := .agg #[.string f.name, .slice f.A f.cols.length f.c, .string f.ref]
theorem fkLay : Lay 3 FkM.cs := ⟨fun _ => rfl, fun x c hc => by simp [FkM.cs] at hc; rcases hc with rfl | rfl | rfl <;> rfl⟩
/-- A check constraint. -/
structure Cn where
  name : ByteArray
  left : Int
  op : ByteArray
  right : Int
  val : Val
def Cn.cs (c : Cn) : List Value := [.string c.name, .int .i64 c.left, .string c.op, .int .i64 c.right, .int .i64 c.val.kind, .int .i64 c.val.int, .string c.val.text]
def Cn.cells (c : Cn) : Array Value := #[.string c.name, .int .i64 c.left, .string c.op, .int .i64 c.right, .int .i64 c.val.kind, .int .i64 c.val.int, .string c.val.text]
theorem cnLay : Lay 7 Cn.cs := ⟨fun _ => rfl, fun x c hc => by simp [Cn.cs] at hc; rcases hc with rfl | rfl | rfl | rfl | rfl | rfl | rfl <;> rfl⟩
/-- A schema, and where its parts lie. -/
structure Sc where
  TA : Option Addr
  tc : Nat
  tabs : List Tbl
  FA : Option Addr
  fc : Nat
  fks : List FkM
  NA : Option Addr
  nc : Nat
  cns : List Cn
def Sc.cells (s : Sc) : Array Value := #[.slice s.TA s.tabs.length s.tc, .slice s.FA s.fks.length s.fc, .slice s.NA s.cns.length s.nc]
def Sc.v (s : Sc) : Value := .agg s.cells
structure ScOk (S : Nat → Prop) (w : World) (s : Sc) : Prop where
  tabs : Elems 3 Tbl.cs w S s.TA s.tabs
  tab : ∀ t ∈ s.tabs, TOk S w t
  fks : Elems 3 FkM.cs w S s.FA s.fks
  fk : ∀ f ∈ s.fks, Elems 1 intCs w S f.A f.cols
  cns : Elems 7 Cn.cs w S s.NA s.cns
section
variable {S S' : Nat → Prop} {w w' : World} {s : Sc}
theorem ScOk.keep (h : ScOk S w s) (hk : Keeps S w w') : ScOk S w' s := ⟨h.tabs.keep hk, fun t ht => (h.tab t ht).keep hk, h.fks.keep hk, fun f hf => (h.fk f hf).keep hk, h.cns.keep hk⟩
theorem ScOk.more (h : ScOk S w s) (hs : ∀ k, S k → S' k) : ScOk S' w s := ⟨h.tabs.more hs, fun t ht => (h.tab t ht).more hs, h.fks.more hs, fun f hf => (h.fk f hf).more hs, h.cns.more hs⟩
theorem ScOk.on (h : ScOk (· < w.heap.size) w s) (hb : Below w.heap.size w w') : ScOk (· < w'.heap.size) w' s := (h.keep (Keeps.of_below hb fun _ h => h)).more fun _ hk => Nat.lt_of_lt_of_le hk hb.size
theorem Elems.tbl {A : Option Addr} {r : List Tbl} {k : Nat} (h : Elems 3 Tbl.cs w S A r) (hk : k < r.length) : ∃ b off, A = some ⟨b, off, none⟩ ∧ S b ∧ w.cell? ⟨b, off + k * 3, none⟩ = some (.string r[k].name) ∧ w.cell? ⟨b, off + k * 3 + 1, none⟩ = some (.slice r[k].CA r[k].cols.length r[k].cc) ∧ w.cell? ⟨b, off + k * 3 + 2, none⟩ = some (.slice r[k].PA r[k].pk.length r[k].pc) := by
  obtain ⟨b, off, e, hb, hc⟩ := h.at_ hk
  exact ⟨b, off, e, hb, hc 0 _ rfl, hc 1 _ rfl, hc 2 _ rfl⟩
theorem Elems.fkm {A : Option Addr} {r : List FkM} {k : Nat} (h : Elems 3 FkM.cs w S A r) (hk : k < r.length) : ∃ b off, A = some ⟨b, off, none⟩ ∧ S b ∧ w.cell? ⟨b, off + k * 3, none⟩ = some (.string r[k].name) ∧ w.cell? ⟨b, off + k * 3 + 1, none⟩ = some (.slice r[k].A r[k].cols.length r[k].c) ∧ w.cell? ⟨b, off + k * 3 + 2, none⟩ = some (.string r[k].ref) := by
  obtain ⟨b, off, e, hb, hc⟩ := h.at_ hk
  exact ⟨b, off, e, hb, hc 0 _ rfl, hc 1 _ rfl, hc 2 _ rfl⟩
theorem Elems.cn {A : Option Addr} {r : List Cn} {k : Nat} (h : Elems 7 Cn.cs w S A r) (hk : k < r.length) : ∃ b off, A = some ⟨b, off, none⟩ ∧ S b ∧ w.cell? ⟨b, off + k * 7, none⟩ = some (.string r[k].name) ∧ w.cell? ⟨b, off + k * 7 + 1, none⟩ = some (.int .i64 r[k].left) ∧ w.cell? ⟨b, off + k * 7 + 2, none⟩ = some (.string r[k].op) ∧ w.cell? ⟨b, off + k * 7 + 3, none⟩ = some (.int .i64 r[k].right)
    ∧ w.cell? ⟨b, off + k * 7 + 4, none⟩ = some (.int .i64 r[k].val.kind) ∧ w.cell? ⟨b, off + k * 7 + 5, none⟩ = some (.int .i64 r[k].val.int) ∧ w.cell? ⟨b, off + k * 7 + 6, none⟩ = some (.string r[k].val.text) := by
  obtain ⟨b, off, e, hb, hc⟩ := h.at_ hk
  exact ⟨b, off, e, hb, hc 0 _ rfl, hc 1 _ rfl, hc 2 _ rfl, hc 3 _ rfl, hc 4 _ rfl, hc 5 _ rfl, hc 6 _ rfl⟩
end
end Go.Proofs.YtefifkleamiabaaGreatDoor

namespace Go.Proofs.YtefifkleamiabaaGreatDoor
open Go.RowKit

/-- A test by its contract: with captures that stand from w0 on. -/
structure TestC (w0 : World) (fid : FuncId) (caps : Array Value) {α : Type} (val : α → Value) (K : World → α → Prop) (p : α → Bool) : Prop where
  ent : ∀ (args : Array Value) (w : World), (callFunc fid args).run Tryz.prog w = .ok (.enter fid args) w
  run : ∀ (x : α) (W : World), Below w0.heap.size w0 W → K W x → Calls Tryz.prog fid (#[val x] ++ caps) W fun e w' => e = .returned (.bool (p x)) ∧ Below W.heap.size W w'

set_option maxRecDepth 100000 in
set_option maxHeartbeats 1000000 in
theorem findTable1 (t : Tbl) (g : Nat) (name : ByteArray) (w : World) (hg : w.cell? ⟨g, 0, none⟩ = some (.string name)) (hgl : g < w.heap.size) :
    Calls Tryz.prog 101 #[t.val, ptr g] w fun e w' => e = .returned (.bool (t.name.toList == name.toList)) ∧ Below w.heap.size w w' := by
  obtain ⟨nm, CA, cc, cols, PA, pc, pk⟩ := t
  unfold Tbl.val
  simp only
  have hga : ∀ o, (w.alloc o).cell? ⟨g, 0, none⟩ = some (.string name) := fun o => (((Below.refl _ _).alloc (Nat.le_refl _) o).cell (p := ⟨g, 0, none⟩) hgl).trans hg
  have HB : Hid (∀ o, Below w.heap.size w (w.alloc o)) := Lib.hid fun o => (Below.refl _ _).alloc (Nat.le_refl _) _
  clear hg
  go_enter Tryz.func101, Tryz.ntmps101
  go_wp2_with fail
  go_ret
  exact ⟨rfl, HB.out _⟩

def Col.val (c : Col) : Value := .agg #[.string c.name, .int .i64 c.kind, .bool c.null]
set_option maxRecDepth 100000 in
set_option maxHeartbeats 1000000 in
theorem findColumn1 (t : Col) (g : Nat) (name : ByteArray) (w : World) (hg : w.cell? ⟨g, 0, none⟩ = some (.string name)) (hgl : g < w.heap.size) :
    Calls Tryz.prog 129 #[t.val, ptr g] w fun e w' => e = .returned (.bool (t.name.toList == name.toList)) ∧ Below w.heap.size w w' := by
  obtain ⟨nm, k, nl⟩ := t
  unfold Col.val
  simp only
  have hga : ∀ o, (w.alloc o).cell? ⟨g, 0, none⟩ = some (.string name) := fun o => (((Below.refl _ _).alloc (Nat.le_refl _) o).cell (p := ⟨g, 0, none⟩) hgl).trans hg
  have HB : Hid (∀ o, Below w.heap.size w (w.alloc o)) := Lib.hid fun o => (Below.refl _ _).alloc (Nat.le_refl _) _
  clear hg
  go_enter Tryz.func129, Tryz.ntmps129
  go_wp2_with fail
  go_ret
  exact ⟨rfl, HB.out _⟩

set_option maxRecDepth 100000 in
set_option maxHeartbeats 1000000 in
theorem indexFuncTab {w0 : World} {fid : FuncId} {caps : Array Value} {p : Tbl → Bool} (A : Option Addr) (c : Nat) (xs : List Tbl) (w : World) (hT : TestC w0 fid caps Tbl.val (fun _ _ => True) p) (hb : Below w0.heap.size w0 w) (hx : Elems 3 Tbl.cs w (· < w.heap.size) A xs) (hl : xs.length ≤ 1000) :
    Calls Tryz.prog 100 #[.slice A xs.length c, .func (.func fid) #[] caps] w fun e w' => e = .returned (.int .i64 (fidx p xs)) ∧ Below w.heap.size w w' := by
  have HX := Lib.hid hx
  have HT := Lib.hid hT
  have HB0 := Lib.hid hb
  have hent := hT.ent
  obtain ⟨n, hn⟩ : ∃ n, xs.length = n := ⟨_, rfl⟩
  rw [hn] at hl ⊢
  have HN := Lib.hid hn
  clear hx hn hT hb
  go_enter Tryz.func100, Tryz.ntmps100
  go_wp2_with fail
  go_loopw [8] (fun vi wr => ∃ k : Nat, vi = .int .i64 (k : Int) ∧ k ≤ n ∧ (∀ x ∈ xs.take k, p x = false) ∧ Below w.heap.size w wr) (fun vi _ => n - (intOf vi).toNat)
  case atStart => exact ⟨0, rfl, by omega, (by intro x hx; simp at hx), Below.refl _ _⟩
  case round =>
    obtain ⟨k, rfl, hkn, hbef, hb⟩ := hrel
    by_cases hlt : k < n
    · have hki : k < xs.length := by have := HN.out; omega
      obtain ⟨b, off, rfl, -, p0, p1, p2⟩ := (HX.out.on hb).tbl hki
      have HR := Lib.hid (HT.out.run xs[k] wr (HB0.out.trans (hb.mono HB0.out.size)) (trivial))
      have hlt' : (k : Int) < (n : Int) := by omega
      have HSUC : Hid (p xs[k] = false → ∀ x ∈ xs.take (k + 1), p x = false) := Lib.hid fun hp x hx => by
        rw [List.take_succ_eq_append_getElem hki] at hx
        rcases List.mem_append.1 hx with hx | hx
        · exact hbef x hx
        · rw [List.mem_singleton.1 hx]; exact hp
      have HAT : Hid (p xs[k] = true → fidx p xs = (k : Int)) := Lib.hid fun hp => fidx_at hki hp hbef
      have HB := Lib.hid hb
      clear hbef hb
      cases hp : p xs[k] with
      | true =>
        have HF := Lib.hid (HAT.out hp)
        rw [hp] at HR
        clear hp HSUC HAT
        generalize xs[k] = x at *
        go_wp2_with fail
        refine HR.out.mono ?_
        rintro e w1 ⟨rfl, hb1⟩
        have HB1 := Lib.hid (HB.out.trans (hb1.mono HB.out.size))
        clear hb1
        go_wp2_with fail
        go_ret
        exact ⟨ret_int HF.out.symm, HB1.out⟩
      | false =>
        have HF := Lib.hid (HSUC.out hp)
        rw [hp] at HR
        clear hp HSUC HAT
        generalize xs[k] = x at *
        go_wp2_with fail
        refine HR.out.mono ?_
        rintro e w1 ⟨rfl, hb1⟩
        have HB1 := Lib.hid (HB.out.trans (hb1.mono HB.out.size))
        clear hb1
        go_wp2_with fail
        go_roundw
        case rel => exact ⟨k + 1, by go_num, by omega, HF.out, HB1.out⟩
        case measure => simp [intOf]; omega
    · have hkn' : k = n := by omega
      subst hkn'
      have HF := Lib.hid (fidx_no (p := p) (xs := xs) (by rwa [List.take_of_length_le (by have := HN.out; omega)] at hbef))
      have HB := Lib.hid hb
      clear hbef hb
      go_wp2_with fail
      go_ret
      exact ⟨ret_int HF.out.symm, HB.out⟩


set_option maxRecDepth 100000 in
set_option maxHeartbeats 1000000 in
theorem indexFuncCol {w0 : World} {fid : FuncId} {caps : Array Value} {p : Col → Bool} (A : Option Addr) (c : Nat) (xs : List Col) (w : World) (hT : TestC w0 fid caps Col.val (fun _ _ => True) p) (hb : Below w0.heap.size w0 w) (hx : Elems 3 Col.cs w (· < w.heap.size) A xs) (hl : xs.length ≤ 1000) :
    Calls Tryz.prog 128 #[.slice A xs.length c, .func (.func fid) #[] caps] w fun e w' => e = .returned (.int .i64 (fidx p xs)) ∧ Below w.heap.size w w' := by
  have HX := Lib.hid hx
  have HT := Lib.hid hT
  have HB0 := Lib.hid hb
  have hent := hT.ent
  obtain ⟨n, hn⟩ : ∃ n, xs.length = n := ⟨_, rfl⟩
  rw [hn] at hl ⊢
  have HN := Lib.hid hn
  clear hx hn hT hb
  go_enter Tryz.func128, Tryz.ntmps128
  go_wp2_with fail
  go_loopw [8] (fun vi wr => ∃ k : Nat, vi = .int .i64 (k : Int) ∧ k ≤ n ∧ (∀ x ∈ xs.take k, p x = false) ∧ Below w.heap.size w wr) (fun vi _ => n - (intOf vi).toNat)
  case atStart => exact ⟨0, rfl, by omega, (by intro x hx; simp at hx), Below.refl _ _⟩
  case round =>
    obtain ⟨k, rfl, hkn, hbef, hb⟩ := hrel
    by_cases hlt : k < n
    · have hki : k < xs.length := by have := HN.out; omega
      obtain ⟨b, off, rfl, -, p0, p1, p2⟩ := (HX.out.on hb).col hki
      have HR := Lib.hid (HT.out.run xs[k] wr (HB0.out.trans (hb.mono HB0.out.size)) (trivial))
      have hlt' : (k : Int) < (n : Int) := by omega
      have HSUC : Hid (p xs[k] = false → ∀ x ∈ xs.take (k + 1), p x = false) := Lib.hid fun hp x hx => by
        rw [List.take_succ_eq_append_getElem hki] at hx
        rcases List.mem_append.1 hx with hx | hx
        · exact hbef x hx
        · rw [List.mem_singleton.1 hx]; exact hp
      have HAT : Hid (p xs[k] = true → fidx p xs = (k : Int)) := Lib.hid fun hp => fidx_at hki hp hbef
      have HB := Lib.hid hb
      clear hbef hb
      cases hp : p xs[k] with
      | true =>
        have HF := Lib.hid (HAT.out hp)
        rw [hp] at HR
        clear hp HSUC HAT
        generalize xs[k] = x at *
        go_wp2_with fail
        refine HR.out.mono ?_
        rintro e w1 ⟨rfl, hb1⟩
        have HB1 := Lib.hid (HB.out.trans (hb1.mono HB.out.size))
        clear hb1
        go_wp2_with fail
        go_ret
        exact ⟨ret_int HF.out.symm, HB1.out⟩
      | false =>
        have HF := Lib.hid (HSUC.out hp)
        rw [hp] at HR
        clear hp HSUC HAT
        generalize xs[k] = x at *
        go_wp2_with fail
        refine HR.out.mono ?_
        rintro e w1 ⟨rfl, hb1⟩
        have HB1 := Lib.hid (HB.out.trans (hb1.mono HB.out.size))
        clear hb1
        go_wp2_with fail
        go_roundw
        case rel => exact ⟨k + 1, by go_num, by omega, HF.out, HB1.out⟩
        case measure => simp [intOf]; omega
    · have hkn' : k = n := by omega
      subst hkn'
      have HF := Lib.hid (fidx_no (p := p) (xs := xs) (by rwa [List.take_of_length_le (by have := HN.out; omega)] at hbef))
      have HB := Lib.hid hb
      clear hbef hb
      go_wp2_with fail
      go_ret
      exact ⟨ret_int HF.out.symm, HB.out⟩


set_option maxRecDepth 100000 in
set_option maxHeartbeats 1000000 in
theorem indexFuncFk {w0 : World} {fid : FuncId} {caps : Array Value} {p : FkM → Bool} (A : Option Addr) (c : Nat) (xs : List FkM) (w : World) (hT : TestC w0 fid caps FkM.val (fun W x => Elems 1 intCs W (· < W.heap.size) x.A x.cols) p) (hb : Below w0.heap.size w0 w) (hx : Elems 3 FkM.cs w (· < w.heap.size) A xs) (hk : ∀ x ∈ xs, (fun W x => Elems 1 intCs W (· < W.heap.size) x.A x.cols) w x) (hl : xs.length ≤ 1000) :
    Calls Tryz.prog 112 #[.slice A xs.length c, .func (.func fid) #[] caps] w fun e w' => e = .returned (.int .i64 (fidx p xs)) ∧ Below w.heap.size w w' := by
  have HX := Lib.hid hx
  have HK := Lib.hid hk
  have HT := Lib.hid hT
  have HB0 := Lib.hid hb
  have hent := hT.ent
  obtain ⟨n, hn⟩ : ∃ n, xs.length = n := ⟨_, rfl⟩
  rw [hn] at hl ⊢
  have HN := Lib.hid hn
  clear hx hn hk hT hb
  go_enter Tryz.func112, Tryz.ntmps112
  go_wp2_with fail
  go_loopw [8] (fun vi wr => ∃ k : Nat, vi = .int .i64 (k : Int) ∧ k ≤ n ∧ (∀ x ∈ xs.take k, p x = false) ∧ Below w.heap.size w wr) (fun vi _ => n - (intOf vi).toNat)
  case atStart => exact ⟨0, rfl, by omega, (by intro x hx; simp at hx), Below.refl _ _⟩
  case round =>
    obtain ⟨k, rfl, hkn, hbef, hb⟩ := hrel
    by_cases hlt : k < n
    · have hki : k < xs.length := by have := HN.out; omega
      obtain ⟨b, off, rfl, -, p0, p1, p2⟩ := (HX.out.on hb).fkm hki
      have HR := Lib.hid (HT.out.run xs[k] wr (HB0.out.trans (hb.mono HB0.out.size)) ((HK.out _ (List.getElem_mem hki)).on hb))
      have hlt' : (k : Int) < (n : Int) := by omega
      have HSUC : Hid (p xs[k] = false → ∀ x ∈ xs.take (k + 1), p x = false) := Lib.hid fun hp x hx => by
        rw [List.take_succ_eq_append_getElem hki] at hx
        rcases List.mem_append.1 hx with hx | hx
        · exact hbef x hx
        · rw [List.mem_singleton.1 hx]; exact hp
      have HAT : Hid (p xs[k] = true → fidx p xs = (k : Int)) := Lib.hid fun hp => fidx_at hki hp hbef
      have HB := Lib.hid hb
      clear hbef hb
      cases hp : p xs[k] with
      | true =>
        have HF := Lib.hid (HAT.out hp)
        rw [hp] at HR
        clear hp HSUC HAT
        generalize xs[k] = x at *
        go_wp2_with fail
        refine HR.out.mono ?_
        rintro e w1 ⟨rfl, hb1⟩
        have HB1 := Lib.hid (HB.out.trans (hb1.mono HB.out.size))
        clear hb1
        go_wp2_with fail
        go_ret
        exact ⟨ret_int HF.out.symm, HB1.out⟩
      | false =>
        have HF := Lib.hid (HSUC.out hp)
        rw [hp] at HR
        clear hp HSUC HAT
        generalize xs[k] = x at *
        go_wp2_with fail
        refine HR.out.mono ?_
        rintro e w1 ⟨rfl, hb1⟩
        have HB1 := Lib.hid (HB.out.trans (hb1.mono HB.out.size))
        clear hb1
        go_wp2_with fail
        go_roundw
        case rel => exact ⟨k + 1, by go_num, by omega, HF.out, HB1.out⟩
        case measure => simp [intOf]; omega
    · have hkn' : k = n := by omega
      subst hkn'
      have HF := Lib.hid (fidx_no (p := p) (xs := xs) (by rwa [List.take_of_length_le (by have := HN.out; omega)] at hbef))
      have HB := Lib.hid hb
      clear hbef hb
      go_wp2_with fail
      go_ret
      exact ⟨ret_int HF.out.symm, HB.out⟩


/-- What FindTable answers. -/
def findV (i : Int) : Value := .tuple #[.int .i64 (max i 0), .bool (decide (0 ≤ i))]
def tabI (name : ByteArray) (ts : List Tbl) : Int := fidx (fun t => t.name.toList == name.toList) ts
def colI (name : ByteArray) (cs : List Col) : Int := fidx (fun c => c.name.toList == name.toList) cs

set_option maxRecDepth 100000 in
set_option maxHeartbeats 1000000 in
theorem findTable (s : Sc) (name : ByteArray) (w : World) (hs : ScOk (· < w.heap.size) w s) (hl : s.tabs.length ≤ 1000) :
    Calls Tryz.prog 66 #[s.v, .string name] w fun e w' => e = .returned (findV (tabI name s.tabs)) ∧ Below w.heap.size w w' := by
  obtain ⟨w1, hw1⟩ : ∃ w1, w1 = (w.alloc (.cells s.cells 27)).alloc (.cells #[.string name] 9) := ⟨_, rfl⟩
  have hb1 : Below w.heap.size w w1 := by rw [hw1]; exact ((Below.refl _ _).alloc (Nat.le_refl _) _).alloc (le_size1 (Nat.le_refl _) _) _
  have hg0 : w1.heap[w.heap.size]? = some (.cells s.cells 27 (0, 0)) := by
    rw [hw1, Below.heap_alloc _ _ _ (by simp)]
    exact heap_alloc_new w _
  have hg1 : w1.heap[w.heap.size + 1]? = some (.cells #[.string name] 9 (0, 0)) := by rw [hw1]; exact alloc2_at w _ _
  have hs1 : w1.heap.size = w.heap.size + 2 := by rw [hw1]; simp
  have hT : TestC w1 101 #[ptr (w.heap.size + 1)] Tbl.val (fun _ _ => True) (fun t => t.name.toList == name.toList) :=
    ⟨fun args w => by kernel_rfl, fun x W hW _ => findTable1 x _ name W (by rw [hW.cell (p := ⟨w.heap.size + 1, 0, none⟩) (by show w.heap.size + 1 < _; omega), cell_of_row _ _ _ _ _ _ hg1]; rfl) (by have := hW.size; omega)⟩
  have HI := Lib.hid (indexFuncTab s.TA s.tc s.tabs w1 hT (Below.refl _ _) (hs.on hb1).tabs hl)
  have HB1 := Lib.hid hb1
  have HW1 := Lib.hid hw1
  obtain ⟨TA, tc, tabs, FA, fc, fks, NA, nc, cns⟩ := s
  unfold Sc.v
  unfold Sc.cells at hg0 HW1 ⊢
  simp only at hg0 HW1 HI hl ⊢
  have c0 : w1.cell? ⟨w.heap.size, 0, none⟩ = some (.slice TA tabs.length tc) := by rw [cell_of_row _ _ _ _ _ _ hg0]; rfl
  have HR : Hid (tabI name tabs = fidx (fun t => t.name.toList == name.toList) tabs) := Lib.hid rfl
  have hlt := fidx_lt (fun t : Tbl => t.name.toList == name.toList) tabs
  obtain ⟨r, hr⟩ : ∃ r, r = fidx (fun t : Tbl => t.name.toList == name.toList) tabs := ⟨_, rfl⟩
  rw [← hr] at HI HR hlt
  obtain ⟨hlt1, hlt2, -⟩ := hlt
  clear hs hb1 hg1 hs1 hT hw1 hg0 hr
  go_enter Tryz.func66, Tryz.ntmps66
  go_upto_region 1 with fail
  rw [← HW1.out]
  go_wp2_with fail
  refine HI.out.mono ?_
  rintro e w2 ⟨rfl, hb2⟩
  have HB2 := Lib.hid (HB1.out.trans (hb2.mono HB1.out.size))
  clear hb2
  by_cases h0 : 0 ≤ r
  · have hm : max r 0 = r := by omega
    go_wp2_with fail
    go_ret2
    refine ⟨?_, HB2.out⟩
    rw [HR.out]
    unfold findV
    simp [hm, h0]
  · have hm : max r 0 = 0 := by omega
    go_wp2_with fail
    go_ret2
    refine ⟨?_, HB2.out⟩
    rw [HR.out]
    unfold findV
    simp [hm]

set_option maxRecDepth 100000 in
set_option maxHeartbeats 1000000 in
theorem findColumn (t : Tbl) (name : ByteArray) (w : World) (hs : TOk (· < w.heap.size) w t) (hl : t.cols.length ≤ 1000) :
    Calls Tryz.prog 111 #[t.val, .string name] w fun e w' => e = .returned (findV (colI name t.cols)) ∧ Below w.heap.size w w' := by
  obtain ⟨w1, hw1⟩ : ∃ w1, w1 = (w.alloc (.cells #[.string t.name, .slice t.CA t.cols.length t.cc, .slice t.PA t.pk.length t.pc] 71)).alloc (.cells #[.string name] 9) := ⟨_, rfl⟩
  have hb1 : Below w.heap.size w w1 := by rw [hw1]; exact ((Below.refl _ _).alloc (Nat.le_refl _) _).alloc (le_size1 (Nat.le_refl _) _) _
  have hg0 : w1.heap[w.heap.size]? = some (.cells #[.string t.name, .slice t.CA t.cols.length t.cc, .slice t.PA t.pk.length t.pc] 71 (0, 0)) := by
    rw [hw1, Below.heap_alloc _ _ _ (by simp)]
    exact heap_alloc_new w _
  have hg1 : w1.heap[w.heap.size + 1]? = some (.cells #[.string name] 9 (0, 0)) := by rw [hw1]; exact alloc2_at w _ _
  have hs1 : w1.heap.size = w.heap.size + 2 := by rw [hw1]; simp
  have hT : TestC w1 129 #[ptr (w.heap.size + 1)] Col.val (fun _ _ => True) (fun t => t.name.toList == name.toList) :=
    ⟨fun args w => by kernel_rfl, fun x W hW _ => findColumn1 x _ name W (by rw [hW.cell (p := ⟨w.heap.size + 1, 0, none⟩) (by show w.heap.size + 1 < _; omega), cell_of_row _ _ _ _ _ _ hg1]; rfl) (by have := hW.size; omega)⟩
  have HI := Lib.hid (indexFuncCol t.CA t.cc t.cols w1 hT (Below.refl _ _) (hs.on hb1).cols hl)
  have HB1 := Lib.hid hb1
  have HW1 := Lib.hid hw1
  obtain ⟨nm, CA, cc, cols, PA, pc, pk⟩ := t
  unfold Tbl.val
  simp only at hg0 HW1 HI hl ⊢
  have c0 : w1.cell? ⟨w.heap.size, 1, none⟩ = some (.slice CA cols.length cc) := by rw [cell_of_row _ _ _ _ _ _ hg0]; rfl
  have HR : Hid (colI name cols = fidx (fun t => t.name.toList == name.toList) cols) := Lib.hid rfl
  have hlt := fidx_lt (fun t : Col => t.name.toList == name.toList) cols
  obtain ⟨r, hr⟩ : ∃ r, r = fidx (fun t : Col => t.name.toList == name.toList) cols := ⟨_, rfl⟩
  rw [← hr] at HI HR hlt
  obtain ⟨hlt1, hlt2, -⟩ := hlt
  clear hs hb1 hg1 hs1 hT hw1 hg0 hr
  go_enter Tryz.func111, Tryz.ntmps111
  go_upto_region 1 with fail
  rw [← HW1.out]
  go_wp2_with fail
  refine HI.out.mono ?_
  rintro e w2 ⟨rfl, hb2⟩
  have HB2 := Lib.hid (HB1.out.trans (hb2.mono HB1.out.size))
  clear hb2
  by_cases h0 : 0 ≤ r
  · have hm : max r 0 = r := by omega
    go_wp2_with fail
    go_ret2
    refine ⟨?_, HB2.out⟩
    rw [HR.out]
    unfold findV
    simp [hm, h0]
  · have hm : max r 0 = 0 := by omega
    go_wp2_with fail
    go_ret2
    refine ⟨?_, HB2.out⟩
    rw [HR.out]
    unfold findV
    simp [hm]
end Go.Proofs.YtefifkleamiabaaGreatDoor

namespace Go.Proofs.YtefifkleamiabaaGreatDoor
open Go.RowKit

/-- A valid name. -/
structure NameV (s : ByteArray) : Prop where
  pos : 1 ≤ s.size
  len : s.size ≤ 12
  fst : ¬ (48 ≤ (s.data.toList.getD 0 0).toNat ∧ (s.data.toList.getD 0 0).toNat ≤ 57)
  chr : ∀ j, j < s.size → (97 ≤ (s.data.toList.getD j 0).toNat ∧ (s.data.toList.getD j 0).toNat ≤ 122) ∨ (48 ≤ (s.data.toList.getD j 0).toNat ∧ (s.data.toList.getD j 0).toNat ≤ 57)

theorem below_bytes (w : World) (e : TypeId) (s : ByteArray) : Below w.heap.size w (Lib.bytesWorld w e s) :=
  ⟨rfl, rfl, rfl, by rw [Lib.bytesWorld_size]; omega, fun k hk => Lib.bytesWorld_at_old w e s k hk⟩

set_option maxRecDepth 100000 in
set_option maxHeartbeats 1000000 in
theorem validNameS (s : ByteArray) (w : World) (h : NameV s) :
    Calls Tryz.prog 110 #[.string s] w fun e w' => e = .returned (.bool true) ∧ Below w.heap.size w w' := by
  have hp := h.pos
  have hl := h.len
  have hf := h.fst
  have hcv := Lib.run_convert_string_bytes (P := Tryz.prog) w 9 123 5 s Tryz.underlying9 Tryz.underlying123 Tryz.underlying5
  have HBW := Lib.hid (below_bytes w 5 s)
  have HCL := Lib.hid fun j hj => Lib.bytesWorld_cell w 5 s j hj
  have HCH := Lib.hid h.chr
  have hx : (s[0]'hp).toNat = (s.data.toList.getD 0 0).toNat := by
    rw [List.getD_eq_getElem?_getD, Array.getElem?_toList, Array.getElem?_eq_getElem hp]
    rfl
  rw [← hx] at hf
  generalize Lib.bytesWorld w 5 s = w1 at *
  generalize grownCap w s.size 0 5 = gc at *
  have hl0 : ¬ ((s.size : Int) < 1) := by omega
  have hl1 : (s.size : Int) ≤ 12 := by omega
  clear h hx
  rcases (by omega : (s[0]'hp).toNat < 48 ∨ (48 ≤ (s[0]'hp).toNat ∧ 57 < (s[0]'hp).toNat)) with g | ⟨g, g'⟩
  all_goals
    clear hf
    go_enter Tryz.func110, Tryz.ntmps110
    go_wp2_with fail
    go_loopw [26] (fun vi wr => ∃ k : Nat, vi = .int .i64 (k : Int) ∧ k ≤ s.size ∧ w1 = wr) (fun vi _ => s.size - (intOf vi).toNat)
    case atStart => exact ⟨0, rfl, by omega, rfl⟩
    case round =>
      obtain ⟨k, rfl, hk, rfl⟩ := hrel
      by_cases hlt : k < s.size
      · have hlt' : (k : Int) < (s.size : Int) := by omega
        have c0 := HCL.out k hlt
        have hch := HCH.out k hlt
        generalize (s.data.toList.getD k 0).toNat = x at *
        rcases (by omega : (97 ≤ x ∧ x ≤ 122) ∨ (x < 97 ∧ 48 ≤ x ∧ x ≤ 57)) with ⟨e1, e2⟩ | ⟨e1, e2, e3⟩
        all_goals
          clear hch
          go_wp2_with fail
          go_roundw
          case rel => exact ⟨k + 1, by go_num, by omega, by trivial⟩
          case measure => simp [intOf]; omega
      · have hks : k = s.size := by omega
        subst hks
        go_wp2_with fail
        go_ret
        exact ⟨rfl, HBW.out⟩
end Go.Proofs.YtefifkleamiabaaGreatDoor
