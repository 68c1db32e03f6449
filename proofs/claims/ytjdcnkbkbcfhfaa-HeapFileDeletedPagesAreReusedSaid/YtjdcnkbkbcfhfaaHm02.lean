/-
  The plain law of slotted pages: remove, contents, capacity. No program in sight.
  Pages in memory; the walks of New, dataStart, slotAt, setSlot, bytes.Clone.
  The walks of setSlot, New, bytes.Clone.
  The walks of disjoint, Check.
  The walks of Check, Get, Slots, firstFree.
  The walks of Slots, firstFree.
-/
import Derived.Test.YtjdcnkbkbcfhfaaHm01
import Derived.Test.YtjdcnkbkbcfhfaaRows
import Derived.Laws.OwnMore
import Derived.Lib.SliceRun
import Derived.Laws.CopyOwn
import Derived.Deep.QuietTactic
import Derived.Deep.Cut
import Derived.Deep.CutRange
namespace Go.Proofs.Ytjdcnkbkbcfhfaa

/-- One past the last used slot. -/
def lastU (q : List Nat) : Nat → Nat
  | 0 => 0
  | n + 1 => if so q n = 0 then lastU q n else n + 1
theorem lastU_spec (q : List Nat) : ∀ n, lastU q n ≤ n ∧ (∀ j, lastU q n ≤ j → j < n → so q j = 0) ∧ (0 < lastU q n → so q (lastU q n - 1) ≠ 0)
  | 0 => ⟨Nat.le_refl _, fun j _ h => absurd h (Nat.not_lt_zero _), fun h => absurd h (Nat.lt_irrefl _)⟩
  | n + 1 => by
    obtain ⟨h1, h2, h3⟩ := lastU_spec q n
    by_cases hu : so q n = 0
    · have e : lastU q (n + 1) = lastU q n := if_pos hu
      rw [e]
      refine ⟨by omega, fun j hj hjn => ?_, h3⟩
      by_cases hjn2 : j = n
      · rw [hjn2]; exact hu
      · exact h2 j hj (by omega)
    · have e : lastU q (n + 1) = n + 1 := if_neg hu
      rw [e]
      exact ⟨Nat.le_refl _, fun j hj hjn => absurd hjn (by omega), fun _ => hu⟩

def rem (p : List Nat) (i : Nat) : List Nat := (setS p i 0 0).set 0 (lastU (setS p i 0 0) (B p 0))

theorem rem_spec {p : List Nat} {i : Nat} (h : WF p) (hi : i < B p 0) :
    WF (rem p i) ∧ B (rem p i) 0 ≤ B p 0 ∧ (∀ j, B (rem p i) 0 ≤ j → j < B p 0 → j = i ∨ so p j = 0) ∧ so (rem p i) i = 0 ∧
      ∀ j, j < B p 0 → j ≠ i → so (rem p i) j = so p j ∧ sl (rem p i) j = sl p j ∧ rc (rem p i) j = rc p j := by
  have hn := h.n_le
  have hl : (setS p i 0 0).length = 256 := by rw [setS_len, h.len]
  have hBs : ∀ x, B (setS p i 0 0) x = if x = 3 + 2 * i then 0 else if x = 2 + 2 * i then 0 else B p x := fun x => B_setS x (by rw [h.len]; omega)
  obtain ⟨l1, l2, l3⟩ := lastU_spec (setS p i 0 0) (B p 0)
  have hB : ∀ x, B (rem p i) x = if x = 0 then lastU (setS p i 0 0) (B p 0) else if x = 3 + 2 * i then 0 else if x = 2 + 2 * i then 0 else B p x := fun x => by
    unfold rem
    rw [B_set x (by rw [hl]; omega), hBs]
  have hlen : (rem p i).length = 256 := by unfold rem; rw [List.length_set, hl]
  have hsos : ∀ j, so (setS p i 0 0) j = if j = i then 0 else so p j := fun j => by
    unfold so
    rw [hBs, if_neg (by omega)]
    by_cases e : j = i
    · rw [if_pos e, if_pos (by omega)]
    · rw [if_neg e, if_neg (by omega)]
  generalize lastU (setS p i 0 0) (B p 0) = m at *
  generalize rem p i = q at *
  have hso : ∀ j, so q j = if j = i then 0 else so p j := fun j => by
    unfold so
    rw [hB, if_neg (by omega), if_neg (by omega)]
    by_cases e : j = i
    · rw [if_pos e, if_pos (by omega)]
    · rw [if_neg e, if_neg (by omega)]
  have hsl : ∀ j, sl q j = if j = i then 0 else sl p j := fun j => by
    unfold sl
    rw [hB, if_neg (by omega)]
    by_cases e : j = i
    · rw [if_pos e, if_pos (by omega)]
    · rw [if_neg e, if_neg (by omega), if_neg (by omega)]
  have q0 : B q 0 = m := by rw [hB, if_pos rfl]
  have qd1 : B q 1 = B p 1 := by rw [hB, if_neg (by omega), if_neg (by omega), if_neg (by omega)]
  have qd : dS q = dS p := by unfold dS; rw [qd1]
  have hroom := h.room
  have hdl := h.ds_le
  refine ⟨⟨hlen, fun k => ?_, by rw [q0, qd]; omega, fun j hj => ?_, fun a b hab hb ha0 hb0 => ?_, fun hp => ?_⟩, by omega, fun j hj hjp => ?_, by rw [hso, if_pos rfl], fun j hj hne => ⟨by rw [hso, if_neg hne], by rw [hsl, if_neg hne], ?_⟩⟩
  · rw [hB]
    have := h.byte k
    split
    · omega
    · split
      · omega
      · split
        · omega
        · omega
  · rw [q0] at hj
    rw [hso, hsl, qd]
    by_cases e : j = i
    · rw [if_pos e, if_pos e]
      exact .inl ⟨rfl, rfl⟩
    · rw [if_neg e, if_neg e]
      exact h.slot j (by omega)
  · rw [q0] at hb
    rw [hso] at ha0 hb0
    have ha : a ≠ i := fun e => ha0 (if_pos e)
    have hb' : b ≠ i := fun e => hb0 (if_pos e)
    rw [if_neg ha] at ha0
    rw [if_neg hb'] at hb0
    rw [hso, hso, hsl, hsl, if_neg ha, if_neg ha, if_neg hb', if_neg hb']
    exact h.disj a b hab (by omega) ha0 hb0
  · rw [q0] at hp
    have := l3 hp
    rw [hsos] at this
    rw [q0, hso]
    exact this
  · have := l2 j (by omega) hjp
    rw [hsos] at this
    by_cases e : j = i
    · exact .inl e
    · rw [if_neg e] at this
      exact .inr this
  · refine rc_congr (by rw [hsl, if_neg hne]) fun t ht => ?_
    have hu : so p j ≠ 0 := fun e => by
      have := h.free hj e
      omega
    have := h.used hj hu
    rw [hso, if_neg hne, hB, if_neg (by omega), if_neg (by omega), if_neg (by omega)]

/-- The contents of a page: the record in slot i, if it is used. -/
def cont (p : List Nat) (i : Nat) : Option (List Nat) := if i < B p 0 ∧ so p i ≠ 0 then some (rc p i) else none
theorem cont_some {p : List Nat} {i : Nat} (h1 : i < B p 0) (h2 : so p i ≠ 0) : cont p i = some (rc p i) := if_pos ⟨h1, h2⟩
theorem cont_none {p : List Nat} {i : Nat} (h : ¬ (i < B p 0 ∧ so p i ≠ 0)) : cont p i = none := if_neg h
theorem cont_of {p : List Nat} {i : Nat} {r : List Nat} (h : cont p i = some r) : i < B p 0 ∧ so p i ≠ 0 ∧ r = rc p i := by
  unfold cont at h
  split at h
  · next hc => injection h with h; exact ⟨hc.1, hc.2, h.symm⟩
  · cases h
theorem cont_len {p : List Nat} (hw : WF p) {i : Nat} {r : List Nat} (h : cont p i = some r) : 1 ≤ r.length ∧ r.length ≤ 100 := by
  obtain ⟨h1, h2, rfl⟩ := cont_of h
  have := hw.used h1 h2
  rw [rc_len]
  omega

theorem wf_zeros : WF zeros ∧ B zeros 0 = 0 := by
  have h0 := B_zeros
  refine ⟨⟨zeros_len, fun k => by rw [h0]; omega, by unfold dS; rw [h0, h0]; decide, fun i hi => ?_, fun i j _ hj => ?_, fun hp => ?_⟩, h0 0⟩
  · rw [h0] at hi; omega
  · rw [h0] at hj; omega
  · rw [h0] at hp; omega

theorem cont_compact {p : List Nat} (h : WF p) : cont (compactL p) = cont p := by
  obtain ⟨hw, h0, hd, hs⟩ := compact_spec h
  funext i
  unfold cont
  rw [h0]
  by_cases hi : i < B p 0
  · obtain ⟨s1, s2, s3, s4⟩ := hs i hi
    by_cases hu : so p i = 0
    · rw [if_neg (fun hc => hc.2 (s1 hu)), if_neg (fun hc => hc.2 hu)]
    · rw [if_pos ⟨hi, s2 hu⟩, if_pos ⟨hi, hu⟩, s4]
  · rw [if_neg (fun hc => hi hc.1), if_neg (fun hc => hi hc.1)]

theorem cont_place {p r : List Nat} {i : Nat} (h : WF p) (hi : i < B p 0 → so p i = 0) (hr1 : 1 ≤ r.length) (hr2 : r.length ≤ 100) (hrb : ∀ t, r.getD t 0 < 256) (hfit : r.length + 2 + 2 * max (B p 0) (i + 1) + S p (B p 0) ≤ 256) (j : Nat) :
    cont (place p i r) j = if j = i then some r else cont p j := by
  obtain ⟨hw, h0, hu, hr, hs⟩ := place_spec h hi hr1 hr2 hrb hfit
  by_cases e : j = i
  · subst e
    rw [if_pos rfl, cont_some (by omega) hu, hr]
  · rw [if_neg e]
    by_cases hj : j < max (B p 0) (i + 1)
    · obtain ⟨s1, s2⟩ := hs j hj e
      by_cases hp : j < B p 0
      · obtain ⟨s3, s4⟩ := s2 hp
        unfold cont
        rw [s4, h0]
        by_cases hz : so p j = 0
        · rw [if_neg (fun hc => hc.2 (s3.2 hz)), if_neg (fun hc => hc.2 hz)]
        · rw [if_pos ⟨hj, fun hc => hz (s3.1 hc)⟩, if_pos ⟨hp, hz⟩]
      · rw [cont_none (fun hc => hc.2 (s1 (by omega))), cont_none (fun hc => hp hc.1)]
    · rw [cont_none (fun hc => hj (h0 ▸ hc.1)), cont_none (fun hc => hj (by have := hc.1; omega))]

theorem cont_rem {p : List Nat} {i : Nat} (h : WF p) (hi : i < B p 0) (j : Nat) : cont (rem p i) j = if j = i then none else cont p j := by
  obtain ⟨hw, h0, h1, h2, hs⟩ := rem_spec h hi
  by_cases e : j = i
  · subst e
    rw [if_pos rfl, cont_none (fun hc => hc.2 h2)]
  · rw [if_neg e]
    by_cases hj : j < B p 0
    · obtain ⟨s1, s2, s3⟩ := hs j hj e
      unfold cont
      rw [s1, s3]
      by_cases hq : j < B (rem p i) 0
      · by_cases hz : so p j = 0
        · rw [if_neg (fun hc => hc.2 hz), if_neg (fun hc => hc.2 hz)]
        · rw [if_pos ⟨hq, hz⟩, if_pos ⟨hj, hz⟩]
      · rcases h1 j (by omega) hj with hc | hc
        · exact absurd hc e
        · rw [if_neg (fun hh => hh.2 hc), if_neg (fun hh => hh.2 hc)]
    · rw [cont_none (fun hc => hj (by have := hc.1; omega)), cont_none (fun hc => hj hc.1)]

/-- The lowest free slot. -/
def FF (p : List Nat) (i : Nat) : Prop := i ≤ B p 0 ∧ (∀ j, j < i → so p j ≠ 0) ∧ (i < B p 0 → so p i = 0)
theorem FF.uniq {p : List Nat} {i j : Nat} (hi : FF p i) (hj : FF p j) : i = j := by
  rcases Nat.lt_trichotomy i j with h | h | h
  · exact absurd (hi.2.2 (by have := hj.1; omega)) (hj.2.1 i h)
  · exact h
  · exact absurd (hj.2.2 (by have := hi.1; omega)) (hi.2.1 j h)
def ffree (p : List Nat) : Nat := (List.range (B p 0)).findIdx fun i => so p i == 0
theorem ffree_spec (p : List Nat) : FF p (ffree p) := by
  unfold ffree
  have hle : (List.range (B p 0)).findIdx (fun i => so p i == 0) ≤ B p 0 := by
    have := List.findIdx_le_length (p := fun i => so p i == 0) (xs := List.range (B p 0))
    simpa using this
  refine ⟨hle, fun j hj hz => ?_, fun hlt => ?_⟩
  · have := List.not_of_lt_findIdx (p := fun i => so p i == 0) (xs := List.range (B p 0)) hj
    simp [hz] at this
  · have := List.findIdx_getElem (p := fun i => so p i == 0) (xs := List.range (B p 0)) (w := by simpa using hlt)
    simpa using this

/-- The length of the longest record that can be inserted. -/
def cap (p : List Nat) : Nat := min 100 (256 - S p (B p 0) - 2 - 2 * max (B p 0) (ffree p + 1))
theorem cap_compact {p : List Nat} (h : WF p) : cap (compactL p) = cap p := by
  obtain ⟨hw, h0, hd, hs⟩ := compact_spec h
  have hS : ∀ n, n ≤ B p 0 → S (compactL p) n = S p n := by
    intro n
    induction n with
    | zero => exact fun _ => rfl
    | succ n ih =>
      intro hn
      simp only [S]
      rw [ih (by omega), (hs n (by omega)).2.2.1]
  have hf : ffree (compactL p) = ffree p := by
    obtain ⟨f1, f2, f3⟩ := ffree_spec p
    refine FF.uniq (ffree_spec _) ⟨by rw [h0]; exact f1, fun j hj => (hs j (by omega)).2.1 (f2 j hj), fun hlt => ?_⟩
    rw [h0] at hlt
    exact (hs _ hlt).1 (f3 hlt)
  unfold cap
  rw [h0, hf, hS _ (Nat.le_refl _)]

/-- The used slots. -/
def us (p : List Nat) (k : Nat) : List Nat := (List.range k).filter fun i => decide (so p i ≠ 0)
theorem us_succ (p : List Nat) (k : Nat) : us p (k + 1) = if so p k = 0 then us p k else us p k ++ [k] := by
  unfold us
  rw [List.range_succ, List.filter_append, List.filter_cons, List.filter_nil]
  by_cases h : so p k = 0 <;> simp [h]
theorem us_mem {p : List Nat} {i : Nat} : i ∈ us p (B p 0) ↔ i < B p 0 ∧ so p i ≠ 0 := by
  unfold us
  simp
theorem us_nodup (p : List Nat) (k : Nat) : (us p k).Nodup := List.Pairwise.filter _ List.nodup_range
theorem us_len (p : List Nat) (k : Nat) : (us p k).length ≤ k := Nat.le_trans (List.length_filter_le _ _) (by simp)

end Go.Proofs.Ytjdcnkbkbcfhfaa

namespace Go.Proofs.Ytjdcnkbkbcfhfaa
open Go.RowKit

/-- The cells of a byte, as a number. -/
def nbCs (n : Nat) : List Value := [.int .u8 (n : Int)]
theorem nbLay : Lay 1 nbCs := ⟨fun _ => rfl, fun x c hc => by simp [nbCs] at hc; subst hc; rfl⟩
theorem pgElemU8 : ElemT Try.prog 64 5 1 1 := ⟨Try.underlying64, by
  have h : (Try.prog.info? 5).map (fun i => (i.zero, i.size, i.bytes)) = some (some (.int .u8 0), 1, 1) := by kernel_rfl
  obtain ⟨i0, hi, hz0, hz1, hz2⟩ := info_parts h
  exact ⟨i0, _, hi, hz0, hz1, hz2, rfl⟩, by omega⟩
abbrev Byt (base : Nat) (w : World) (v : Value) (xs : List Nat) : Prop := Own 1 nbCs 5 base w v xs
theorem Elems.nb {w : World} {S : Nat → Prop} {A : Option Addr} {xs : List Nat} {k : Nat} (h : Elems 1 nbCs w S A xs) (hk : k < xs.length) :
    ∃ b off, A = some ⟨b, off, none⟩ ∧ S b ∧ w.cell? ⟨b, off + k, none⟩ = some (.int .u8 (xs[k] : Int)) := by
  obtain ⟨b, off, e, hb, hc⟩ := h.at_ hk
  exact ⟨b, off, e, hb, by simpa using hc 0 _ rfl⟩

theorem nb_flat_get (xs : List Nat) (k : Nat) : (xs.flatMap nbCs)[k]? = xs[k]?.map fun n : Nat => Value.int .u8 (n : Int) := by
  induction xs generalizing k with
  | nil => rfl
  | cons x xs ih =>
    cases k with
    | zero => rfl
    | succ k => show (xs.flatMap nbCs)[k]? = _; rw [ih]; rfl
theorem nb_flat_set (xs : List Nat) (k m : Nat) : (xs.flatMap nbCs).set k (.int .u8 (m : Int)) = (xs.set k m).flatMap nbCs := by
  induction xs generalizing k with
  | nil => rfl
  | cons x xs ih =>
    cases k with
    | zero => rfl
    | succ k =>
      show Value.int .u8 (x : Int) :: (xs.flatMap nbCs).set k _ = _
      rw [ih]
      rfl
theorem nb_map (xs : List Nat) : xs.flatMap nbCs = xs.map fun n : Nat => Value.int .u8 (n : Int) := by
  induction xs with
  | nil => rfl
  | cons x xs ih => rw [List.flatMap_cons, ih]; rfl
theorem nb_flat_len (xs : List Nat) : (xs.flatMap nbCs).length = xs.length := by
  induction xs with
  | nil => rfl
  | cons x xs ih => rw [List.flatMap_cons, List.length_append, ih, List.length_cons]; show 1 + _ = _; omega

/-- A slice of bytes of the call's own, with its block. -/
structure Rw (base : Nat) (w : World) (g c : Nat) (p : List Nat) : Prop where
  own : Byt base w (.slice (some ⟨g, 0, none⟩) p.length c) p
section
variable {base : Nat} {w w' : World} {g c : Nat} {p : List Nat}
theorem Rw.lt (h : Rw base w g c p) : base ≤ g ∧ g < w.heap.size := h.own.lt g rfl
theorem Rw.cap (h : Rw base w g c p) : p.length ≤ c ∧ c ≤ maxLen := by
  rcases h.own.2 with ⟨h1, _⟩ | ⟨g', cap, cur, h1, h2, h3, hnc, hcm, _⟩
  · cases h1
  · injection h1 with h1 _ h5
    subst h5
    exact ⟨hnc, hcm⟩
theorem Rw.row (h : Rw base w g c p) : ∃ cur, w.heap[g]? = some (.cells cur 5 (0, 0)) ∧ cur.size = c ∧ cur.toList.take p.length = p.flatMap nbCs := by
  rcases h.own.2 with ⟨h1, _⟩ | ⟨g', cap, cur, h1, h2, h3, hnc, hcm, hsz, htk⟩
  · cases h1
  · injection h1 with h1 _ h5
    injection h1 with h1
    injection h1 with h1 h6
    subst h1 h5
    exact ⟨cur, h3, by simpa using hsz, by simpa using htk⟩
theorem Rw.at_ (h : Rw base w g c p) {k : Nat} (hk : k < p.length) : w.cell? ⟨g, k, none⟩ = some (.int .u8 (B p k : Nat)) ∧ w.frozen? ⟨g, k, none⟩ = false := by
  obtain ⟨cur, h1, h2, h3⟩ := h.row
  refine ⟨?_, frozen_of_row w g _ _ _ h1⟩
  rw [cell_of_row w g _ _ _ _ h1]
  have := congrArg (fun l => l[k]?) h3
  simp only [List.getElem?_take, if_pos hk, nb_flat_get, List.getElem?_eq_getElem hk, Option.map_some] at this
  rw [B_get hk, ← this, Array.getElem?_toList]
theorem Rw.below (h : Rw base w g c p) (hb : Below w.heap.size w w') : Rw base w' g c p := ⟨h.own.below hb⟩
theorem Rw.mono {base' : Nat} (h : Rw base w g c p) (hb : base' ≤ base) : Rw base' w g c p := ⟨h.own.mono hb⟩
theorem Rw.drew (h : Rw base w g c p) : Rw base w.drew g c p := ⟨h.own.drew⟩
theorem Rw.drewN (h : Rw base w g c p) (n : Nat) : Rw base (w.drewN n) g c p := ⟨h.own.drewN n⟩
theorem Rw.elems (h : Rw base w g c p) : Elems 1 nbCs w (· = g) (some ⟨g, 0, none⟩) p := (h.own.elems nbLay.len rfl).more fun k hk => by
  injection hk with hk
  exact hk.symm
theorem Rw.of (h : Byt base w (.slice (some ⟨g, 0, none⟩) p.length c) p) : Rw base w g c p := ⟨h⟩
/-- One byte is written. -/
theorem Rw.set (h : Rw base w g c p) (k m : Nat) : Rw base (w.setCell ⟨g, k, none⟩ (.int .u8 (m : Int))) g c (p.set k m) := by
  obtain ⟨h1, _⟩ := World.ownsRow.stored (w := w) h.own k (.int .u8 (m : Int))
  refine ⟨?_⟩
  unfold Byt Own
  rw [List.length_set, ← nb_flat_set]
  exact h1
/-- Some bytes are copied in. -/
theorem Rw.blit (h : Rw base w g c p) {cur : Array Value} (hs : cur.size = c) (ht : cur.toList.take p.length = p.flatMap nbCs) (o : Nat) (r : List Nat) (hr : o + r.length ≤ p.length)
    (h1 : w'.heap[g]? = some (.cells (splice cur.toList o (r.flatMap nbCs)).toArray 5 (0, 0))) : Rw base w' g c (Go.Proofs.Ytjdcnkbkbcfhfaa.blit p o r) := by
  obtain ⟨hc1, hc2⟩ := h.cap
  have hbl : (Go.Proofs.Ytjdcnkbkbcfhfaa.blit p o r).length = p.length := blit_len hr
  have hl : cur.toList.length = c := by simpa using hs
  refine ⟨⟨by rw [nb_flat_len]; simp, .inr ⟨g, c, _, rfl, h.lt.1, h1, by rw [hbl]; exact hc1, hc2, ?_, ?_⟩⟩⟩
  · have := length_splice cur.toList o (r.flatMap nbCs) (by rw [nb_flat_len]; omega)
    simp only [List.size_toArray, Nat.mul_one]
    omega
  · rw [hbl, Nat.mul_one]
    have e1 : cur.toList.take o = (p.take o).flatMap nbCs := by
      have := congrArg (List.take o) ht
      rw [List.take_take, Nat.min_eq_left (by omega)] at this
      rw [this, nb_map, nb_map, List.map_take]
    have e2 : (cur.toList.drop (o + r.length)).take (p.length - (o + r.length)) = (p.drop (o + r.length)).flatMap nbCs := by
      have := congrArg (List.drop (o + r.length)) ht
      rw [List.drop_take] at this
      rw [this, nb_map, nb_map, List.map_drop]
    show (cur.toList.take o ++ (r.flatMap nbCs ++ cur.toList.drop (o + (r.flatMap nbCs).length))).take p.length = _
    rw [nb_flat_len, List.take_append, List.take_append, nb_flat_len, List.length_take, hl, Nat.min_eq_left (by omega), List.take_take, Nat.min_eq_right (by omega), e1, List.take_of_length_le (l := r.flatMap nbCs) (by rw [nb_flat_len]; omega), Nat.sub_sub, e2]
    unfold Go.Proofs.Ytjdcnkbkbcfhfaa.blit
    rw [List.flatMap_append, List.flatMap_append, List.append_assoc]
end

/-- make([]byte, m). -/
theorem make_bytes (m : Nat) (hm : m ≤ 4000) : ∃ Z : Array Value, (∀ W : World, (Instr.makeSlice 64 (.int .i64 (m : Int)) (.int .i64 (m : Int))).run Try.prog W = .ok (.slice (some ⟨W.heap.size, 0, none⟩) m m) (W.alloc (.cells Z 5))) ∧
    ∀ (W : World) (base : Nat), base ≤ W.heap.size → Byt base (W.alloc (.cells Z 5)) (.slice (some ⟨W.heap.size, 0, none⟩) m m) (List.replicate m 0) := by
  have h : (Try.prog.info? 5).map (fun i => (i.zero, i.size, i.bytes)) = some (some (.int .u8 0), 1, 1) := by kernel_rfl
  obtain ⟨i, hi, hz, h1, h2⟩ := info_parts h
  refine ⟨madeCells (Value.int .u8 0).cells m, fun W => ?_, fun W base hb => ?_⟩
  · have := run_makeSlice (P := Try.prog) W 64 5 i (.int .u8 0) Try.underlying64 hi hz .i64 .i64 m m (by omega) (Int.le_refl _) (by rw [h1]; simp; omega) (by rw [h2]; omega) (by omega)
    rw [h1] at this
    simpa using this
  · have := World.ownsRow_lit (base := base) (e := 5) (size := 1) W (madeCells (Value.int .u8 0).cells m) m hb (by unfold maxLen; omega) (by rw [size_madeCells]; omega)
    have e : (madeCells (Value.int .u8 0).cells m).toList = (List.replicate m 0).flatMap nbCs := by
      rw [nb_map, List.map_replicate]
      exact toList_madeCells_one _ _
    rw [e] at this
    unfold Byt Own
    rw [List.length_replicate]
    exact this

/-- A page in memory. -/
def Pg (base : Nat) (w : World) (g c : Nat) (p : List Nat) : Prop := Rw base w g c p ∧ p.length = 256 ∧ ∀ k, B p k < 256
section
variable {base : Nat} {w w' : World} {g c : Nat} {p : List Nat}
theorem Pg.at_ (h : Pg base w g c p) {k : Nat} (hk : k < 256) : w.cell? ⟨g, k, none⟩ = some (.int .u8 (B p k : Nat)) := (h.1.at_ (by rw [h.2.1]; exact hk)).1
theorem Pg.below (h : Pg base w g c p) (hb : Below w.heap.size w w') : Pg base w' g c p := ⟨h.1.below hb, h.2⟩
theorem Pg.cap (h : Pg base w g c p) : 256 ≤ c ∧ c ≤ maxLen := by have := h.1.cap; rw [h.2.1] at this; exact this
theorem Pg.own (h : Pg base w g c p) : Byt base w (.slice (some ⟨g, 0, none⟩) 256 c) p := by have := h.1.own; rw [h.2.1] at this; exact this
end

set_option maxRecDepth 100000 in
set_option maxHeartbeats 400000 in
theorem dataStart {base g c : Nat} {p : List Nat} (w : World) (h : Pg base w g c p) :
    Calls Try.prog 47 #[.slice (some ⟨g, 0, none⟩) 256 c] w fun e w' => e = .returned (.int .i64 (dS p : Nat)) ∧ w = w' := by
  have c1 := h.at_ (k := 1) (by omega)
  have hxb := h.2.2 1
  have hds : dS p = if B p 1 = 0 then 256 else B p 1 := rfl
  by_cases h0 : B p 1 = 0
  · rw [if_pos h0] at hds
    rw [hds]
    rw [h0] at c1
    clear h0 hds h hxb
    go_enter Try.func47, Try.ntmps47
    go_wp2_with fail
    go_ret
    exact ⟨rfl, rfl⟩
  · rw [if_neg h0] at hds
    rw [hds]
    generalize B p 1 = x at *
    have hx : ((x : Int) == 0) = false := by rw [beq_eq_false_iff_ne]; omega
    clear h0 hds h
    go_enter Try.func47, Try.ntmps47
    go_wp2_with fail
    go_ret
    exact ⟨rfl, rfl⟩

set_option maxRecDepth 100000 in
set_option maxHeartbeats 400000 in
theorem slotAt {base g c : Nat} {p : List Nat} (w : World) (h : Pg base w g c p) (i : Nat) (hi : i ≤ 126) :
    Calls Try.prog 72 #[.slice (some ⟨g, 0, none⟩) 256 c, .int .i64 i] w fun e w' => e = .returned (.tuple #[.int .i64 (so p i : Nat), .int .i64 (sl p i : Nat)]) ∧ ∃ n, w' = w.drewN n := by
  have c1 := h.at_ (k := 2 + 2 * i) (by omega)
  have c2 := h.at_ (k := 3 + 2 * i) (by omega)
  have hxb := h.2.2 (2 + 2 * i)
  have hyb := h.2.2 (3 + 2 * i)
  have e1 : so p i = B p (2 + 2 * i) := rfl
  have e2 : sl p i = B p (3 + 2 * i) := rfl
  rw [e1, e2]
  generalize B p (2 + 2 * i) = x at *
  generalize B p (3 + 2 * i) = y at *
  obtain ⟨a, ha⟩ : ∃ a : Nat, a = 2 + 2 * i := ⟨_, rfl⟩
  obtain ⟨b, hb⟩ : ∃ b : Nat, b = 3 + 2 * i := ⟨_, rfl⟩
  rw [← ha] at c1
  rw [← hb] at c2
  obtain ⟨d, hd⟩ : ∃ d : Nat, d = 2 * i := ⟨_, rfl⟩
  have i0 : IntKind.i64.wrap (2 * (i : Int)) = (d : Int) := by rw [IntKind.wrap_i64]; omega
  have i1 : IntKind.i64.wrap (2 + (d : Int)) = (a : Int) := by rw [IntKind.wrap_i64]; omega
  have i2 : IntKind.i64.wrap (3 + (d : Int)) = (b : Int) := by rw [IntKind.wrap_i64]; omega
  have i3 : IntKind.i64.wrap (x : Int) = (x : Int) := by rw [IntKind.wrap_i64]; omega
  have i4 : IntKind.i64.wrap (y : Int) = (y : Int) := by rw [IntKind.wrap_i64]; omega
  have a0 : (0 : Int) ≤ (a : Int) := by omega
  have b0 : (0 : Int) ≤ (b : Int) := by omega
  have a1 : (a : Int) < 256 := by omega
  have b1 : (b : Int) < 256 := by omega
  clear ha hb hd e1 e2 h
  go_enter Try.func72, Try.ntmps72
  go_wp2_with fail
  go_quiet (fail)
  go_wp2_with fail
  go_ret2
  exact ⟨rfl, _, rfl⟩

end Go.Proofs.Ytjdcnkbkbcfhfaa

namespace Go.Proofs.Ytjdcnkbkbcfhfaa
open Go.RowKit

theorem Rw.of_own {base : Nat} {w : World} {v : Value} {p : List Nat} (h : Byt base w v p) (h0 : 0 < p.length) : ∃ g c, v = .slice (some ⟨g, 0, none⟩) p.length c ∧ Rw base w g c p := by
  rcases h.2 with ⟨_, hz⟩ | ⟨g, cap, cur, hv, _⟩
  · omega
  · subst hv
    exact ⟨g, cap, rfl, ⟨h⟩⟩
theorem Pg.of_own {base : Nat} {w : World} {v : Value} {p : List Nat} (h : Byt base w v p) (hl : p.length = 256) (hb : ∀ k, B p k < 256) : ∃ g c, v = .slice (some ⟨g, 0, none⟩) 256 c ∧ Pg base w g c p := by
  obtain ⟨g, c, hv, hr⟩ := Rw.of_own h (by omega)
  rw [hl] at hv
  exact ⟨g, c, hv, hr, hl, hb⟩
theorem Pg.mono {base base' : Nat} {w : World} {g c : Nat} {p : List Nat} (h : Pg base w g c p) (hb : base' ≤ base) : Pg base' w g c p := ⟨h.1.mono hb, h.2⟩
theorem Pg.elems {base : Nat} {w : World} {g c : Nat} {p : List Nat} (h : Pg base w g c p) : Elems 1 nbCs w (· < w.heap.size) (some ⟨g, 0, none⟩) p := h.1.elems.more fun k hk => by
  have := h.1.lt.2
  rw [hk]
  exact this
theorem Pg.set {base : Nat} {w : World} {g c : Nat} {p : List Nat} (h : Pg base w g c p) {k m : Nat} (hk : k < 256) (hm : m < 256) : Pg base (w.setCell ⟨g, k, none⟩ (.int .u8 (m : Int))) g c (p.set k m) :=
  ⟨h.1.set k m, by rw [List.length_set, h.2.1], fun x => by
    rw [B_set x (by rw [h.2.1]; exact hk)]
    have := h.2.2 x
    split <;> omega⟩
theorem Pg.lt {base : Nat} {w : World} {g c : Nat} {p : List Nat} (h : Pg base w g c p) : base ≤ g ∧ g < w.heap.size := h.1.lt
theorem Pg.fz {base : Nat} {w : World} {g c : Nat} {p : List Nat} (h : Pg base w g c p) {k : Nat} (hk : k < 256) : w.frozen? ⟨g, k, none⟩ = false := (h.1.at_ (by rw [h.2.1]; exact hk)).2

set_option maxRecDepth 100000 in
set_option maxHeartbeats 400000 in
theorem setSlot {base g c : Nat} {p : List Nat} (w : World) (h : Pg base w g c p) (i o l : Nat) (hi : i ≤ 126) (ho : o < 256) (hl : l < 256) :
    Calls Try.prog 74 #[.slice (some ⟨g, 0, none⟩) 256 c, .int .i64 i, .int .i64 o, .int .i64 l] w fun e w' => e = .returned (.tuple #[]) ∧ Pg base w' g c (setS p i o l) ∧ Below base w w' := by
  have c1 := h.at_ (k := 2 + 2 * i) (by omega)
  have c2 := h.at_ (k := 3 + 2 * i) (by omega)
  have z1 := h.fz (k := 2 + 2 * i) (by omega)
  have z2 := h.fz (k := 3 + 2 * i) (by omega)
  have HP := Lib.hid ((h.set (k := 2 + 2 * i) (by omega) ho).set (k := 3 + 2 * i) (by omega) hl)
  have HB : Hid (Below base w ((w.setCell ⟨g, 2 + 2 * i, none⟩ (.int .u8 (o : Int))).setCell ⟨g, 3 + 2 * i, none⟩ (.int .u8 (l : Int)))) :=
    Lib.hid (((Below.refl _ _).setCell (p := ⟨g, 2 + 2 * i, none⟩) h.lt.1 _).setCell (p := ⟨g, 3 + 2 * i, none⟩) h.lt.1 _)
  have hne : 2 + 2 * i ≠ 3 + 2 * i := by omega
  have e1 : setS p i o l = (p.set (2 + 2 * i) o).set (3 + 2 * i) l := rfl
  rw [← e1] at HP
  generalize setS p i o l = q at *
  generalize B p (2 + 2 * i) = x at *
  generalize B p (3 + 2 * i) = y at *
  obtain ⟨a, ha⟩ : ∃ a : Nat, a = 2 + 2 * i := ⟨_, rfl⟩
  obtain ⟨b, hb⟩ : ∃ b : Nat, b = 3 + 2 * i := ⟨_, rfl⟩
  rw [← ha] at c1 z1 HP HB hne
  rw [← hb] at c2 z2 HP HB hne
  have i1 : (2 : Int) + 2 * (i : Int) = (a : Int) := by omega
  have i2 : (3 : Int) + 2 * (i : Int) = (b : Int) := by omega
  have a1 : (a : Int) < 256 := by omega
  have b1 : (b : Int) < 256 := by omega
  have o1 : (o : Int) % 256 = (o : Int) := by omega
  have l1 : (l : Int) % 256 = (l : Int) := by omega
  clear ha hb e1 h
  go_enter Try.func74, Try.ntmps74
  go_wp2_with fail
  go_end0
  exact ⟨rfl, HP.out, HB.out⟩

set_option maxRecDepth 100000 in
set_option maxHeartbeats 400000 in
theorem newPage (w : World) :
    Calls Try.prog 44 #[] w fun e w' => e = .returned (.slice (some ⟨w.heap.size, 0, none⟩) 256 256) ∧ Pg w.heap.size w' w.heap.size 256 zeros ∧ Below w.heap.size w w' := by
  obtain ⟨Z, hmk, hmo⟩ := make_bytes 256 (by omega)
  have HM := Lib.hid (hmo w w.heap.size (Nat.le_refl _))
  have hmk' : ∀ W : World, (Instr.makeSlice 64 (.int .i64 256) (.int .i64 256)).run Try.prog W = .ok (.slice (some ⟨W.heap.size, 0, none⟩) 256 256) (W.alloc (.cells Z 5)) := hmk
  clear hmo hmk
  go_enter Try.func44, Try.ntmps44
  go_wp2_with fail
  go_ret
  exact ⟨rfl, ⟨⟨HM.out⟩, zeros_len, fun k => by rw [B_zeros]; omega⟩, (Below.refl _ _).alloc (Nat.le_refl _) _⟩

set_option maxRecDepth 100000 in
set_option maxHeartbeats 400000 in
theorem cloneB (a : Addr) (n c : Nat) (xs : List Nat) (w : World) (hx : Elems 1 nbCs w (· < w.heap.size) (some a) xs) (hn : n = xs.length) (hs : xs.length ≤ 1000000) :
    Calls Try.prog 73 #[.slice (some a) n c] w fun e w' => ∃ v, e = .returned v ∧ Byt w.heap.size w' v xs ∧ Below w.heap.size w w' := by
  have hnil := fun W => Lib.run_eql_slice_nil (P := Try.prog) W 64 5 (some a) n c 0 0 Try.underlying64
  simp only [Option.isNone_some] at hnil
  have HX := Lib.hid (hx.keep (w' := w.alloc (.cells #[] 5)) fun k hk => Below.heap_alloc _ _ _ hk)
  have hB : w.heap.size ≤ (w.alloc (.cells #[] 5)).heap.size := by simp
  have H1 : Hid ((([] : List Nat).length + xs.length) * 1 ≤ 140737488355328) := Lib.hid (by simp; omega)
  have H2 : Hid (([] : List Nat).length + xs.length ≤ maxLen) := Lib.hid (by unfold maxLen; simp; omega)
  have HN := Lib.hid hn
  clear hx hs hn
  go_enter Try.func73, Try.ntmps73
  go_wp2_with (at_builtin; refine wpList_app rfl (.tmp 5) (.tmp 6) _ _ rfl rfl rfl (run_pushs pgElemU8 nbLay _ (w.alloc (.cells #[] 5)) _ ([] : List Nat) (Own.lit0 w) HX.out HN.out H1.out H2.out hB) ?_; rintro v1 w1 ⟨ho1, hx1⟩)
  go_ret
  exact ⟨_, rfl, by simpa using ho1, ((Below.refl _ _).alloc (Nat.le_refl _) _).trans (hx1.below (base := w.heap.size) (by simp) (fun g hg => Nat.le_of_eq (Option.some.inj hg)))⟩

/-- A page is cloned. -/
theorem clonePage {base g c : Nat} {p : List Nat} (w : World) (h : Pg base w g c p) :
    Calls Try.prog 73 #[.slice (some ⟨g, 0, none⟩) 256 c] w fun e w' => ∃ g' c', e = .returned (.slice (some ⟨g', 0, none⟩) 256 c') ∧ Pg w.heap.size w' g' c' p ∧ Below w.heap.size w w' := by
  refine (cloneB ⟨g, 0, none⟩ 256 c p w h.elems h.2.1.symm (by rw [h.2.1]; omega)).mono ?_
  rintro e w' ⟨v, rfl, ho, hb⟩
  obtain ⟨g', c', rfl, hp⟩ := Pg.of_own ho h.2.1 h.2.2
  exact ⟨g', c', rfl, hp, hb⟩

end Go.Proofs.Ytjdcnkbkbcfhfaa

namespace Go.Proofs.Ytjdcnkbkbcfhfaa
open Go.RowKit

/-- The marks of the bytes that are in use. -/
structure Us (w wr : World) (f : Nat → Bool) : Prop where
  below : Below w.heap.size w wr
  row : ∃ Z : Array Value, wr.heap[w.heap.size]? = some (.cells Z 149 (0, 0)) ∧ ∀ k, k < 256 → Z[k]? = some (.bool (f k))

theorem zero256 : ∃ Z : Array Value, (∀ w : World, (zeroValue 149).run Try.prog w = .ok (.agg Z) w) ∧ Z.size = 256 ∧ ∀ k, k < 256 → Z[k]? = some (.bool false) :=
  ⟨Array.replicate 256 (.bool false), fun _ => by kernel_rfl, by simp, fun k hk => by simp [hk]⟩
theorem Us.first (w : World) (Z : Array Value) (h : ∀ k, k < 256 → Z[k]? = some (.bool false)) : Us w (w.alloc (.cells Z 149)) (fun _ => false) :=
  ⟨(Below.refl _ _).alloc (Nat.le_refl _) _, Z, heap_alloc_new _ _, h⟩
theorem Us.lt {w wr : World} {f : Nat → Bool} (h : Us w wr f) : w.heap.size < wr.heap.size := by
  obtain ⟨Z, h1, _⟩ := h.row
  exact (Array.getElem?_eq_some_iff.1 h1).1
theorem Us.keep {w wr w' : World} {f : Nat → Bool} (h : Us w wr f) (hb : Below wr.heap.size wr w') : Us w w' f := by
  obtain ⟨Z, h1, h2⟩ := h.row
  exact ⟨h.below.trans (hb.mono (Nat.le_of_lt h.lt)), Z, (hb.block _ h.lt).trans h1, h2⟩
theorem Us.congr {w wr : World} {f f' : Nat → Bool} (h : Us w wr f) (hf : ∀ k, k < 256 → f' k = f k) : Us w wr f' := by
  obtain ⟨Z, h1, h2⟩ := h.row
  exact ⟨h.below, Z, h1, fun k hk => by rw [hf k hk]; exact h2 k hk⟩
theorem Us.at_ {w wr : World} {f : Nat → Bool} (h : Us w wr f) {k : Nat} (hk : k < 256) : wr.cell? ⟨w.heap.size, k, none⟩ = some (.bool (f k)) ∧ wr.frozen? ⟨w.heap.size, k, none⟩ = false := by
  obtain ⟨Z, h1, h2⟩ := h.row
  exact ⟨(cell_of_row _ _ _ _ _ _ h1).trans (h2 k hk), frozen_of_row _ _ _ _ _ h1⟩
theorem Us.set {w wr : World} {f : Nat → Bool} (h : Us w wr f) {j : Nat} (hj : j < 256) : Us w (wr.setCell ⟨w.heap.size, j, none⟩ (.bool true)) (fun k => f k || decide (k = j)) := by
  obtain ⟨Z, h1, h2⟩ := h.row
  refine ⟨h.below.setCell (p := ⟨w.heap.size, j, none⟩) (Nat.le_refl _) _, _, heap_setCell_same _ _ j _ _ (.bool true) h1, fun k hk => ?_⟩
  rw [Array.getElem?_setIfInBounds]
  have hjz : j < Z.size := by
    have := h2 j hj
    exact (Array.getElem?_eq_some_iff.1 this).1
  by_cases e : j = k
  · subst e
    simp [hjz]
  · rw [if_neg e, h2 k hk]
    have : decide (k = j) = false := decide_eq_false (fun h => e h.symm)
    rw [this, Bool.or_false]

set_option maxRecDepth 100000 in
set_option maxHeartbeats 2000000 in
theorem disjoint {base g c : Nat} {p : List Nat} (w : World) (h : Pg base w g c p) (hw : WF p) :
    Calls Try.prog 85 #[.slice (some ⟨g, 0, none⟩) 256 c] w fun e w' => e = .returned (.bool true) ∧ Below w.heap.size w w' := by
  have c0 := h.at_ (k := 0) (by omega)
  have hn := hw.n_le
  have gl := h.lt.2
  obtain ⟨Z, hz, _, hZ⟩ := zero256
  have HU0 := Lib.hid (Us.first w Z hZ)
  have HW := Lib.hid hw
  have HP := Lib.hid h
  obtain ⟨n, hnn⟩ : ∃ n, n = B p 0 := ⟨_, rfl⟩
  rw [← hnn] at hn c0
  have HN := Lib.hid hnn
  clear h hw hZ hnn
  go_enter Try.func85, Try.ntmps85
  go_wp2_with fail
  go_loopw [12] (fun i wr => ∃ k : Nat, k ≤ n ∧ i = .int .i64 k ∧ Us w wr (cov p k)) (fun i _ => n - (intOf i).toNat)
  case atStart => exact ⟨0, by omega, rfl, HU0.out.congr fun k _ => rfl⟩
  case round =>
    obtain ⟨k, hk, rfl, hu⟩ := hrel
    clear HU0
    by_cases hlt : k < n
    · have HU := Lib.hid hu
      have hul := hu.lt
      have HPW := Lib.hid (HP.out.below hu.below)
      clear hu
      have hkb : k < B p 0 := by rw [← HN.out]; exact hlt
      have hsl := HW.out.slot k hkb
      have HAP := Lib.hid fun j (hj : cov p k j = true) => HW.out.apart hkb hj
      have HCS := Lib.hid (fun j => cov_succ p k j)
      have HSA := Lib.hid fun W (hW : Pg base W g c p) => slotAt W hW k (by omega)
      have HDS := Lib.hid fun W (hW : Pg base W g c p) => dataStart W hW
      have hds := HW.out.ds_le
      have hrm : 2 ≤ dS p := by have := HW.out.room; omega
      generalize so p k = o at *
      generalize sl p k = l at *
      generalize dS p = d at *
      go_wp2_with fail
      refine (HSA.out wr HPW.out).mono ?_
      rintro e w1 ⟨rfl, nd, rfl⟩
      have HPD := Lib.hid (HPW.out.below (below_drewN (Below.refl _ _) nd))
      have HUD := Lib.hid (HU.out.keep (below_drewN (Below.refl _ _) nd))
      rcases hsl with ⟨rfl, rfl⟩ | ⟨h1, h2, h3, h4⟩
      · go_wp2_with fail
        go_roundw
        case rel => exact ⟨k + 1, by omega, by go_num, HUD.out.congr fun j _ => by rw [HCS.out]; simp⟩
        case measure => simp [intOf]; omega
      · have x1 : ((o : Int) == 0) = false := by rw [beq_eq_false_iff_ne]; omega
        have x2 : ((l : Int) == 0) = false := by rw [beq_eq_false_iff_ne]; omega
        have x3 : decide ((l : Int) < 1) = false := decide_eq_false (by omega)
        have x4 : decide ((100 : Int) < (l : Int)) = false := decide_eq_false (by omega)
        have x5 : decide ((o : Int) < (d : Int)) = false := decide_eq_false (by omega)
        have x6 : decide ((256 : Int) < (o : Int) + (l : Int)) = false := decide_eq_false (by omega)
        go_wp2_with fail
        refine (HDS.out _ HPD.out).mono ?_
        rintro e w1 ⟨rfl, rfl⟩
        go_wp2_with fail
        go_loopw [7] (fun i wi => ∃ j : Nat, o ≤ j ∧ j ≤ o + l ∧ i = .int .i64 j ∧ Us w wi (fun x => cov p k x || (decide (o ≤ x) && decide (x < j)))) (fun i _ => o + l - (intOf i).toNat)
        case atStart => exact ⟨o, by omega, by omega, rfl, HUD.out.congr fun x _ => by
          have : (decide (o ≤ x) && decide (x < o)) = false := by
            rw [Bool.and_eq_false_iff, decide_eq_false_iff_not, decide_eq_false_iff_not]
            omega
          rw [this, Bool.or_false]⟩
        case round =>
          obtain ⟨j, hj1, hj2, rfl, hu⟩ := hrel
          clear HUD HPD HU HPW
          by_cases hjl : j < o + l
          · have hfree : (cov p k j || (decide (o ≤ j) && decide (j < j))) = false := by
              have h8 : decide (j < j) = false := decide_eq_false (by omega)
              rw [h8, Bool.and_false, Bool.or_false]
              cases hc : cov p k j with
              | false => rfl
              | true =>
                have := HAP.out j hc
                rw [Bool.and_eq_false_iff, decide_eq_false_iff_not, decide_eq_false_iff_not] at this
                omega
            obtain ⟨p1, p2⟩ := hu.at_ (k := j) (by omega)
            have hfree' : wr.cell? ⟨w.heap.size, j, none⟩ = some (.bool false) := p1.trans (by rw [hfree])
            have HUS := Lib.hid (hu.set (j := j) (by omega))
            have hul2 := hu.lt
            have hj3 : (j : Int) < 256 := by omega
            have hj4 : decide ((j : Int) < (o : Int) + (l : Int)) = true := decide_eq_true (by omega)
            clear hu p1 hfree
            go_wp2_with fail
            go_roundw
            case rel =>
              refine ⟨j + 1, by omega, by omega, by go_num, HUS.out.congr fun x _ => ?_⟩
              cases cov p k x <;> simp
              by_cases e1 : x = j <;> by_cases e2 : o ≤ x <;> by_cases e3 : x < j <;> simp [e1, e2, e3] <;> omega
            case measure => simp [intOf]; omega
          · have hjl2 : j = o + l := by omega
            subst hjl2
            have HUE := Lib.hid hu
            have hj4 : decide (((o + l : Nat) : Int) < (o : Int) + (l : Int)) = false := decide_eq_false (by omega)
            clear hu
            go_wp2_with fail
            go_roundw
            case rel => exact ⟨k + 1, by omega, by go_num, HUE.out.congr fun x _ => by rw [HCS.out]⟩
            case measure => simp [intOf]; omega
    · have hkn : k = n := by omega
      subst hkn
      go_wp2_with fail
      go_ret
      exact ⟨rfl, hu.below⟩

end Go.Proofs.Ytjdcnkbkbcfhfaa

namespace Go.Proofs.Ytjdcnkbkbcfhfaa
open Go.RowKit

set_option maxRecDepth 100000 in
set_option maxHeartbeats 1000000 in
theorem checkPage {base g c : Nat} {p : List Nat} (w : World) (h : Pg base w g c p) (hw : WF p) :
    Calls Try.prog 69 #[.slice (some ⟨g, 0, none⟩) 256 c] w fun e w' => e = .returned (.int .i64 0) ∧ Below w.heap.size w w' := by
  have c0 := h.at_ (k := 0) (by omega)
  have hn := hw.n_le
  have hroom := hw.room
  have hlast := hw.last
  have HD := Lib.hid (dataStart w h)
  have HS := Lib.hid fun (h0 : 0 < B p 0) => slotAt w h (B p 0 - 1) (by omega)
  have HJ := Lib.hid fun W (hW : Below w.heap.size w W) => disjoint W (h.below hW) hw
  generalize dS p = d at *
  by_cases h0 : B p 0 = 0
  · clear HS hlast
    rw [h0] at c0 hroom
    clear hw h h0 hn
    have x1 : decide ((d : Int) < 2) = false := decide_eq_false (by omega)
    have x2 : ¬ ((d : Int) < 2) := by omega
    go_enter Try.func69, Try.ntmps69
    go_wp2_with fail
    refine HD.out.mono ?_
    rintro e w1 ⟨rfl, rfl⟩
    go_wp2_with fail
    refine (HJ.out w (Below.refl _ _)).mono ?_
    rintro e w1 ⟨rfl, hb⟩
    go_wp2_with fail
    go_ret
    exact ⟨rfl, hb⟩
  · have HS' := HS.out (by omega)
    have hl := hlast (by omega)
    obtain ⟨m, hm⟩ : ∃ m, B p 0 = m + 1 := ⟨B p 0 - 1, by omega⟩
    rw [hm] at c0 hroom HS' hl hn
    rw [Nat.add_sub_cancel] at HS' hl
    generalize so p m = o at *
    generalize sl p m = l at *
    have HSS := Lib.hid HS'
    clear HS HS' hlast hw h h0 hm
    have x1 : ((m + 1 : Nat) : Int) - 1 = (m : Int) := by omega
    have x3 : ((m : Int) + 1) - 1 = (m : Int) := by omega
    have x2 : ¬ ((d : Int) < 2 + 2 * ((m + 1 : Nat) : Int)) := by omega
    have x4 : ¬ ((d : Int) < 2 + 2 * ((m : Int) + 1)) := by omega
    have x5 : ((o : Int) == 0) = false := by rw [beq_eq_false_iff_ne]; omega
    have x6 : (0 : Int) < (m : Int) + 1 := by omega
    have x7 : ((m : Int) + 1) < 256 := by omega
    go_enter Try.func69, Try.ntmps69
    go_wp2_with fail
    refine HD.out.mono ?_
    rintro e w1 ⟨rfl, rfl⟩
    go_wp2_with fail
    refine HSS.out.mono ?_
    rintro e w1 ⟨rfl, nd, rfl⟩
    go_wp2_with fail
    refine (HJ.out _ (below_drewN (Below.refl _ _) nd)).mono ?_
    rintro e w1 ⟨rfl, hb⟩
    go_wp2_with fail
    go_ret
    exact ⟨rfl, (below_drewN (Below.refl _ _) nd).trans hb⟩

/-- What Get leaves. -/
def GetPost (w : World) (o : Option (List Nat)) (e : Ending) (w' : World) : Prop :=
  Below w.heap.size w w' ∧ match o with
    | some r => ∃ v, e = .returned (.tuple #[v, .int .i64 0]) ∧ Byt w.heap.size w' v r
    | none => e = .returned (.tuple #[.slice none 0 0, .int .i64 4])

theorem rc_cut {p : List Nat} {i : Nat} (h : so p i + sl p i ≤ p.length) : (p.drop (so p i)).take (sl p i) = rc p i := by
  apply List.ext_getElem?
  intro t
  rw [List.getElem?_take, List.getElem?_drop]
  unfold rc
  rw [List.getElem?_map]
  by_cases ht : t < sl p i
  · rw [if_pos ht, List.getElem?_range ht, Option.map_some, List.getElem?_eq_getElem (by omega), B_get (by omega)]
  · rw [if_neg ht, List.getElem?_eq_none (by simpa using ht)]
    rfl
theorem Pg.cut {base g c : Nat} {p : List Nat} {w : World} (h : Pg base w g c p) {o l : Nat} (ho : o + l ≤ 256) (hl : 0 < l) : Elems 1 nbCs w (· < w.heap.size) (some ⟨g, o, none⟩) ((p.drop o).take l) := by
  have := (h.elems.cut (k := o) (c := c) (by rw [h.2.1]; omega) (by rw [h.2.1]; exact h.cap.1)).take l
  have hc := h.cap.1
  have e : Option.map (·.add (o * 1)) (some (⟨g, 0, none⟩ : Addr)) = some ⟨g, o, none⟩ := by
    show some (Addr.add ⟨g, 0, none⟩ (o * 1)) = _
    rw [Addr.add_lit, Nat.zero_add, Nat.mul_one]
  rw [if_neg (by omega), e] at this
  exact this

set_option maxRecDepth 100000 in
set_option maxHeartbeats 1000000 in
theorem getPage {base g c : Nat} {p : List Nat} (w : World) (h : Pg base w g c p) (hw : WF p) (i : Nat) (hi : i ≤ 1000) :
    Calls Try.prog 45 #[.slice (some ⟨g, 0, none⟩) 256 c, .int .i64 i] w (GetPost w (cont p i)) := by
  have hn := hw.n_le
  have c0 := fun W (hW : Pg base W g c p) => hW.at_ (k := 0) (by omega)
  have hc := h.cap.1
  have HCH := Lib.hid (checkPage w h hw)
  have HP := Lib.hid fun W (hW : Below w.heap.size w W) => h.below hW
  by_cases hin : i < B p 0
  · have HS := Lib.hid fun W (hW : Pg base W g c p) => slotAt W hW i (by omega)
    by_cases hu : so p i = 0
    · rw [cont_none (fun hh => hh.2 hu)]
      rw [hu] at HS
      generalize sl p i = l at *
      generalize B p 0 = n at *
      have HC0 := Lib.hid c0
      clear hu h hw c0
      have y1 : ¬ ((n : Int) ≤ (i : Int)) := by omega
      have y2 : (n : Int) < 256 := by omega
      go_enter Try.func45, Try.ntmps45
      go_wp2_with fail
      refine HCH.out.mono ?_
      rintro e w1 ⟨rfl, hb⟩
      have z0 := HC0.out w1 (HP.out w1 hb)
      have HB := Lib.hid hb
      clear hb
      go_wp2_with fail
      refine (HS.out w1 (HP.out w1 HB.out)).mono ?_
      rintro e w2 ⟨rfl, nd, rfl⟩
      go_wp2_with fail
      go_ret2
      exact ⟨below_drewN HB.out nd, rfl⟩
    · rw [cont_some hin hu]
      have hus := hw.used hin hu
      have hrc := rc_cut (p := p) (i := i) (by rw [h.2.1]; omega)
      have HE := Lib.hid fun W (hW : Pg base W g c p) => hW.cut (o := so p i) (l := sl p i) (by omega) (by omega)
      rw [hrc] at HE
      have hrl := rc_len p i
      have hds := hw.ds_le
      generalize rc p i = r at *
      generalize so p i = o at *
      generalize sl p i = l at *
      generalize B p 0 = n at *
      have HC0 := Lib.hid c0
      have HCL := Lib.hid fun W (hW : Pg base W g c p) => cloneB ⟨g, o, none⟩ l (c - o) r W (HE.out W hW) hrl.symm (by omega)
      have y1 : ¬ ((n : Int) ≤ (i : Int)) := by omega
      have y2 : (n : Int) < 256 := by omega
      have y3 : ((o : Int) == 0) = false := by rw [beq_eq_false_iff_ne]; omega
      obtain ⟨s, hs⟩ : ∃ s, s = o + l := ⟨_, rfl⟩
      have y4 : (o : Int) + (l : Int) = (s : Int) := by omega
      have y5 : ¬ c = o := by omega
      have y6 : s ≤ c := by omega
      have y7 : o ≤ s := by omega
      have y8 : s - o = l := by omega
      have y9 : (s : Int) ≤ (c : Int) := by omega
      clear h hw c0 hrc hrl HE hu hs
      go_enter Try.func45, Try.ntmps45
      go_wp2_with fail
      refine HCH.out.mono ?_
      rintro e w1 ⟨rfl, hb⟩
      have z0 := HC0.out w1 (HP.out w1 hb)
      have HB := Lib.hid hb
      clear hb
      go_wp2_with fail
      refine (HS.out w1 (HP.out w1 HB.out)).mono ?_
      rintro e w2 ⟨rfl, nd, rfl⟩
      go_wp2_with fail
      refine (HCL.out _ (HP.out _ (below_drewN HB.out nd))).mono ?_
      rintro e w3 ⟨v, rfl, ho, hb3⟩
      go_wp2_with fail
      go_ret2
      exact ⟨(below_drewN HB.out nd).trans (hb3.mono HB.out.size), v, rfl, ho.mono HB.out.size⟩
  · rw [cont_none (fun hh => hin hh.1)]
    generalize B p 0 = n at *
    have HC0 := Lib.hid c0
    clear h hw c0
    have y1 : (n : Int) ≤ (i : Int) := by omega
    have y2 : (n : Int) < 256 := by omega
    go_enter Try.func45, Try.ntmps45
    go_wp2_with fail
    refine HCH.out.mono ?_
    rintro e w1 ⟨rfl, hb⟩
    have z0 := HC0.out w1 (HP.out w1 hb)
    have HB := Lib.hid hb
    clear hb
    go_wp2_with fail
    go_ret2
    exact ⟨HB.out, rfl⟩

end Go.Proofs.Ytjdcnkbkbcfhfaa

namespace Go.Proofs.Ytjdcnkbkbcfhfaa
open Go.RowKit

theorem pgElemInts : ElemT Try.prog 22 3 1 8 := ⟨Try.underlying22, by
  have h : (Try.prog.info? 3).map (fun i => (i.zero, i.size, i.bytes)) = some (some (.int .i64 0), 1, 8) := by kernel_rfl
  obtain ⟨i0, hi, hz0, hz1, hz2⟩ := info_parts h
  exact ⟨i0, _, hi, hz0, hz1, hz2, rfl⟩, by omega⟩
def natCs (n : Nat) : List Value := [.int .i64 (n : Int)]
theorem natLay : Lay 1 natCs := ⟨fun _ => rfl, fun x c hc => by simp [natCs] at hc; subst hc; rfl⟩
abbrev Nats (base : Nat) (w : World) (v : Value) (xs : List Nat) : Prop := Own 1 natCs 3 base w v xs
theorem Elems.nat {w : World} {S : Nat → Prop} {A : Option Addr} {xs : List Nat} {k : Nat} (h : Elems 1 natCs w S A xs) (hk : k < xs.length) :
    ∃ b off, A = some ⟨b, off, none⟩ ∧ S b ∧ w.cell? ⟨b, off + k, none⟩ = some (.int .i64 (xs[k] : Int)) := by
  obtain ⟨b, off, e, hb, hc⟩ := h.at_ hk
  exact ⟨b, off, e, hb, by simpa using hc 0 _ rfl⟩
theorem Own.form' {α : Type} {sz : Nat} {cs : α → List Value} {e : TypeId} {base : Nat} {w : World} {v : Value} {xs : List α} (h : Own sz cs e base w v xs) : ∃ A n c, v = .slice A n c ∧ xs.length = n := by
  obtain ⟨A, c, hv, _, _⟩ := h.form
  exact ⟨A, _, c, hv, rfl⟩

/-- What Slots leaves. -/
def SlotsPost (w : World) (xs : List Nat) (e : Ending) (w' : World) : Prop := ∃ v, e = .returned (.tuple #[v, .int .i64 0]) ∧ Nats w.heap.size w' v xs ∧ Below w.heap.size w w'

set_option maxRecDepth 100000 in
set_option maxHeartbeats 1000000 in
theorem slotsPage {base g c : Nat} {p : List Nat} (w : World) (h : Pg base w g c p) (hw : WF p) :
    Calls Try.prog 51 #[.slice (some ⟨g, 0, none⟩) 256 c] w (SlotsPost w (us p (B p 0))) := by
  have hn := hw.n_le
  have HC0 := Lib.hid fun W (hW : Pg base W g c p) => hW.at_ (k := 0) (by omega)
  have HCH := Lib.hid (checkPage w h hw)
  have HP := Lib.hid fun W (hW : Below w.heap.size w W) => h.below hW
  obtain ⟨n, hnn⟩ : ∃ n, n = B p 0 := ⟨_, rfl⟩
  rw [← hnn] at hn HC0 ⊢
  have y2 : (n : Int) < 256 := by omega
  clear h hw hnn
  go_enter Try.func51, Try.ntmps51
  go_wp2_with fail
  refine HCH.out.mono ?_
  rintro e w1 ⟨rfl, hb1⟩
  have z0 := HC0.out w1 (HP.out w1 hb1)
  have HB := Lib.hid hb1
  clear hb1
  go_wp2_with fail
  go_loopw [5, 18] (fun v i wr => ∃ k : Nat, k ≤ n ∧ i = .int .i64 k ∧ Nats w.heap.size wr v (us p k) ∧ Below w.heap.size w wr) (fun _ i _ => n - (intOf i).toNat)
  case atStart => exact ⟨0, by omega, rfl, Own.nil _, HB.out⟩
  case round =>
    clear HB
    obtain ⟨k, hk, rfl, hok, hbk⟩ := hrel
    by_cases hlt : k < n
    · have HS := Lib.hid (slotAt wr (HP.out wr hbk) k (by omega))
      have HU := Lib.hid (us_succ p k)
      have hul := us_len p k
      have HOK := Lib.hid hok
      have HBK := Lib.hid hbk
      have hsz := hbk.size
      have H1 : Hid (((us p k).length + 1) * 8 ≤ 140737488355328) := Lib.hid (by omega)
      have H2 : Hid ((us p k).length + 1 ≤ maxLen) := Lib.hid (by unfold maxLen; omega)
      clear hok hbk hul
      generalize us p k = d at *
      by_cases hu : so p k = 0
      · rw [hu] at HS
        rw [if_pos hu] at HU
        clear hu
        generalize sl p k = l at *
        go_wp2_with fail
        refine HS.out.mono ?_
        rintro e w2 ⟨rfl, nd, rfl⟩
        go_wp2_with fail
        go_roundw
        case rel => exact ⟨k + 1, by omega, by go_num, by rw [HU.out]; exact HOK.out.drewN nd, below_drewN HBK.out nd⟩
        case measure => simp [intOf]; omega
      · rw [if_neg hu] at HU
        have hup : decide ((0 : Int) < (so p k : Int)) = true := decide_eq_true (by omega)
        have hup2 : (0 : Nat) < so p k := by omega
        clear hu
        generalize so p k = o at *
        generalize sl p k = l at *
        go_wp2_with fail
        refine HS.out.mono ?_
        rintro e w2 ⟨rfl, nd, rfl⟩
        have HO2 := Lib.hid (HOK.out.drewN nd)
        have HB2 := Lib.hid (below_drewN HBK.out nd)
        have hsz2 : w.heap.size ≤ (wr.drewN nd).heap.size := HB2.out.size
        go_wp2_with (at_builtin; refine wpList_app rfl (.tmp 29) (.tmp 31) _ _ rfl rfl rfl (run_push pgElemInts natLay _ _ u5 d k _ HO2.out rfl H1.out H2.out hsz2 rfl) ?_; rintro v1 w3 ⟨ho1, hx1⟩)
        go_roundw
        case rel =>
          have hne : ∀ b, u5.ownBlock = some b → w.heap.size ≤ b := fun b hb => (HO2.out.lt b hb).1
          exact ⟨k + 1, by omega, by go_num, by rw [HU.out]; exact ho1, HB2.out.trans (hx1.below (base := w.heap.size) hsz2 hne)⟩
        case measure => simp [intOf]; omega
    · have hkn : k = n := by omega
      subst hkn
      have HOK := Lib.hid hok
      clear hok
      go_wp2_with fail
      go_ret2
      exact ⟨_, rfl, HOK.out, hbk⟩

set_option maxRecDepth 100000 in
set_option maxHeartbeats 1000000 in
theorem firstFree {base g c : Nat} {p : List Nat} (w : World) (h : Pg base w g c p) (hn : B p 0 ≤ 127) :
    Calls Try.prog 71 #[.slice (some ⟨g, 0, none⟩) 256 c] w fun e w' => e = .returned (.int .i64 (ffree p : Nat)) ∧ ∃ m, w' = w.drewN m := by
  have c0 := h.at_ (k := 0) (by omega)
  have HP := Lib.hid h
  have HF : Hid (∀ i, FF p i → ffree p = i) := Lib.hid fun i hi => (ffree_spec p).uniq hi
  have HFF : Hid (∀ i, FF p i ↔ (i ≤ B p 0 ∧ (∀ j, j < i → so p j ≠ 0) ∧ (i < B p 0 → so p i = 0))) := Lib.hid fun _ => Iff.rfl
  generalize ffree p = f at *
  obtain ⟨n, hnn⟩ : ∃ n, n = B p 0 := ⟨_, rfl⟩
  rw [← hnn] at hn c0 HFF
  have y2 : (n : Int) < 256 := by omega
  clear h hnn
  go_enter Try.func71, Try.ntmps71
  go_wp2_with fail
  go_loopw [10] (fun i wr => ∃ k : Nat, k ≤ n ∧ i = .int .i64 k ∧ (∀ j, j < k → so p j ≠ 0) ∧ ∃ m, wr = w.drewN m) (fun i _ => n - (intOf i).toNat)
  case atStart => exact ⟨0, by omega, rfl, fun j hj => absurd hj (Nat.not_lt_zero _), 0, rfl⟩
  case round =>
    obtain ⟨k, hk, rfl, hall, m, rfl⟩ := hrel
    have HA := Lib.hid hall
    have HPM := Lib.hid (HP.out.below (below_drewN (Below.refl _ _) m))
    clear hall
    by_cases hlt : k < n
    · have HS := Lib.hid (slotAt _ HPM.out k (by omega))
      by_cases hu : so p k = 0
      · have HR := Lib.hid (HF.out k ((HFF.out k).2 ⟨hk, HA.out, fun _ => hu⟩))
        rw [hu] at HS
        generalize sl p k = l at *
        clear hu
        go_wp2_with fail
        refine HS.out.mono ?_
        rintro e w2 ⟨rfl, nd, rfl⟩
        go_wp2_with fail
        go_ret
        exact ⟨by rw [HR.out]; rfl, _, rfl⟩
      · have HNU := Lib.hid hu
        have y3 : ((so p k : Int) == 0) = false := by rw [beq_eq_false_iff_ne]; omega
        clear hu
        generalize ho : so p k = o at *
        have HO := Lib.hid ho
        clear ho
        generalize sl p k = l at *
        go_wp2_with fail
        refine HS.out.mono ?_
        rintro e w2 ⟨rfl, nd, rfl⟩
        go_wp2_with fail
        go_roundw
        case rel =>
          refine ⟨k + 1, by omega, by go_num, fun j hj => ?_, _, rfl⟩
          by_cases e : j = k
          · rw [e, HO.out]; exact HNU.out
          · exact HA.out j (by omega)
        case measure => simp [intOf]; omega
    · have hkn : k = n := by omega
      subst hkn
      have HR := Lib.hid (HF.out k ((HFF.out k).2 ⟨hk, HA.out, fun hlt => absurd hlt (Nat.lt_irrefl _)⟩))
      have c0' : (w.drewN m).cell? ⟨g, 0, none⟩ = some (.int .u8 (k : Int)) := c0
      go_wp2_with fail
      go_ret
      exact ⟨by rw [HR.out]; rfl, m, rfl⟩

end Go.Proofs.Ytjdcnkbkbcfhfaa
