/-
  The plain law of slotted pages: remove, contents, capacity. No program in sight.
-/
import Derived.Test.YtalgocjhcgmdlaaPgq
namespace Go.Proofs.Ytalgocjhcgmdlaa

/-- One past the last used slot. -/
def lastU (q : List Nat) : Nat → Nat
  | 0 => 0
  | n + 1 => if so q n = 0 then lastU q n else n + 1
theorem lastU_spec (q : List Nat) : ∀ n, lastU q n ≤ n ∧ (∀ j, lastU q n ≤ j → j < n → so q j = 0) ∧ (0 < lastU q n → so q (lastU q n - 1) ≠ 0)
  | 0 => ⟨Nat.le_refl _, fun j _ h => absurd h (Nat.not_lt_zero _), fun h => absurd h (Nat.lt_irrefl _)⟩
  | n + 1 => by
    obtain ⟨h1, h2, h3⟩ := lastU_spec q n
    by_cases hu : so q n = 0
    · have e : lastU q (n + 1) = lastU q n := if_pos hu
      rw [e]
      refine ⟨by omega, fun j hj hjn => ?_, h3⟩
      by_cases hjn2 : j = n
      · rw [hjn2]; exact hu
      · exact h2 j hj (by omega)
    · have e : lastU q (n + 1) = n + 1 := if_neg hu
      rw [e]
      exact ⟨Nat.le_refl _, fun j hj hjn => absurd hjn (by omega), fun _ => hu⟩

def rem (p : List Nat) (i : Nat) : List Nat := (setS p i 0 0).set 0 (lastU (setS p i 0 0) (B p 0))

theorem rem_spec {p : List Nat} {i : Nat} (h : WF p) (hi : i < B p 0) :
    WF (rem p i) ∧ B (rem p i) 0 ≤ B p 0 ∧ (∀ j, B (rem p i) 0 ≤ j → j < B p 0 → j = i ∨ so p j = 0) ∧ so (rem p i) i = 0 ∧
      ∀ j, j < B p 0 → j ≠ i → so (rem p i) j = so p j ∧ sl (rem p i) j = sl p j ∧ rc (rem p i) j = rc p j := by
  have hn := h.n_le
  have hl : (setS p i 0 0).length = 256 := by rw [setS_len, h.len]
  have hBs : ∀ x, B (setS p i 0 0) x = if x = 3 + 2 * i then 0 else if x = 2 + 2 * i then 0 else B p x := fun x => B_setS x (by rw [h.len]; omega)
  obtain ⟨l1, l2, l3⟩ := lastU_spec (setS p i 0 0) (B p 0)
  have hB : ∀ x, B (rem p i) x = if x = 0 then lastU (setS p i 0 0) (B p 0) else if x = 3 + 2 * i then 0 else if x = 2 + 2 * i then 0 else B p x := fun x => by
    unfold rem
    rw [B_set x (by rw [hl]; omega), hBs]
  have hlen : (rem p i).length = 256 := by unfold rem; rw [List.length_set, hl]
  have hsos : ∀ j, so (setS p i 0 0) j = if j = i then 0 else so p j := fun j => by
    unfold so
    rw [hBs, if_neg (by omega)]
    by_cases e : j = i
    · rw [if_pos e, if_pos (by omega)]
    · rw [if_neg e, if_neg (by omega)]
  generalize lastU (setS p i 0 0) (B p 0) = m at *
  generalize rem p i = q at *
  have hso : ∀ j, so q j = if j = i then 0 else so p j := fun j => by
    unfold so
    rw [hB, if_neg (by omega), if_neg (by omega)]
    by_cases e : j = i
    · rw [if_pos e, if_pos (by omega)]
    · rw [if_neg e, if_neg (by omega)]
  have hsl : ∀ j, sl q j = if j = i then 0 else sl p j := fun j => by
    unfold sl
    rw [hB, if_neg (by omega)]
    by_cases e : j = i
    · rw [if_pos e, if_pos (by omega)]
    · rw [if_neg e, if_neg (by omega), if_neg (by omega)]
  have q0 : B q 0 = m := by rw [hB, if_pos rfl]
  have qd1 : B q 1 = B p 1 := by rw [hB, if_neg (by omega), if_neg (by omega), if_neg (by omega)]
  have qd : dS q = dS p := by unfold dS; rw [qd1]
  have hroom := h.room
  have hdl := h.ds_le
  refine ⟨⟨hlen, fun k => ?_, by rw [q0, qd]; omega, fun j hj => ?_, fun a b hab hb ha0 hb0 => ?_, fun hp => ?_⟩, by omega, fun j hj hjp => ?_, by rw [hso, if_pos rfl], fun j hj hne => ⟨by rw [hso, if_neg hne], by rw [hsl, if_neg hne], ?_⟩⟩
  · rw [hB]
    have := h.byte k
    split
    · omega
    · split
      · omega
      · split
        · omega
        · omega
  · rw [q0] at hj
    rw [hso, hsl, qd]
    by_cases e : j = i
    · rw [if_pos e, if_pos e]
      exact .inl ⟨rfl, rfl⟩
    · rw [if_neg e, if_neg e]
      exact h.slot j (by omega)
  · rw [q0] at hb
    rw [hso] at ha0 hb0
    have ha : a ≠ i := fun e => ha0 (if_pos e)
    have hb' : b ≠ i := fun e => hb0 (if_pos e)
    rw [if_neg ha] at ha0
    rw [if_neg hb'] at hb0
    rw [hso, hso, hsl, hsl, if_neg ha, if_neg ha, if_neg hb', if_neg hb']
    exact h.disj a b hab (by omega) ha0 hb0
  · rw [q0] at hp
    have := l3 hp
    rw [hsos] at this
    rw [q0, hso]
    exact this
  · have := l2 j (by omega) hjp
    rw [hsos] at this
    by_cases e : j = i
    · exact .inl e
    · rw [if_neg e] at this
      exact .inr this
  · refine rc_congr (by rw [hsl, if_neg hne]) fun t ht => ?_
    have hu : so p j ≠ 0 := fun e => by
      have := h.free hj e
      omega
    have := h.used hj hu
    rw [hso, if_neg hne, hB, if_neg (by omega), if_neg (by omega), if_neg (by omega)]

/-- The contents of a page: the record in slot i, if it is used. -/
def cont (p : List Nat) (i : Nat) : Option (List Nat) := if i < B p 0 ∧ so p i ≠ 0 then some (rc p i) else none
theorem cont_some {p : List Nat} {i : Nat} (h1 : i < B p 0) (h2 : so p i ≠ 0) : cont p i = some (rc p i) := if_pos ⟨h1, h2⟩
theorem cont_none {p : List Nat} {i : Nat} (h : ¬ (i < B p 0 ∧ so p i ≠ 0)) : cont p i = none := if_neg h
theorem cont_of {p : List Nat} {i : Nat} {r : List Nat} (h : cont p i = some r) : i < B p 0 ∧ so p i ≠ 0 ∧ r = rc p i := by
  unfold cont at h
  split at h
  · next hc => injection h with h; exact ⟨hc.1, hc.2, h.symm⟩
  · cases h
theorem cont_len {p : List Nat} (hw : WF p) {i : Nat} {r : List Nat} (h : cont p i = some r) : 1 ≤ r.length ∧ r.length ≤ 100 := by
  obtain ⟨h1, h2, rfl⟩ := cont_of h
  have := hw.used h1 h2
  rw [rc_len]
  omega

theorem wf_zeros : WF zeros ∧ B zeros 0 = 0 := by
  have h0 := B_zeros
  refine ⟨⟨zeros_len, fun k => by rw [h0]; omega, by unfold dS; rw [h0, h0]; decide, fun i hi => ?_, fun i j _ hj => ?_, fun hp => ?_⟩, h0 0⟩
  · rw [h0] at hi; omega
  · rw [h0] at hj; omega
  · rw [h0] at hp; omega

theorem cont_compact {p : List Nat} (h : WF p) : cont (compactL p) = cont p := by
  obtain ⟨hw, h0, hd, hs⟩ := compact_spec h
  funext i
  unfold cont
  rw [h0]
  by_cases hi : i < B p 0
  · obtain ⟨s1, s2, s3, s4⟩ := hs i hi
    by_cases hu : so p i = 0
    · rw [if_neg (fun hc => hc.2 (s1 hu)), if_neg (fun hc => hc.2 hu)]
    · rw [if_pos ⟨hi, s2 hu⟩, if_pos ⟨hi, hu⟩, s4]
  · rw [if_neg (fun hc => hi hc.1), if_neg (fun hc => hi hc.1)]

theorem cont_place {p r : List Nat} {i : Nat} (h : WF p) (hi : i < B p 0 → so p i = 0) (hr1 : 1 ≤ r.length) (hr2 : r.length ≤ 100) (hrb : ∀ t, r.getD t 0 < 256) (hfit : r.length + 2 + 2 * max (B p 0) (i + 1) + S p (B p 0) ≤ 256) (j : Nat) :
    cont (place p i r) j = if j = i then some r else cont p j := by
  obtain ⟨hw, h0, hu, hr, hs⟩ := place_spec h hi hr1 hr2 hrb hfit
  by_cases e : j = i
  · subst e
    rw [if_pos rfl, cont_some (by omega) hu, hr]
  · rw [if_neg e]
    by_cases hj : j < max (B p 0) (i + 1)
    · obtain ⟨s1, s2⟩ := hs j hj e
      by_cases hp : j < B p 0
      · obtain ⟨s3, s4⟩ := s2 hp
        unfold cont
        rw [s4, h0]
        by_cases hz : so p j = 0
        · rw [if_neg (fun hc => hc.2 (s3.2 hz)), if_neg (fun hc => hc.2 hz)]
        · rw [if_pos ⟨hj, fun hc => hz (s3.1 hc)⟩, if_pos ⟨hp, hz⟩]
      · rw [cont_none (fun hc => hc.2 (s1 (by omega))), cont_none (fun hc => hp hc.1)]
    · rw [cont_none (fun hc => hj (h0 ▸ hc.1)), cont_none (fun hc => hj (by have := hc.1; omega))]

theorem cont_rem {p : List Nat} {i : Nat} (h : WF p) (hi : i < B p 0) (j : Nat) : cont (rem p i) j = if j = i then none else cont p j := by
  obtain ⟨hw, h0, h1, h2, hs⟩ := rem_spec h hi
  by_cases e : j = i
  · subst e
    rw [if_pos rfl, cont_none (fun hc => hc.2 h2)]
  · rw [if_neg e]
    by_cases hj : j < B p 0
    · obtain ⟨s1, s2, s3⟩ := hs j hj e
      unfold cont
      rw [s1, s3]
      by_cases hq : j < B (rem p i) 0
      · by_cases hz : so p j = 0
        · rw [if_neg (fun hc => hc.2 hz), if_neg (fun hc => hc.2 hz)]
        · rw [if_pos ⟨hq, hz⟩, if_pos ⟨hj, hz⟩]
      · rcases h1 j (by omega) hj with hc | hc
        · exact absurd hc e
        · rw [if_neg (fun hh => hh.2 hc), if_neg (fun hh => hh.2 hc)]
    · rw [cont_none (fun hc => hj (by have := hc.1; omega)), cont_none (fun hc => hj hc.1)]

/-- The lowest free slot. -/
def FF (p : List Nat) (i : Nat) : Prop := i ≤ B p 0 ∧ (∀ j, j < i → so p j ≠ 0) ∧ (i < B p 0 → so p i = 0)
theorem FF.uniq {p : List Nat} {i j : Nat} (hi : FF p i) (hj : FF p j) : i = j := by
  rcases Nat.lt_trichotomy i j with h | h | h
  · exact absurd (hi.2.2 (by have := hj.1; omega)) (hj.2.1 i h)
  · exact h
  · exact absurd (hj.2.2 (by have := hi.1; omega)) (hi.2.1 j h)
def ffree (p : List Nat) : Nat := (List.range (B p 0)).findIdx fun i => so p i == 0
theorem ffree_spec (p : List Nat) : FF p (ffree p) := by
  unfold ffree
  have hle : (List.range (B p 0)).findIdx (fun i => so p i == 0) ≤ B p 0 := by
    have := List.findIdx_le_length (p := fun i => so p i == 0) (xs := List.range (B p 0))
    simpa using this
  refine ⟨hle, fun j hj hz => ?_, fun hlt => ?_⟩
  · have := List.not_of_lt_findIdx (p := fun i => so p i == 0) (xs := List.range (B p 0)) hj
    simp [hz] at this
  · have := List.findIdx_getElem (p := fun i => so p i == 0) (xs := List.range (B p 0)) (w := by simpa using hlt)
    simpa using this

/-- The length of the longest record that can be inserted. -/
def cap (p : List Nat) : Nat := min 100 (256 - S p (B p 0) - 2 - 2 * max (B p 0) (ffree p + 1))
theorem cap_compact {p : List Nat} (h : WF p) : cap (compactL p) = cap p := by
  obtain ⟨hw, h0, hd, hs⟩ := compact_spec h
  have hS : ∀ n, n ≤ B p 0 → S (compactL p) n = S p n := by
    intro n
    induction n with
    | zero => exact fun _ => rfl
    | succ n ih =>
      intro hn
      simp only [S]
      rw [ih (by omega), (hs n (by omega)).2.2.1]
  have hf : ffree (compactL p) = ffree p := by
    obtain ⟨f1, f2, f3⟩ := ffree_spec p
    refine FF.uniq (ffree_spec _) ⟨by rw [h0]; exact f1, fun j hj => (hs j (by omega)).2.1 (f2 j hj), fun hlt => ?_⟩
    rw [h0] at hlt
    exact (hs _ hlt).1 (f3 hlt)
  unfold cap
  rw [h0, hf, hS _ (Nat.le_refl _)]

/-- The used slots. -/
def us (p : List Nat) (k : Nat) : List Nat := (List.range k).filter fun i => decide (so p i ≠ 0)
theorem us_succ (p : List Nat) (k : Nat) : us p (k + 1) = if so p k = 0 then us p k else us p k ++ [k] := by
  unfold us
  rw [List.range_succ, List.filter_append, List.filter_cons, List.filter_nil]
  by_cases h : so p k = 0 <;> simp [h]
theorem us_mem {p : List Nat} {i : Nat} : i ∈ us p (B p 0) ↔ i < B p 0 ∧ so p i ≠ 0 := by
  unfold us
  simp
theorem us_nodup (p : List Nat) (k : Nat) : (us p k).Nodup := List.Pairwise.filter _ List.nodup_range
theorem us_len (p : List Nat) (k : Nat) : (us p k).length ≤ k := Nat.le_trans (List.length_filter_le _ _) (by simp)

end Go.Proofs.Ytalgocjhcgmdlaa
