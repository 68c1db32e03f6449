/-
  The plain law of slotted pages: place, remove, contents, capacity. No program in sight.
-/
import Derived.Test.YtalgocjhcgmdlaaPgp
namespace Go.Proofs.Ytalgocjhcgmdlaa

/-- n slots from k on are cleared. -/
def clr (p : List Nat) (k : Nat) : Nat → List Nat
  | 0 => p
  | n + 1 => setS (clr p k n) (k + n) 0 0
theorem clr_len (p : List Nat) (k : Nat) : ∀ n, (clr p k n).length = p.length
  | 0 => rfl
  | n + 1 => by rw [clr, setS_len, clr_len p k n]
theorem B_clr {p : List Nat} {k : Nat} (x : Nat) : ∀ n, 2 + 2 * (k + n) ≤ p.length → B (clr p k n) x = if 2 + 2 * k ≤ x ∧ x < 2 + 2 * (k + n) then 0 else B p x
  | 0, _ => by rw [if_neg (by omega)]; rfl
  | n + 1, h => by
    rw [clr, B_setS x (by rw [clr_len]; omega), B_clr x n (by omega)]
    by_cases h1 : x = 3 + 2 * (k + n)
    · rw [if_pos h1, if_pos (by omega)]
    · rw [if_neg h1]
      by_cases h2 : x = 2 + 2 * (k + n)
      · rw [if_pos h2, if_pos (by omega)]
      · rw [if_neg h2]
        by_cases h3 : 2 + 2 * k ≤ x ∧ x < 2 + 2 * (k + n)
        · rw [if_pos h3, if_pos (by omega)]
        · rw [if_neg h3, if_neg (by omega)]

def pl0 (p : List Nat) (i : Nat) (r : List Nat) : List Nat := if dS p < r.length + 2 + 2 * max (B p 0) (i + 1) then compactL p else p
def pl1 (p : List Nat) (i : Nat) (r : List Nat) : List Nat := clr (pl0 p i r) (B p 0) (i - B p 0)
def plo (p : List Nat) (i : Nat) (r : List Nat) : Nat := dS (pl0 p i r) - r.length
def place (p : List Nat) (i : Nat) (r : List Nat) : List Nat :=
  setS (blit (((pl1 p i r).set 0 (max (B p 0) (i + 1))).set 1 (plo p i r)) (plo p i r) r) i (plo p i r) r.length

theorem place_spec {p r : List Nat} {i : Nat} (h : WF p) (hi : i < B p 0 → so p i = 0) (hr1 : 1 ≤ r.length) (hr2 : r.length ≤ 100) (hrb : ∀ t, r.getD t 0 < 256) (hfit : r.length + 2 + 2 * max (B p 0) (i + 1) + S p (B p 0) ≤ 256) :
    WF (place p i r) ∧ B (place p i r) 0 = max (B p 0) (i + 1) ∧ so (place p i r) i ≠ 0 ∧ rc (place p i r) i = r ∧
      ∀ j, j < max (B p 0) (i + 1) → j ≠ i → (B p 0 ≤ j → so (place p i r) j = 0) ∧ (j < B p 0 → (so (place p i r) j = 0 ↔ so p j = 0) ∧ rc (place p i r) j = rc p j) := by
  obtain ⟨hcw, hc0, hcd, hcs⟩ := compact_spec h
  -- the page that is written to
  have h0 : WF (pl0 p i r) ∧ B (pl0 p i r) 0 = B p 0 ∧ r.length + 2 + 2 * max (B p 0) (i + 1) ≤ dS (pl0 p i r) ∧ ∀ j, j < B p 0 → (so (pl0 p i r) j = 0 ↔ so p j = 0) ∧ sl (pl0 p i r) j = sl p j ∧ rc (pl0 p i r) j = rc p j := by
    unfold pl0
    split
    · refine ⟨hcw, hc0, by omega, fun j hj => ⟨⟨fun hz => ?_, (hcs j hj).1⟩, (hcs j hj).2.2⟩⟩
      apply Classical.byContradiction
      intro hn
      exact (hcs j hj).2.1 hn hz
    · next hn => exact ⟨h, rfl, by omega, fun j _ => ⟨Iff.rfl, rfl, rfl⟩⟩
  have hl1 : (pl1 p i r).length = 256 := by unfold pl1; rw [clr_len, h0.1.len]
  have hB1 : ∀ x, B (pl1 p i r) x = if 2 + 2 * B p 0 ≤ x ∧ x < 2 + 2 * (B p 0 + (i - B p 0)) then 0 else B (pl0 p i r) x := fun x => by
    unfold pl1
    exact B_clr x _ (by rw [h0.1.len]; omega)
  obtain ⟨hw, hz, hroom, hsame⟩ := h0
  have hd := hw.ds_le
  have ho : plo p i r + r.length = dS (pl0 p i r) := by unfold plo; omega
  have hb2 : plo p i r + r.length ≤ (((pl1 p i r).set 0 (max (B p 0) (i + 1))).set 1 (plo p i r)).length := by rw [List.length_set, List.length_set, hl1]; omega
  have hlen : (place p i r).length = 256 := by unfold place; rw [setS_len, blit_len hb2, List.length_set, List.length_set, hl1]
  have hB : ∀ x, B (place p i r) x = if x = 3 + 2 * i then r.length else if x = 2 + 2 * i then plo p i r else if plo p i r ≤ x ∧ x < dS (pl0 p i r) then r.getD (x - plo p i r) 0 else if x = 1 then plo p i r else if x = 0 then max (B p 0) (i + 1) else if 2 + 2 * B p 0 ≤ x ∧ x < 2 + 2 * (B p 0 + (i - B p 0)) then 0 else B (pl0 p i r) x := fun x => by
    unfold place
    rw [B_setS x (by rw [blit_len hb2, List.length_set, List.length_set, hl1]; omega), B_blit x hb2, ho, B_set x (by rw [List.length_set, hl1]; omega), B_set x (by rw [hl1]; omega), hB1]
  generalize place p i r = q at *
  generalize plo p i r = o at *
  generalize pl0 p i r = z at *
  generalize pl1 p i r = z1 at *
  have q0 : B q 0 = max (B p 0) (i + 1) := by rw [hB, if_neg (by omega), if_neg (by omega), if_neg (by omega), if_neg (by omega), if_pos rfl]
  have q1 : B q 1 = o := by rw [hB, if_neg (by omega), if_neg (by omega), if_neg (by omega), if_pos rfl]
  have qd : dS q = o := by unfold dS; rw [q1, if_neg (by omega)]
  have qi : so q i = o := by unfold so; rw [hB, if_neg (by omega), if_pos rfl]
  have qil : sl q i = r.length := by unfold sl; rw [hB, if_pos rfl]
  have qj : ∀ j, j < B p 0 → j ≠ i → so q j = so z j ∧ sl q j = sl z j := fun j hj hne => by
    unfold so sl
    rw [hB, hB]
    exact ⟨by rw [if_neg (by omega), if_neg (by omega), if_neg (by omega), if_neg (by omega), if_neg (by omega), if_neg (by omega)], by rw [if_neg (by omega), if_neg (by omega), if_neg (by omega), if_neg (by omega), if_neg (by omega), if_neg (by omega)]⟩
  have qf : ∀ j, B p 0 ≤ j → j < max (B p 0) (i + 1) → j ≠ i → so q j = 0 ∧ sl q j = 0 := fun j hj hj2 hne => by
    unfold so sl
    rw [hB, hB]
    exact ⟨by rw [if_neg (by omega), if_neg (by omega), if_neg (by omega), if_neg (by omega), if_neg (by omega), if_pos (by omega)], by rw [if_neg (by omega), if_neg (by omega), if_neg (by omega), if_neg (by omega), if_neg (by omega), if_pos (by omega)]⟩
  have qdat : ∀ x, dS z ≤ x → B q x = B z x := fun x hx => by
    rw [hB, if_neg (by omega), if_neg (by omega), if_neg (by omega), if_neg (by omega), if_neg (by omega), if_neg (by omega)]
  have hzu : ∀ j, j < B p 0 → so q j ≠ 0 → j ≠ i → 1 ≤ sl q j ∧ sl q j ≤ 100 ∧ dS z ≤ so q j ∧ so q j + sl q j ≤ 256 := fun j hj hu hne => by
    rw [(qj j hj hne).1] at hu ⊢
    rw [(qj j hj hne).2]
    exact hw.used (by omega) hu
  refine ⟨⟨hlen, fun k => ?_, by rw [q0, qd]; omega, fun j hj => ?_, fun a b hab hb ha0 hb0 => ?_, fun _ => ?_⟩, q0, by rw [qi]; omega, rc_of qil fun t ht => ?_, fun j hj hne => ⟨fun h1 => (qf j h1 hj hne).1, fun h1 => ⟨?_, ?_⟩⟩⟩
  · rw [hB]
    have := hw.byte k
    have := hrb (k - o)
    have := h.n_le
    split
    · omega
    · split
      · omega
      · split
        · omega
        · split
          · omega
          · split
            · omega
            · split
              · omega
              · omega
  · rw [q0] at hj
    by_cases hji : j = i
    · subst hji
      right
      rw [qi, qil, qd]
      omega
    · by_cases hjp : j < B p 0
      · by_cases hu : so q j = 0
        · left
          rw [(qj j hjp hji).1] at hu
          rw [(qj j hjp hji).1, (qj j hjp hji).2]
          exact ⟨hu, hw.free (by omega) hu⟩
        · right
          have := hzu j hjp hu hji
          omega
      · left
        exact qf j (by omega) hj hji
  · rw [q0] at hb
    by_cases hai : a = i
    · subst hai
      have hbp : b < B p 0 := by
        apply Classical.byContradiction
        intro hn
        exact hb0 (qf b (by omega) hb (by omega)).1
      have := hzu b hbp hb0 (by omega)
      rw [qi, qil]
      omega
    · have hap : a < B p 0 := by
        apply Classical.byContradiction
        intro hn
        exact ha0 (qf a (by omega) (by omega) hai).1
      by_cases hbi : b = i
      · subst hbi
        have := hzu a hap ha0 hai
        rw [qi, qil]
        omega
      · have hbp : b < B p 0 := by
          apply Classical.byContradiction
          intro hn
          exact hb0 (qf b (by omega) hb hbi).1
        rw [(qj a hap hai).1] at ha0 ⊢
        rw [(qj b hbp hbi).1] at hb0 ⊢
        rw [(qj a hap hai).2, (qj b hbp hbi).2]
        exact hw.disj a b hab (by omega) ha0 hb0
  · rw [q0]
    by_cases hpi : B p 0 ≤ i
    · have e : max (B p 0) (i + 1) - 1 = i := by omega
      rw [e, qi]
      omega
    · have e : max (B p 0) (i + 1) - 1 = B p 0 - 1 := by omega
      rw [e]
      have hne : B p 0 - 1 ≠ i := fun e => h.last (by omega) (e ▸ hi (by omega))
      rw [(qj _ (by omega) hne).1]
      have := hw.last (by omega)
      rw [hz] at this
      exact this
  · rw [qi, hB, if_neg (by omega), if_neg (by omega), if_pos (by omega)]
    congr 1
    omega
  · rw [(qj j h1 hne).1]
    exact (hsame j h1).1
  · rw [← (hsame j h1).2.2]
    by_cases hu : so z j = 0
    · have hz0 := hw.free (i := j) (by omega) hu
      refine rc_congr (qj j h1 hne).2 fun t ht => ?_
      omega
    · refine rc_congr (qj j h1 hne).2 fun t ht => ?_
      have := hw.used (i := j) (by omega) hu
      rw [(qj j h1 hne).1]
      exact qdat _ (by omega)

end Go.Proofs.Ytalgocjhcgmdlaa
