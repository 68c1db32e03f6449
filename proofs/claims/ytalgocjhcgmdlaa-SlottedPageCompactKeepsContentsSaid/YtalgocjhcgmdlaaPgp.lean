/-
  The plain law of slotted pages: a page is a list of 256 numbers. No program in sight.
-/
import Derived.Test.YtalgocjhcgmdlaaMem
namespace Go.Proofs.Ytalgocjhcgmdlaa

/-- Byte k of a page. -/
def B (p : List Nat) (k : Nat) : Nat := p.getD k 0
def dS (p : List Nat) : Nat := if B p 1 = 0 then 256 else B p 1
def so (p : List Nat) (i : Nat) : Nat := B p (2 + 2 * i)
def sl (p : List Nat) (i : Nat) : Nat := B p (3 + 2 * i)
def setS (p : List Nat) (i o l : Nat) : List Nat := (p.set (2 + 2 * i) o).set (3 + 2 * i) l
def blit (p : List Nat) (o : Nat) (r : List Nat) : List Nat := p.take o ++ r ++ p.drop (o + r.length)
/-- The record in slot i. -/
def rc (p : List Nat) (i : Nat) : List Nat := (List.range (sl p i)).map fun t => B p (so p i + t)

theorem B_get {p : List Nat} {k : Nat} (h : k < p.length) : B p k = p[k] := by
  unfold B
  rw [List.getD_eq_getElem?_getD, List.getElem?_eq_getElem h]
  rfl
theorem B_set {p : List Nat} {i v : Nat} (k : Nat) (hi : i < p.length) : B (p.set i v) k = if k = i then v else B p k := by
  unfold B
  rw [List.getD_eq_getElem?_getD, List.getElem?_set]
  by_cases h : i = k
  · subst h
    simp [hi]
  · rw [if_neg h, if_neg (fun e => h e.symm), List.getD_eq_getElem?_getD]
theorem setS_len (p : List Nat) (i o l : Nat) : (setS p i o l).length = p.length := by simp [setS]
theorem B_setS {p : List Nat} {i o l : Nat} (k : Nat) (hi : 3 + 2 * i < p.length) : B (setS p i o l) k = if k = 3 + 2 * i then l else if k = 2 + 2 * i then o else B p k := by
  unfold setS
  rw [B_set k (by simpa using hi), B_set k (by omega)]
theorem blit_len {p : List Nat} {o : Nat} {r : List Nat} (h : o + r.length ≤ p.length) : (blit p o r).length = p.length := by
  unfold blit
  simp
  omega
theorem B_blit {p : List Nat} {o : Nat} {r : List Nat} (k : Nat) (h : o + r.length ≤ p.length) : B (blit p o r) k = if o ≤ k ∧ k < o + r.length then r.getD (k - o) 0 else B p k := by
  unfold B blit
  simp only [List.getD_eq_getElem?_getD]
  have ht : (p.take o).length = o := by rw [List.length_take]; omega
  by_cases h1 : k < o
  · rw [if_neg (by omega), List.append_assoc, List.getElem?_append_left (by omega), List.getElem?_take, if_pos h1]
  · by_cases h2 : k < o + r.length
    · rw [if_pos ⟨by omega, h2⟩, List.append_assoc, List.getElem?_append_right (by omega), ht, List.getElem?_append_left (by omega)]
    · rw [if_neg (by omega), List.getElem?_append_right (by rw [List.length_append]; omega), List.length_append, ht, List.getElem?_drop]
      congr 2
      omega
theorem rc_len (p : List Nat) (i : Nat) : (rc p i).length = sl p i := by simp [rc]
theorem rc_get {p : List Nat} {i t : Nat} (h : t < sl p i) : (rc p i).getD t 0 = B p (so p i + t) := by
  unfold rc
  rw [List.getD_eq_getElem?_getD, List.getElem?_map, List.getElem?_range h]
  rfl
theorem rc_congr {p q : List Nat} {i j : Nat} (hl : sl q j = sl p i) (h : ∀ t, t < sl p i → B q (so q j + t) = B p (so p i + t)) : rc q j = rc p i := by
  unfold rc
  rw [hl]
  exact List.map_congr_left fun t ht => h t (List.mem_range.1 ht)
theorem rc_of {q r : List Nat} {j : Nat} (hl : sl q j = r.length) (h : ∀ t, t < r.length → B q (so q j + t) = r.getD t 0) : rc q j = r := by
  apply List.ext_getElem?
  intro t
  unfold rc
  rw [hl, List.getElem?_map]
  by_cases ht : t < r.length
  · rw [List.getElem?_range ht, Option.map_some, h t ht, List.getD_eq_getElem?_getD, List.getElem?_eq_getElem ht]
    rfl
  · rw [List.getElem?_eq_none (by simpa using ht), List.getElem?_eq_none (by omega)]
    rfl

structure WF (p : List Nat) : Prop where
  len : p.length = 256
  byte : ∀ k, B p k < 256
  room : 2 + 2 * B p 0 ≤ dS p
  slot : ∀ i, i < B p 0 → (so p i = 0 ∧ sl p i = 0) ∨ (1 ≤ sl p i ∧ sl p i ≤ 100 ∧ dS p ≤ so p i ∧ so p i + sl p i ≤ 256)
  disj : ∀ i j, i < j → j < B p 0 → so p i ≠ 0 → so p j ≠ 0 → so p i + sl p i ≤ so p j ∨ so p j + sl p j ≤ so p i
  last : 0 < B p 0 → so p (B p 0 - 1) ≠ 0

theorem WF.ds_le {p : List Nat} (h : WF p) : dS p ≤ 256 := by
  unfold dS
  have := h.byte 1
  split <;> omega
theorem WF.used {p : List Nat} (h : WF p) {i : Nat} (hi : i < B p 0) (hu : so p i ≠ 0) : 1 ≤ sl p i ∧ sl p i ≤ 100 ∧ dS p ≤ so p i ∧ so p i + sl p i ≤ 256 := by
  rcases h.slot i hi with h | h
  · exact absurd h.1 hu
  · exact h
theorem WF.free {p : List Nat} (h : WF p) {i : Nat} (hi : i < B p 0) (hu : so p i = 0) : sl p i = 0 := by
  have := h.room
  rcases h.slot i hi with h | h
  · exact h.2
  · omega
theorem WF.n_le {p : List Nat} (h : WF p) : B p 0 ≤ 127 := by
  have := h.room
  have := h.ds_le
  omega

/-- The lengths of the first n records. -/
def S (p : List Nat) : Nat → Nat
  | 0 => 0
  | n + 1 => S p n + sl p n

theorem countP_or {q r : Nat → Bool} : ∀ l : List Nat, (∀ k, q k = true → r k = false) → l.countP (fun k => q k || r k) = l.countP q + l.countP r
  | [], _ => rfl
  | k :: l, h => by
    have ih := countP_or l h
    rw [List.countP_cons, List.countP_cons, List.countP_cons, ih]
    have := h k
    cases hq : q k <;> cases hr : r k <;> simp_all <;> omega
theorem countP_iv (o l : Nat) : ∀ n, (List.range n).countP (fun k => decide (o ≤ k) && decide (k < o + l)) = min n (o + l) - min n o
  | 0 => by simp
  | n + 1 => by
    rw [List.range_succ, List.countP_append, countP_iv o l n, List.countP_cons, List.countP_nil]
    by_cases h1 : o ≤ n <;> by_cases h2 : n < o + l <;> simp [h1, h2] <;> omega
/-- Is byte k in one of the first n records? -/
def cov (p : List Nat) (n k : Nat) : Bool := (List.range n).any fun i => decide (so p i ≤ k) && decide (k < so p i + sl p i)
theorem cov_succ (p : List Nat) (n k : Nat) : cov p (n + 1) k = (cov p n k || (decide (so p n ≤ k) && decide (k < so p n + sl p n))) := by
  unfold cov
  rw [List.range_succ, List.any_append]
  simp
theorem cov_iff {p : List Nat} {n k : Nat} : cov p n k = true ↔ ∃ i, i < n ∧ so p i ≤ k ∧ k < so p i + sl p i := by
  unfold cov
  simp
theorem WF.apart {p : List Nat} (h : WF p) {n k : Nat} (hn : n < B p 0) (hk : cov p n k = true) : (decide (so p n ≤ k) && decide (k < so p n + sl p n)) = false := by
  obtain ⟨i, hi, h1, h2⟩ := cov_iff.1 hk
  have hi0 : so p i ≠ 0 := fun e => by
    have := h.free (by omega) e
    omega
  rw [Bool.and_eq_false_iff, decide_eq_false_iff_not, decide_eq_false_iff_not]
  by_cases hn0 : so p n = 0
  · have := h.free hn hn0
    right
    omega
  · rcases h.disj i n hi hn hi0 hn0 with h3 | h3
    · left; omega
    · right; omega
theorem WF.count {p : List Nat} (h : WF p) : ∀ n, n ≤ B p 0 → (List.range 256).countP (cov p n) = S p n
  | 0, _ => by simp [cov, S]
  | n + 1, hn => by
    have ih := h.count n (by omega)
    have e : cov p (n + 1) = fun k => cov p n k || (decide (so p n ≤ k) && decide (k < so p n + sl p n)) := funext fun k => cov_succ p n k
    rw [e, countP_or _ fun k hk => h.apart (by omega) hk, ih, countP_iv]
    simp only [S]
    rcases h.slot n (by omega) with h1 | h1
    · rw [h1.1, h1.2]
      omega
    · omega
theorem WF.sum {p : List Nat} (h : WF p) {n : Nat} (hn : n ≤ B p 0) : dS p + S p n ≤ 256 := by
  have h1 := h.count n hn
  have hd := h.ds_le
  have h2 := countP_iv (dS p) (256 - dS p) 256
  have h3 : (List.range 256).countP (cov p n) ≤ (List.range 256).countP (fun k => decide (dS p ≤ k) && decide (k < dS p + (256 - dS p))) := by
    refine List.countP_mono_left fun k hk hc => ?_
    obtain ⟨i, hi, h4, h5⟩ := cov_iff.1 hc
    have hi0 : so p i ≠ 0 := fun e => by
      have := h.free (by omega) e
      omega
    have := h.used (by omega) hi0
    simp
    omega
  omega

/-- An empty page. -/
def zeros : List Nat := List.replicate 256 0
theorem zeros_len : zeros.length = 256 := List.length_replicate
/-- compact, round by round: the new page, and where its data begin. -/
def cst (p : List Nat) : Nat → List Nat × Nat
  | 0 => (zeros.set 0 (B p 0), 256)
  | i + 1 => if so p i = 0 then cst p i else (setS (blit (cst p i).1 ((cst p i).2 - sl p i) (rc p i)) i ((cst p i).2 - sl p i) (sl p i), (cst p i).2 - sl p i)
def compactL (p : List Nat) : List Nat := if (cst p (B p 0)).2 < 256 then (cst p (B p 0)).1.set 1 (cst p (B p 0)).2 else (cst p (B p 0)).1

structure CI (p : List Nat) (k : Nat) (out : List Nat) (e : Nat) : Prop where
  len : out.length = 256
  byte : ∀ x, B out x < 256
  b0 : B out 0 = B p 0
  b1 : B out 1 = 0
  sum : e + S p k = 256
  free : ∀ i, i < B p 0 → (k ≤ i ∨ so p i = 0) → so out i = 0 ∧ sl out i = 0
  used : ∀ i, i < k → so p i ≠ 0 → e ≤ so out i ∧ so out i + sl out i ≤ 256 ∧ sl out i = sl p i ∧ ∀ t, t < sl p i → B out (so out i + t) = B p (so p i + t)
  disj : ∀ i j, i < j → j < k → so p i ≠ 0 → so p j ≠ 0 → so out j + sl out j ≤ so out i

theorem B_zeros (k : Nat) : B zeros k = 0 := by
  unfold B zeros
  rw [List.getD_eq_getElem?_getD, List.getElem?_replicate]
  split <;> rfl
theorem rc_byte {p : List Nat} (h : ∀ k, B p k < 256) (i t : Nat) : (rc p i).getD t 0 < 256 := by
  by_cases ht : t < sl p i
  · rw [rc_get ht]
    exact h _
  · unfold rc
    rw [List.getD_eq_getElem?_getD, List.getElem?_eq_none (by simpa using ht)]
    show 0 < 256
    omega

theorem WF.ci {p : List Nat} (h : WF p) : ∀ k, k ≤ B p 0 → CI p k (cst p k).1 (cst p k).2
  | 0, _ => by
    have hl : 0 < zeros.length := by rw [zeros_len]; omega
    have hb := h.byte 0
    refine ⟨by show (zeros.set 0 (B p 0)).length = 256; rw [List.length_set, zeros_len], fun x => ?_, ?_, ?_, rfl, fun i hi _ => ⟨?_, ?_⟩, fun i hi => absurd hi (Nat.not_lt_zero _), fun i j _ hj => absurd hj (Nat.not_lt_zero _)⟩
    · show B (zeros.set 0 (B p 0)) x < 256
      rw [B_set x hl, B_zeros]
      split <;> omega
    · show B (zeros.set 0 (B p 0)) 0 = _
      rw [B_set 0 hl, if_pos rfl]
    · show B (zeros.set 0 (B p 0)) 1 = _
      rw [B_set 1 hl, B_zeros]
      rfl
    · show B (zeros.set 0 (B p 0)) (2 + 2 * i) = 0
      rw [B_set _ hl, B_zeros, if_neg (by omega)]
    · show B (zeros.set 0 (B p 0)) (3 + 2 * i) = 0
      rw [B_set _ hl, B_zeros, if_neg (by omega)]
  | k + 1, hk => by
    have ih := h.ci k (by omega)
    by_cases hu : so p k = 0
    · have e : cst p (k + 1) = cst p k := if_pos hu
      rw [e]
      have hf := h.free (by omega) hu
      refine ⟨ih.len, ih.byte, ih.b0, ih.b1, by have := ih.sum; simp only [S]; omega, fun i hi hc => ih.free i hi ?_, fun i hi hi0 => ih.used i ?_ hi0, fun i j hij hj hi0 hj0 => ih.disj i j hij ?_ hi0 hj0⟩
      · rcases hc with hc | hc
        · left; omega
        · right; exact hc
      · have : i ≠ k := fun e => hi0 (e ▸ hu)
        omega
      · have : j ≠ k := fun e => hj0 (e ▸ hu)
        omega
    · have e : cst p (k + 1) = (setS (blit (cst p k).1 ((cst p k).2 - sl p k) (rc p k)) k ((cst p k).2 - sl p k) (sl p k), (cst p k).2 - sl p k) := if_neg hu
      rw [e]
      generalize (cst p k).1 = out at *
      generalize (cst p k).2 = en at *
      have hs := h.sum (n := k + 1) hk
      have hsum := ih.sum
      simp only [S] at hs
      have hus := h.used (by omega) hu
      have hroom := h.room
      have hrl := rc_len p k
      have hb : en - sl p k + (rc p k).length ≤ out.length := by rw [hrl, ih.len]; omega
      have hdir : 3 + 2 * k < (blit out (en - sl p k) (rc p k)).length := by rw [blit_len hb, ih.len]; omega
      have hB : ∀ x, B (setS (blit out (en - sl p k) (rc p k)) k (en - sl p k) (sl p k)) x = if x = 3 + 2 * k then sl p k else if x = 2 + 2 * k then en - sl p k else if en - sl p k ≤ x ∧ x < en then (rc p k).getD (x - (en - sl p k)) 0 else B out x := fun x => by
        rw [B_setS x hdir, B_blit x hb, hrl]
        have : en - sl p k + sl p k = en := by omega
        rw [this]
      have hql : (setS (blit out (en - sl p k) (rc p k)) k (en - sl p k) (sl p k)).length = 256 := by rw [setS_len, blit_len hb, ih.len]
      generalize setS (blit out (en - sl p k) (rc p k)) k (en - sl p k) (sl p k) = q at *
      have hk1 : so q k = en - sl p k := by unfold so; rw [hB, if_neg (by omega), if_pos rfl]
      have hk2 : sl q k = sl p k := by unfold sl at *; rw [hB, if_pos rfl]
      have hso : ∀ i, i < B p 0 → i ≠ k → so q i = so out i := fun i hi hik => by
        unfold so
        rw [hB, if_neg (by omega), if_neg (by omega), if_neg (by omega)]
      have hsl : ∀ i, i < B p 0 → i ≠ k → sl q i = sl out i := fun i hi hik => by
        show B q (3 + 2 * i) = B out (3 + 2 * i)
        rw [hB, if_neg (by omega), if_neg (by omega), if_neg (by omega)]
      refine ⟨hql, fun x => ?_, ?_, ?_, by simp only [S]; omega, fun i hi hc => ?_, fun i hi hi0 => ?_, fun i j hij hj hi0 hj0 => ?_⟩
      · rw [hB]
        have := ih.byte x
        have := rc_byte h.byte k (x - (en - sl p k))
        split
        · omega
        · split
          · omega
          · split
            · omega
            · omega
      · rw [hB, if_neg (by omega), if_neg (by omega), if_neg (by omega)]
        exact ih.b0
      · rw [hB, if_neg (by omega), if_neg (by omega), if_neg (by omega)]
        exact ih.b1
      · have hik : i ≠ k := by
          rcases hc with hc | hc
          · omega
          · exact fun e => hu (e ▸ hc)
        rw [hso i hi hik, hsl i hi hik]
        exact ih.free i hi (by rcases hc with hc | hc; (left; omega); (right; exact hc))
      · by_cases hik : i = k
        · subst hik
          rw [hk1, hk2]
          refine ⟨Nat.le_refl _, by omega, rfl, fun t ht => ?_⟩
          rw [hB, if_neg (by omega), if_neg (by omega), if_pos (by omega)]
          have : en - sl p i + t - (en - sl p i) = t := by omega
          rw [this, rc_get ht]
        · have hu2 := ih.used i (by omega) hi0
          rw [hso i (by omega) hik, hsl i (by omega) hik]
          refine ⟨by omega, hu2.2.1, hu2.2.2.1, fun t ht => ?_⟩
          rw [hB, if_neg (by omega), if_neg (by omega), if_neg (by omega)]
          exact hu2.2.2.2 t ht
      · have hu2 := ih.used i (by omega) hi0
        rw [hso i (by omega) (by omega)]
        by_cases hjk : j = k
        · subst hjk
          rw [hk1, hk2]
          omega
        · rw [hso j (by omega) hjk, hsl j (by omega) hjk]
          exact ih.disj i j hij (by omega) hi0 hj0

/-- What compact leaves. -/
theorem compact_spec {p : List Nat} (h : WF p) : WF (compactL p) ∧ B (compactL p) 0 = B p 0 ∧ dS (compactL p) + S p (B p 0) = 256 ∧
    ∀ i, i < B p 0 → (so p i = 0 → so (compactL p) i = 0) ∧ (so p i ≠ 0 → so (compactL p) i ≠ 0) ∧ sl (compactL p) i = sl p i ∧ rc (compactL p) i = rc p i := by
  have hc := h.ci (B p 0) (Nat.le_refl _)
  have hsum := h.sum (Nat.le_refl _)
  have hroom := h.room
  have hB : ∀ x, B (compactL p) x = if x = 1 then (if (cst p (B p 0)).2 < 256 then (cst p (B p 0)).2 else 0) else B (cst p (B p 0)).1 x := fun x => by
    unfold compactL
    by_cases he : (cst p (B p 0)).2 < 256
    · rw [if_pos he, if_pos he, B_set x (by rw [hc.len]; omega)]
    · rw [if_neg he, if_neg he]
      split
      · next hx => rw [hx]; exact hc.b1
      · rfl
  have hlen : (compactL p).length = 256 := by
    unfold compactL
    split
    · rw [List.length_set, hc.len]
    · exact hc.len
  generalize compactL p = q at *
  generalize (cst p (B p 0)).1 = out at *
  generalize (cst p (B p 0)).2 = e at *
  have hes := hc.sum
  have hds : dS q = e := by
    unfold dS
    rw [hB 1, if_pos rfl]
    by_cases he : e < 256
    · rw [if_pos he, if_neg (by omega)]
    · rw [if_neg he, if_pos rfl]
      omega
  have h0 : B q 0 = B p 0 := by rw [hB, if_neg (by omega)]; exact hc.b0
  have hso : ∀ i, so q i = so out i := fun i => by unfold so; rw [hB, if_neg (by omega)]
  have hsl : ∀ i, sl q i = sl out i := fun i => by unfold sl; rw [hB, if_neg (by omega)]
  refine ⟨⟨hlen, fun k => ?_, by rw [h0, hds]; omega, fun i hi => ?_, fun i j hij hj hi0 hj0 => ?_, fun hp => ?_⟩, h0, by rw [hds]; omega, fun i hi => ⟨fun hu => ?_, fun hu => ?_, ?_, ?_⟩⟩
  · rw [hB]
    have := hc.byte k
    split
    · split <;> omega
    · omega
  · rw [h0] at hi
    rw [hso, hsl, hds]
    by_cases hu : so p i = 0
    · left
      exact hc.free i hi (.inr hu)
    · right
      have h1 := hc.used i hi hu
      have h2 := h.used hi hu
      omega
  · rw [h0] at hj
    rw [hso] at hi0 hj0
    rw [hso, hso, hsl, hsl]
    have hi1 : so p i ≠ 0 := fun e => hi0 (hc.free i (by omega) (.inr e)).1
    have hj1 : so p j ≠ 0 := fun e => hj0 (hc.free j (by omega) (.inr e)).1
    right
    exact hc.disj i j hij hj hi1 hj1
  · rw [h0] at hp
    rw [h0, hso]
    have := (hc.used (B p 0 - 1) (by omega) (h.last hp)).1
    omega
  · rw [hso]
    exact (hc.free i hi (.inr hu)).1
  · rw [hso]
    have := (hc.used i hi hu).1
    omega
  · rw [hsl]
    by_cases hu : so p i = 0
    · rw [(hc.free i hi (.inr hu)).2, h.free hi hu]
    · exact (hc.used i hi hu).2.2.1
  · by_cases hu : so p i = 0
    · refine rc_congr ?_ fun t ht => ?_
      · rw [hsl, (hc.free i hi (.inr hu)).2, h.free hi hu]
      · have := h.free hi hu
        omega
    · have h1 := hc.used i hi hu
      refine rc_congr (by rw [hsl]; exact h1.2.2.1) fun t ht => ?_
      rw [hso, hB, if_neg (by omega)]
      exact h1.2.2.2 t ht

end Go.Proofs.Ytalgocjhcgmdlaa
