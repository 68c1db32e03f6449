/-
  Bitmaps as plain data: words, groups; compressing and expanding. No program in sight.
-/
import Derived.Test.YthobibjbpbnhnaaDoorOwn
import Derived.Laws.BitsAllLaws
import Derived.Lib.QuoteBits
namespace Go.Proofs.YthobibjbpbnhnaaDoor

def gc (n : Nat) : Nat := (n + 30) / 31
/-- The number of groups of a fill. -/
def fillN (w : Int) : Nat := (-w).toNat / 2
/-- One of its groups. -/
def fillP (w : Int) : Nat := if w % 2 = 0 then 0 else 2147483647

theorem fill_of {w : Int} (h : w < 0) : w = -2 * (fillN w : Int) ∧ fillP w = 0 ∨ w = -2 * (fillN w : Int) - 1 ∧ fillP w = 2147483647 := by
  unfold fillN fillP
  rcases Int.emod_two_eq w with e | e
  · left; rw [if_pos e]; omega
  · right; rw [if_neg (by omega)]; omega

def push (ws : List Int) (g : Nat) : List Int :=
  if 0 < g ∧ g < 2147483647 then ws ++ [(g : Int)]
  else match ws.getLast? with
    | some l => if l < 0 ∧ fillP l = g then ws.dropLast ++ [l - 2] else ws ++ [-2 - ((g % 2 : Nat) : Int)]
    | none => [-2 - ((g % 2 : Nat) : Int)]
def comp (gs : List Nat) : List Int := gs.foldl push []
def expW (w : Int) : List Nat := if 0 ≤ w then [w.toNat] else List.replicate (fillN w) (fillP w)
def exp (ws : List Int) : List Nat := ws.flatMap expW

theorem push_lit {g : Nat} (h : 0 < g ∧ g < 2147483647) (ws : List Int) : push ws g = ws ++ [(g : Int)] := if_pos h
theorem push_nil {g : Nat} (h : ¬ (0 < g ∧ g < 2147483647)) : push [] g = [-2 - ((g % 2 : Nat) : Int)] := if_neg h
theorem push_more {g : Nat} (h : ¬ (0 < g ∧ g < 2147483647)) (ws : List Int) {l : Int} (hl : l < 0 ∧ fillP l = g) : push (ws ++ [l]) g = ws ++ [l - 2] := by
  unfold push
  rw [if_neg h]
  simp [hl]
theorem push_new {g : Nat} (h : ¬ (0 < g ∧ g < 2147483647)) (ws : List Int) {l : Int} (hl : ¬ (l < 0 ∧ fillP l = g)) : push (ws ++ [l]) g = ws ++ [l] ++ [-2 - ((g % 2 : Nat) : Int)] := by
  unfold push
  rw [if_neg h]
  simp [hl]

structure Wc (ws : List Int) : Prop where
  lit : ∀ w ∈ ws, 0 ≤ w → 0 < w ∧ w < 2147483647
  fill : ∀ w ∈ ws, w < 0 → 1 ≤ fillN w
  apart : ∀ i a b, ws[i]? = some a → ws[i + 1]? = some b → a < 0 → b < 0 → fillP a ≠ fillP b

theorem exp_app (a b : List Int) : exp (a ++ b) = exp a ++ exp b := List.flatMap_append
theorem exp_one (w : Int) : exp [w] = expW w := by simp [exp]

theorem list_snoc' {α : Type} (d : List α) : d = [] ∨ ∃ e l, d = e ++ [l] := by
  rcases List.eq_nil_or_concat d with h | ⟨e, l, h⟩
  · exact .inl h
  · exact .inr ⟨e, l, by simpa using h⟩

theorem wc_nil : Wc [] := ⟨by simp, by simp, fun i a b h => by simp at h⟩
theorem wc_push {ws : List Int} {w : Int} (h : Wc ws) (h1 : 0 ≤ w → 0 < w ∧ w < 2147483647) (h2 : w < 0 → 1 ≤ fillN w) (h3 : ∀ l, ws.getLast? = some l → l < 0 → w < 0 → fillP l ≠ fillP w) : Wc (ws ++ [w]) := by
  refine ⟨fun x hx => ?_, fun x hx => ?_, fun i a b ha hb => ?_⟩
  · rcases List.mem_append.1 hx with hx | hx
    · exact h.lit x hx
    · simp at hx; subst hx; exact h1
  · rcases List.mem_append.1 hx with hx | hx
    · exact h.fill x hx
    · simp at hx; subst hx; exact h2
  · by_cases hi : i + 1 < ws.length
    · rw [List.getElem?_append_left (by omega)] at ha
      rw [List.getElem?_append_left hi] at hb
      exact h.apart i a b ha hb
    · have hb' := (List.getElem?_eq_some_iff.1 hb).1
      simp at hb'
      have hi' : i + 1 = ws.length := by omega
      rw [List.getElem?_append_right (by omega), hi', Nat.sub_self] at hb
      simp at hb
      subst hb
      rw [List.getElem?_append_left (by omega)] at ha
      apply h3
      rw [List.getLast?_eq_getElem?, ← ha]
      congr 1
      omega

theorem fillN_new (g : Nat) : fillN (-2 - ((g % 2 : Nat) : Int)) = 1 := by
  unfold fillN
  omega
theorem fillP_new {g : Nat} (h : ¬ (0 < g ∧ g < 2147483647)) (hg : g ≤ 2147483647) : fillP (-2 - ((g % 2 : Nat) : Int)) = g := by
  unfold fillP
  split <;> omega
theorem fillN_more {l : Int} (h : l < 0) : fillN (l - 2) = fillN l + 1 := by
  unfold fillN
  omega
theorem fillP_more (l : Int) : fillP (l - 2) = fillP l := by
  unfold fillP
  have : (l - 2) % 2 = l % 2 := by omega
  rw [this]

theorem push_spec {ws : List Int} (h : Wc ws) {g : Nat} (hg : g ≤ 2147483647) : Wc (push ws g) ∧ exp (push ws g) = exp ws ++ [g] := by
  by_cases hl : 0 < g ∧ g < 2147483647
  · rw [push_lit hl]
    refine ⟨wc_push h (fun _ => by omega) (fun h => by omega) (fun _ _ _ h => by omega), ?_⟩
    rw [exp_app, exp_one, expW, if_pos (by omega)]
    simp
  · have hnew : ∀ l', Wc l' → (∀ l, l'.getLast? = some l → ¬ (l < 0 ∧ fillP l = g)) → Wc (l' ++ [-2 - ((g % 2 : Nat) : Int)]) ∧ exp (l' ++ [-2 - ((g % 2 : Nat) : Int)]) = exp l' ++ [g] := by
      intro l' hw hlast
      refine ⟨wc_push hw (fun h => by omega) (fun _ => by rw [fillN_new]; omega) (fun l e hneg _ => ?_), ?_⟩
      · rw [fillP_new hl hg]
        exact fun he => hlast l e ⟨hneg, he⟩
      · rw [exp_app, exp_one, expW, if_neg (by omega), fillN_new, fillP_new hl hg]
        rfl
    rcases list_snoc' ws with rfl | ⟨e, l, rfl⟩
    · rw [push_nil hl]
      exact hnew [] wc_nil (by simp)
    · by_cases hm : l < 0 ∧ fillP l = g
      · rw [push_more hl e hm]
        have hlast : fillN (l - 2) = fillN l + 1 := fillN_more hm.1
        have he : Wc e := ⟨fun x hx => h.lit x (by simp [hx]), fun x hx => h.fill x (by simp [hx]), fun i a b ha hb => by
          have h1 := (List.getElem?_eq_some_iff.1 ha).1
          have h2 := (List.getElem?_eq_some_iff.1 hb).1
          exact h.apart i a b (by rw [List.getElem?_append_left h1]; exact ha) (by rw [List.getElem?_append_left h2]; exact hb)⟩
        refine ⟨wc_push he (fun h => by omega) (fun _ => by omega) (fun m hml hmn _ => ?_), ?_⟩
        · rw [fillP_more]
          rw [List.getLast?_eq_getElem?] at hml
          have h1 := (List.getElem?_eq_some_iff.1 hml).1
          refine h.apart (e.length - 1) m l (by rw [List.getElem?_append_left h1]; exact hml) ?_ hmn hm.1
          rw [show e.length - 1 + 1 = e.length by omega, List.getElem?_append_right (Nat.le_refl _), Nat.sub_self]
          rfl
        · have h1 := hm.1
          have h2 := hm.2
          rw [exp_app, exp_app, exp_one, exp_one, expW, expW, if_neg (by omega), if_neg (by omega), hlast, fillP_more, List.replicate_succ', ← List.append_assoc, h2]
      · rw [push_new hl e hm]
        exact hnew _ h (fun m e => by simp at e; subst e; exact hm)

theorem comp_aux : ∀ (gs : List Nat) (ws : List Int), (∀ g ∈ gs, g ≤ 2147483647) → Wc ws → Wc (gs.foldl push ws) ∧ exp (gs.foldl push ws) = exp ws ++ gs
  | [], ws, _, h => ⟨h, by simp⟩
  | g :: gs, ws, hg, h => by
    obtain ⟨h1, h2⟩ := push_spec h (hg g (by simp))
    obtain ⟨h3, h4⟩ := comp_aux gs (push ws g) (fun x hx => hg x (by simp [hx])) h1
    exact ⟨h3, by rw [List.foldl_cons, h4, h2]; simp⟩
theorem wc_comp {gs : List Nat} (hg : ∀ g ∈ gs, g ≤ 2147483647) : Wc (comp gs) := (comp_aux gs [] hg wc_nil).1
theorem exp_comp {gs : List Nat} (hg : ∀ g ∈ gs, g ≤ 2147483647) : exp (comp gs) = gs := (comp_aux gs [] hg wc_nil).2

theorem comp_take {gs : List Nat} {k : Nat} (hk : k < gs.length) : comp (gs.take (k + 1)) = push (comp (gs.take k)) gs[k] := by
  unfold comp
  rw [List.take_succ_eq_append_getElem hk, List.foldl_append]
  rfl
theorem exp_take {ws : List Int} {k : Nat} (hk : k < ws.length) : exp (ws.take (k + 1)) = exp (ws.take k) ++ expW ws[k] := by
  rw [List.take_succ_eq_append_getElem hk, exp_app, exp_one]
theorem exp_take_le (ws : List Int) (k : Nat) : (exp (ws.take k)).length ≤ (exp ws).length := by
  have h : exp ws = exp (ws.take k) ++ exp (ws.drop k) := by
    conv => lhs; rw [← List.take_append_drop k ws]
    exact exp_app _ _
  rw [h]
  simp

theorem expW_len_pos {w : Int} (h1 : w < 0 → 1 ≤ fillN w) : 1 ≤ (expW w).length := by
  unfold expW
  split
  · simp
  · simp; exact h1 (by omega)
theorem ws_len {ws : List Int} (h : Wc ws) : ws.length ≤ (exp ws).length := by
  have : ∀ (ws : List Int), (∀ w ∈ ws, w < 0 → 1 ≤ fillN w) → ws.length ≤ (exp ws).length := by
    intro ws
    induction ws with
    | nil => intro _; simp
    | cons w ws ih =>
      intro h
      have h1 := ih fun x hx => h x (by simp [hx])
      have h2 := expW_len_pos (h w (by simp))
      simp only [exp, List.flatMap_cons, List.length_append, List.length_cons] at h1 ⊢
      omega
  exact this ws h.fill
/-- How far below zero a word lies. -/
theorem word_le {ws : List Int} {k : Nat} (hk : k < ws.length) : ws[k] < 0 → (exp (ws.take k)).length + fillN ws[k] ≤ (exp ws).length := fun hn => by
  have h := exp_take_le ws (k + 1)
  rw [exp_take hk, List.length_append] at h
  have : (expW ws[k]).length = fillN ws[k] := by
    unfold expW
    rw [if_neg (by omega)]
    simp
  omega

/-- The bits that belong to the last group. -/
def mask (n : Nat) : Nat := if n % 31 = 0 then 2147483647 else 2 ^ (n % 31) - 1
/-- x &^ y. -/
def andn (x y : Nat) : Nat := x ^^^ (x &&& y)
theorem testBit_andn (x y i : Nat) : (andn x y).testBit i = (x.testBit i && !y.testBit i) := by
  unfold andn
  rw [Nat.testBit_xor, Nat.testBit_and]
  cases x.testBit i <;> cases y.testBit i <;> rfl

/-- The groups of a bitmap with n bits. -/
structure Good (n : Nat) (gs : List Nat) : Prop where
  len : gs.length = gc n
  bit : ∀ k g, gs[k]? = some g → ∀ j, g.testBit j = true → j < 31 ∧ 31 * k + j < n

theorem testBit_ones31 (j : Nat) : (2147483647 : Nat).testBit j = decide (j < 31) := by
  have := Nat.testBit_two_pow_sub_one 31 j
  simpa using this
theorem lt_of_bits {g : Nat} (h : ∀ j, g.testBit j = true → j < 31) : g ≤ 2147483647 := by
  have : g < 2 ^ 31 := Nat.lt_pow_two_of_testBit g fun j hj => by
    cases hb : g.testBit j with
    | false => rfl
    | true => have := h j hb; omega
  omega
theorem Good.le {n : Nat} {gs : List Nat} (h : Good n gs) : ∀ g ∈ gs, g ≤ 2147483647 := by
  intro g hg
  obtain ⟨k, hk⟩ := List.mem_iff_getElem?.1 hg
  exact lt_of_bits fun j hj => (h.bit k g hk j hj).1

theorem testBit_mask (n j : Nat) : (mask n).testBit j = decide (j < if n % 31 = 0 then 31 else n % 31) := by
  unfold mask
  split
  · exact testBit_ones31 j
  · exact Nat.testBit_two_pow_sub_one _ _

theorem Good.last {n : Nat} {gs : List Nat} (h : Good n gs) {g : Nat} (hg : gs[gs.length - 1]? = some g) : andn g (mask n) = 0 := by
  apply Nat.eq_of_testBit_eq
  intro j
  rw [testBit_andn, Nat.zero_testBit, testBit_mask]
  cases hb : g.testBit j with
  | false => rfl
  | true =>
    obtain ⟨h1, h2⟩ := h.bit _ g hg j hb
    rw [h.len] at h2
    unfold gc at h2
    have : j < if n % 31 = 0 then 31 else n % 31 := by
      split <;> omega
    simp [this]

theorem gc_le {n : Nat} (h : n ≤ 100000) : gc n ≤ 4000 := by unfold gc; omega

end Go.Proofs.YthobibjbpbnhnaaDoor
