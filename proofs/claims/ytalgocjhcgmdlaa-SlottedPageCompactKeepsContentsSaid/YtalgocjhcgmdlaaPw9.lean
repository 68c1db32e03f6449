/-
  The walks of Insert, Update.
-/
import Derived.Test.YtalgocjhcgmdlaaPw8
namespace Go.Proofs.Ytalgocjhcgmdlaa
open Go.RowKit

/-- What Insert leaves. -/
def InsPost (w : World) (p r : List Nat) (e : Ending) (w' : World) : Prop :=
  Below w.heap.size w w' ∧
    if r.length < 1 ∨ 100 < r.length then e = .returned (.tuple #[.slice none 0 0, .int .i64 0, .int .i64 1])
    else if cap p < r.length then e = .returned (.tuple #[.slice none 0 0, .int .i64 0, .int .i64 18])
    else ∃ g' c', e = .returned (.tuple #[.slice (some ⟨g', 0, none⟩) 256 c', .int .i64 (ffree p : Nat), .int .i64 0]) ∧ Pg w.heap.size w' g' c' (place p (ffree p) r)

theorem cap_fit {p r : List Nat} (h : WF p) (hc : ¬ cap p < r.length) (h1 : 1 ≤ r.length) : r.length + 2 + 2 * max (B p 0) (ffree p + 1) + S p (B p 0) ≤ 256 := by
  have := h.sum (Nat.le_refl _)
  unfold cap at hc
  omega

set_option maxRecDepth 100000 in
set_option maxHeartbeats 1000000 in
theorem insertPage {base g c gr cr : Nat} {p r : List Nat} (w : World) (h : Pg base w g c p) (hw : WF p) (hrec : Rec w gr cr r) (hrb : ∀ t, r.getD t 0 < 256) :
    Calls Try.prog 10 #[.slice (some ⟨g, 0, none⟩) 256 c, .slice (some ⟨gr, 0, none⟩) r.length cr] w (InsPost w p r) := by
  have HCH := Lib.hid (checkPage w h hw)
  have HCP := Lib.hid fun W (hW : Below w.heap.size w W) => capacityPage W (h.below hW) hw
  have HFF := Lib.hid fun W (hW : Below w.heap.size w W) => firstFree W (h.below hW) hw.n_le
  have HPL := Lib.hid fun W (hW : Below w.heap.size w W) (h1 : 1 ≤ r.length) (h2 : r.length ≤ 100) (hc : ¬ cap p < r.length) => placePage W (h.below hW) hw (hrec.below hW) (ffree p) h1 h2 hrb (cap_fit hw hc h1)
  unfold InsPost
  have hcap : cap p ≤ 100 := by unfold cap; omega
  generalize place p (ffree p) r = q at *
  generalize ffree p = f at *
  generalize cap p = cp at *
  clear h hrec hw hrb
  by_cases hbad : r.length < 1 ∨ 100 < r.length
  · simp only [if_pos hbad]
    clear HPL
    obtain ⟨l, hl⟩ : ∃ l, l = r.length := ⟨_, rfl⟩
    rw [← hl] at hbad ⊢
    clear hl
    rcases hbad with hb | hb
    · have x1 : decide ((l : Int) < 1) = true := decide_eq_true (by omega)
      have x2 : (l : Int) < 1 := by omega
      go_enter Try.func10, Try.ntmps10
      go_wp2_with fail
      refine HCH.out.mono ?_
      rintro e w1 ⟨rfl, hb1⟩
      go_wp2_with fail
      go_ret3
      exact ⟨hb1, rfl⟩
    · have x1 : decide ((l : Int) < 1) = false := decide_eq_false (by omega)
      have x2 : (100 : Int) < (l : Int) := by omega
      go_enter Try.func10, Try.ntmps10
      go_wp2_with fail
      refine HCH.out.mono ?_
      rintro e w1 ⟨rfl, hb1⟩
      go_wp2_with fail
      go_ret3
      exact ⟨hb1, rfl⟩
  · simp only [if_neg hbad]
    by_cases hfull : cp < r.length
    · simp only [if_pos hfull]
      clear HPL
      obtain ⟨l, hl⟩ : ∃ l, l = r.length := ⟨_, rfl⟩
      rw [← hl] at hbad hfull ⊢
      clear hl
      have x1 : decide ((l : Int) < 1) = false := decide_eq_false (by omega)
      have x2 : decide ((100 : Int) < (l : Int)) = false := decide_eq_false (by omega)
      have x3 : decide ((cp : Int) < (l : Int)) = true := decide_eq_true (by omega)
      go_enter Try.func10, Try.ntmps10
      go_wp2_with fail
      refine HCH.out.mono ?_
      rintro e w1 ⟨rfl, hb1⟩
      go_wp2_with fail
      refine (HCP.out w1 hb1).mono ?_
      rintro e w2 ⟨rfl, hb2⟩
      go_wp2_with fail
      go_ret3
      exact ⟨hb1.trans (hb2.mono hb1.size), rfl⟩
    · simp only [if_neg hfull]
      have HPL2 := Lib.hid fun W (hW : Below w.heap.size w W) => HPL.out W hW (by omega) (by omega) hfull
      clear HPL
      obtain ⟨l, hl⟩ : ∃ l, l = r.length := ⟨_, rfl⟩
      rw [← hl] at hbad hfull HPL2 ⊢
      clear hl
      have x1 : decide ((l : Int) < 1) = false := decide_eq_false (by omega)
      have x2 : decide ((100 : Int) < (l : Int)) = false := decide_eq_false (by omega)
      have x3 : decide ((cp : Int) < (l : Int)) = false := decide_eq_false (by omega)
      go_enter Try.func10, Try.ntmps10
      go_wp2_with fail
      refine HCH.out.mono ?_
      rintro e w1 ⟨rfl, hb1⟩
      go_wp2_with fail
      refine (HCP.out w1 hb1).mono ?_
      rintro e w2 ⟨rfl, hb2⟩
      have HB2 := Lib.hid (hb1.trans (hb2.mono hb1.size))
      clear hb2 hb1
      go_wp2_with fail
      refine (HFF.out w2 HB2.out).mono ?_
      rintro e w3 ⟨rfl, nd, rfl⟩
      have HB3 := Lib.hid (below_drewN HB2.out nd)
      go_wp2_with fail
      refine (HPL2.out _ HB3.out).mono ?_
      rintro e w4 ⟨g4, c4, rfl, hp4, hb4⟩
      have HP4 := Lib.hid hp4
      clear hp4
      go_wp2_with fail
      go_ret3
      exact ⟨HB3.out.trans (hb4.mono HB3.out.size), g4, c4, rfl, HP4.out.mono HB3.out.size⟩

/-- A record as long as the old one is always taken. -/
theorem upd_fit {p r : List Nat} {i : Nat} (h : WF p) (hi : i < B p 0) (hl : r.length = sl p i) : r.length + 2 + 2 * max (B (rem p i) 0) (i + 1) + S (rem p i) (B (rem p i) 0) ≤ 256 := by
  obtain ⟨hw, h0, h2, h3, hs⟩ := rem_spec h hi
  have hroom := h.room
  have hsum := h.sum (Nat.le_refl _)
  have key : ∀ n, n ≤ B p 0 → S p n = (if i < n then S (rem p i) n + sl p i else S (rem p i) n) ∧ (i < B (rem p i) 0 → sl (rem p i) i = 0) := by
    have hri : sl (rem p i) i = 0 := by
      unfold sl rem
      rw [B_set _ (by rw [setS_len, h.len]; omega), if_neg (by omega), B_setS _ (by rw [h.len]; omega), if_pos rfl]
    intro n
    induction n with
    | zero => exact fun _ => ⟨by rw [if_neg (by omega)]; rfl, fun _ => hri⟩
    | succ n ih =>
      intro hn
      obtain ⟨ih1, ih2⟩ := ih (by omega)
      refine ⟨?_, ih2⟩
      simp only [S]
      by_cases e : n = i
      · subst e
        rw [ih1, if_neg (by omega), if_pos (by omega), hri]
        omega
      · rw [(hs n (by omega) e).2.1, ih1]
        by_cases hin : i < n
        · rw [if_pos hin, if_pos (by omega)]
          omega
        · rw [if_neg hin, if_neg (by omega)]
  have hS := (key (B p 0) (Nat.le_refl _)).1
  rw [if_pos hi] at hS
  have hmono : ∀ n m, n ≤ m → S (rem p i) n ≤ S (rem p i) m := by
    intro n m hnm
    induction m with
    | zero => have : n = 0 := by omega
              rw [this]; exact Nat.le_refl _
    | succ m ih =>
      by_cases e : n = m + 1
      · rw [e]; exact Nat.le_refl _
      · have := ih (by omega)
        simp only [S]
        omega
  have := hmono _ _ h0
  omega

/-- What Update leaves, with a record as long as the old one. -/
def UpdPost (w : World) (p : List Nat) (i : Nat) (r : List Nat) (e : Ending) (w' : World) : Prop :=
  Below w.heap.size w w' ∧ ∃ g' c', e = .returned (.tuple #[.slice (some ⟨g', 0, none⟩) 256 c', .int .i64 0]) ∧ Pg w.heap.size w' g' c' (place (rem p i) i r)

set_option maxRecDepth 100000 in
set_option maxHeartbeats 1000000 in
theorem updatePage {base g c gr cr : Nat} {p r : List Nat} (w : World) (h : Pg base w g c p) (hw : WF p) (hrec : Rec w gr cr r) (hrb : ∀ t, r.getD t 0 < 256) (i : Nat) {r0 : List Nat} (hc : cont p i = some r0) (hl : r.length = r0.length) :
    Calls Try.prog 14 #[.slice (some ⟨g, 0, none⟩) 256 c, .int .i64 i, .slice (some ⟨gr, 0, none⟩) r.length cr] w (UpdPost w p i r) := by
  obtain ⟨hi, hu, hr0⟩ := cont_of hc
  have hlen := cont_len hw hc
  have hn := hw.n_le
  have HG := Lib.hid (getPage w h hw i (by omega))
  rw [hc] at HG
  have HRM := Lib.hid fun W (hW : Below w.heap.size w W) => removePage W (h.below hW) hn i hi
  have hls : r.length = sl p i := by rw [hl, hr0, rc_len]
  have hfit := upd_fit hw hi hls
  obtain ⟨hrw, hr0n, _, hri, _⟩ := rem_spec hw hi
  have HB0 := Lib.hid fun W (g' c' : Nat) (hW : Pg w.heap.size W g' c' (rem p i)) => hW.at_ (k := 0) (by omega)
  have HCO := Lib.hid fun W (b' g' c' : Nat) (hW : Pg b' W g' c' (rem p i)) => compactPage W hW hrw
  have HDS := Lib.hid fun W (b' g' c' : Nat) (hW : Pg b' W g' c' (compactL (rem p i))) => dataStart W hW
  have HPL := Lib.hid fun W (b' g' c' : Nat) (hb : Below w.heap.size w W) (hW : Pg b' W g' c' (rem p i)) => placePage W hW hrw (hrec.below hb) i (by omega) (by omega) hrb hfit
  have hcd := (compact_spec hrw).2.2.1
  have hrn := hrw.n_le
  have hd256 := (compact_spec hrw).1.ds_le
  unfold UpdPost
  generalize place (rem p i) i r = q at *
  generalize dS (compactL (rem p i)) = d at *
  generalize compactL (rem p i) = cq at *
  generalize S (rem p i) (B (rem p i) 0) = sm at *
  generalize B (rem p i) 0 = n at *
  generalize rem p i = rp at *
  obtain ⟨l, hl2⟩ : ∃ l, l = r.length := ⟨_, rfl⟩
  rw [← hl2] at hfit HPL hl ⊢
  obtain ⟨f1, hf1⟩ : ∃ f1, f1 = i + 1 := ⟨_, rfl⟩
  have y6 : (i : Int) + 1 = (f1 : Int) := by omega
  have hmx : (n < f1 ∧ d - 2 - 2 * f1 ≥ l ∧ 2 + 2 * f1 ≤ d) ∨ (f1 ≤ n ∧ d - 2 - 2 * n ≥ l ∧ 2 + 2 * n ≤ d) := by omega
  have x1 : decide ((l : Int) < 1) = false := decide_eq_false (by omega)
  have x2 : decide ((100 : Int) < (l : Int)) = false := decide_eq_false (by omega)
  have n256 : n < 256 := by omega
  clear h hrec hw hrb hls hl2 hc hr0 hri hfit hrw hcd hlen hl
  rcases hmx with ⟨hm, hm1, hm2⟩ | ⟨hm, hm1, hm2⟩
  · have y7 : (n : Int) < (f1 : Int) := by omega
    have x3 : decide ((d : Int) - 2 - 2 * (f1 : Int) < (l : Int)) = false := decide_eq_false (by omega)
    have x4 : ¬ ((d : Int) - 2 - 2 * (f1 : Int) < (l : Int)) := by omega
    clear hm hm1 hm2 hf1
    go_enter Try.func14, Try.ntmps14
    go_wp2_with fail
    refine HG.out.mono ?_
    rintro e w1 ⟨hb1, v, he, hv⟩
    subst he
    clear hv
    go_wp2_with fail
    refine (HRM.out w1 hb1).mono ?_
    rintro e w2 ⟨g2, c2, rfl, hp2, hb2⟩
    have hp2' := hp2.mono hb1.size
    have z0 := HB0.out w2 g2 c2 hp2'
    have HP2 := Lib.hid hp2'
    have HB2 := Lib.hid (hb1.trans (hb2.mono hb1.size))
    clear hp2 hb2 hb1 hp2'
    go_wp2_with fail
    refine (HCO.out w2 _ g2 c2 HP2.out).mono ?_
    rintro e w3 ⟨rfl, hp3, hb3⟩
    have HB3 := Lib.hid hb3
    go_wp2_with fail
    refine (HDS.out w3 _ _ _ hp3).mono ?_
    rintro e w4 ⟨rfl, rfl⟩
    clear hp3 hb3
    go_wp2_with fail
    refine (HPL.out w3 _ g2 c2 (HB2.out.trans (HB3.out.mono HB2.out.size)) (HP2.out.below HB3.out)).mono ?_
    rintro e w5 ⟨g5, c5, rfl, hp5, hb5⟩
    have HP5 := Lib.hid hp5
    clear hp5
    go_wp2_with fail
    go_ret2
    have hs3 := (HB2.out.trans (HB3.out.mono HB2.out.size)).size
    exact ⟨(HB2.out.trans (HB3.out.mono HB2.out.size)).trans (hb5.mono hs3), g5, c5, rfl, HP5.out.mono hs3⟩
  · have y7 : ¬ ((n : Int) < (f1 : Int)) := by omega
    have x3 : decide ((d : Int) - 2 - 2 * (n : Int) < (l : Int)) = false := decide_eq_false (by omega)
    have x4 : ¬ ((d : Int) - 2 - 2 * (n : Int) < (l : Int)) := by omega
    clear hm hm1 hm2 hf1
    go_enter Try.func14, Try.ntmps14
    go_wp2_with fail
    refine HG.out.mono ?_
    rintro e w1 ⟨hb1, v, he, hv⟩
    subst he
    clear hv
    go_wp2_with fail
    refine (HRM.out w1 hb1).mono ?_
    rintro e w2 ⟨g2, c2, rfl, hp2, hb2⟩
    have hp2' := hp2.mono hb1.size
    have z0 := HB0.out w2 g2 c2 hp2'
    have HP2 := Lib.hid hp2'
    have HB2 := Lib.hid (hb1.trans (hb2.mono hb1.size))
    clear hp2 hb2 hb1 hp2'
    go_wp2_with fail
    refine (HCO.out w2 _ g2 c2 HP2.out).mono ?_
    rintro e w3 ⟨rfl, hp3, hb3⟩
    have HB3 := Lib.hid hb3
    go_wp2_with fail
    refine (HDS.out w3 _ _ _ hp3).mono ?_
    rintro e w4 ⟨rfl, rfl⟩
    clear hp3 hb3
    go_wp2_with fail
    refine (HPL.out w3 _ g2 c2 (HB2.out.trans (HB3.out.mono HB2.out.size)) (HP2.out.below HB3.out)).mono ?_
    rintro e w5 ⟨g5, c5, rfl, hp5, hb5⟩
    have HP5 := Lib.hid hp5
    clear hp5
    go_wp2_with fail
    go_ret2
    have hs3 := (HB2.out.trans (HB3.out.mono HB2.out.size)).size
    exact ⟨(HB2.out.trans (HB3.out.mono HB2.out.size)).trans (hb5.mono hs3), g5, c5, rfl, HP5.out.mono hs3⟩

end Go.Proofs.Ytalgocjhcgmdlaa
