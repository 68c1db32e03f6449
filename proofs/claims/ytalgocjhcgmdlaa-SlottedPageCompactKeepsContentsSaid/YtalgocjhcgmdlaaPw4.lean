/-
  The walks of Check, Get, Slots, firstFree.
-/
import Derived.Test.YtalgocjhcgmdlaaPw3
namespace Go.Proofs.Ytalgocjhcgmdlaa
open Go.RowKit

set_option maxRecDepth 100000 in
set_option maxHeartbeats 1000000 in
theorem checkPage {base g c : Nat} {p : List Nat} (w : World) (h : Pg base w g c p) (hw : WF p) :
    Calls Try.prog 17 #[.slice (some ⟨g, 0, none⟩) 256 c] w fun e w' => e = .returned (.int .i64 0) ∧ Below w.heap.size w w' := by
  have c0 := h.at_ (k := 0) (by omega)
  have hn := hw.n_le
  have hroom := hw.room
  have hlast := hw.last
  have HD := Lib.hid (dataStart w h)
  have HS := Lib.hid fun (h0 : 0 < B p 0) => slotAt w h (B p 0 - 1) (by omega)
  have HJ := Lib.hid fun W (hW : Below w.heap.size w W) => disjoint W (h.below hW) hw
  generalize dS p = d at *
  by_cases h0 : B p 0 = 0
  · clear HS hlast
    rw [h0] at c0 hroom
    clear hw h h0 hn
    have x1 : decide ((d : Int) < 2) = false := decide_eq_false (by omega)
    have x2 : ¬ ((d : Int) < 2) := by omega
    go_enter Try.func17, Try.ntmps17
    go_wp2_with fail
    refine HD.out.mono ?_
    rintro e w1 ⟨rfl, rfl⟩
    go_wp2_with fail
    refine (HJ.out w (Below.refl _ _)).mono ?_
    rintro e w1 ⟨rfl, hb⟩
    go_wp2_with fail
    go_ret
    exact ⟨rfl, hb⟩
  · have HS' := HS.out (by omega)
    have hl := hlast (by omega)
    obtain ⟨m, hm⟩ : ∃ m, B p 0 = m + 1 := ⟨B p 0 - 1, by omega⟩
    rw [hm] at c0 hroom HS' hl hn
    rw [Nat.add_sub_cancel] at HS' hl
    generalize so p m = o at *
    generalize sl p m = l at *
    have HSS := Lib.hid HS'
    clear HS HS' hlast hw h h0 hm
    have x1 : ((m + 1 : Nat) : Int) - 1 = (m : Int) := by omega
    have x3 : ((m : Int) + 1) - 1 = (m : Int) := by omega
    have x2 : ¬ ((d : Int) < 2 + 2 * ((m + 1 : Nat) : Int)) := by omega
    have x4 : ¬ ((d : Int) < 2 + 2 * ((m : Int) + 1)) := by omega
    have x5 : ((o : Int) == 0) = false := by rw [beq_eq_false_iff_ne]; omega
    have x6 : (0 : Int) < (m : Int) + 1 := by omega
    have x7 : ((m : Int) + 1) < 256 := by omega
    go_enter Try.func17, Try.ntmps17
    go_wp2_with fail
    refine HD.out.mono ?_
    rintro e w1 ⟨rfl, rfl⟩
    go_wp2_with fail
    refine HSS.out.mono ?_
    rintro e w1 ⟨rfl, nd, rfl⟩
    go_wp2_with fail
    refine (HJ.out _ (below_drewN (Below.refl _ _) nd)).mono ?_
    rintro e w1 ⟨rfl, hb⟩
    go_wp2_with fail
    go_ret
    exact ⟨rfl, (below_drewN (Below.refl _ _) nd).trans hb⟩

/-- What Get leaves. -/
def GetPost (w : World) (o : Option (List Nat)) (e : Ending) (w' : World) : Prop :=
  Below w.heap.size w w' ∧ match o with
    | some r => ∃ v, e = .returned (.tuple #[v, .int .i64 0]) ∧ Byt w.heap.size w' v r
    | none => e = .returned (.tuple #[.slice none 0 0, .int .i64 4])

theorem rc_cut {p : List Nat} {i : Nat} (h : so p i + sl p i ≤ p.length) : (p.drop (so p i)).take (sl p i) = rc p i := by
  apply List.ext_getElem?
  intro t
  rw [List.getElem?_take, List.getElem?_drop]
  unfold rc
  rw [List.getElem?_map]
  by_cases ht : t < sl p i
  · rw [if_pos ht, List.getElem?_range ht, Option.map_some, List.getElem?_eq_getElem (by omega), B_get (by omega)]
  · rw [if_neg ht, List.getElem?_eq_none (by simpa using ht)]
    rfl
theorem Pg.cut {base g c : Nat} {p : List Nat} {w : World} (h : Pg base w g c p) {o l : Nat} (ho : o + l ≤ 256) (hl : 0 < l) : Elems 1 nbCs w (· < w.heap.size) (some ⟨g, o, none⟩) ((p.drop o).take l) := by
  have := (h.elems.cut (k := o) (c := c) (by rw [h.2.1]; omega) (by rw [h.2.1]; exact h.cap.1)).take l
  have hc := h.cap.1
  have e : Option.map (·.add (o * 1)) (some (⟨g, 0, none⟩ : Addr)) = some ⟨g, o, none⟩ := by
    show some (Addr.add ⟨g, 0, none⟩ (o * 1)) = _
    rw [Addr.add_lit, Nat.zero_add, Nat.mul_one]
  rw [if_neg (by omega), e] at this
  exact this

set_option maxRecDepth 100000 in
set_option maxHeartbeats 1000000 in
theorem getPage {base g c : Nat} {p : List Nat} (w : World) (h : Pg base w g c p) (hw : WF p) (i : Nat) (hi : i ≤ 1000) :
    Calls Try.prog 22 #[.slice (some ⟨g, 0, none⟩) 256 c, .int .i64 i] w (GetPost w (cont p i)) := by
  have hn := hw.n_le
  have c0 := fun W (hW : Pg base W g c p) => hW.at_ (k := 0) (by omega)
  have hc := h.cap.1
  have HCH := Lib.hid (checkPage w h hw)
  have HP := Lib.hid fun W (hW : Below w.heap.size w W) => h.below hW
  by_cases hin : i < B p 0
  · have HS := Lib.hid fun W (hW : Pg base W g c p) => slotAt W hW i (by omega)
    by_cases hu : so p i = 0
    · rw [cont_none (fun hh => hh.2 hu)]
      rw [hu] at HS
      generalize sl p i = l at *
      generalize B p 0 = n at *
      have HC0 := Lib.hid c0
      clear hu h hw c0
      have y1 : ¬ ((n : Int) ≤ (i : Int)) := by omega
      have y2 : (n : Int) < 256 := by omega
      go_enter Try.func22, Try.ntmps22
      go_wp2_with fail
      refine HCH.out.mono ?_
      rintro e w1 ⟨rfl, hb⟩
      have z0 := HC0.out w1 (HP.out w1 hb)
      have HB := Lib.hid hb
      clear hb
      go_wp2_with fail
      refine (HS.out w1 (HP.out w1 HB.out)).mono ?_
      rintro e w2 ⟨rfl, nd, rfl⟩
      go_wp2_with fail
      go_ret2
      exact ⟨below_drewN HB.out nd, rfl⟩
    · rw [cont_some hin hu]
      have hus := hw.used hin hu
      have hrc := rc_cut (p := p) (i := i) (by rw [h.2.1]; omega)
      have HE := Lib.hid fun W (hW : Pg base W g c p) => hW.cut (o := so p i) (l := sl p i) (by omega) (by omega)
      rw [hrc] at HE
      have hrl := rc_len p i
      have hds := hw.ds_le
      generalize rc p i = r at *
      generalize so p i = o at *
      generalize sl p i = l at *
      generalize B p 0 = n at *
      have HC0 := Lib.hid c0
      have HCL := Lib.hid fun W (hW : Pg base W g c p) => cloneB ⟨g, o, none⟩ l (c - o) r W (HE.out W hW) hrl.symm (by omega)
      have y1 : ¬ ((n : Int) ≤ (i : Int)) := by omega
      have y2 : (n : Int) < 256 := by omega
      have y3 : ((o : Int) == 0) = false := by rw [beq_eq_false_iff_ne]; omega
      obtain ⟨s, hs⟩ : ∃ s, s = o + l := ⟨_, rfl⟩
      have y4 : (o : Int) + (l : Int) = (s : Int) := by omega
      have y5 : ¬ c = o := by omega
      have y6 : s ≤ c := by omega
      have y7 : o ≤ s := by omega
      have y8 : s - o = l := by omega
      have y9 : (s : Int) ≤ (c : Int) := by omega
      clear h hw c0 hrc hrl HE hu hs
      go_enter Try.func22, Try.ntmps22
      go_wp2_with fail
      refine HCH.out.mono ?_
      rintro e w1 ⟨rfl, hb⟩
      have z0 := HC0.out w1 (HP.out w1 hb)
      have HB := Lib.hid hb
      clear hb
      go_wp2_with fail
      refine (HS.out w1 (HP.out w1 HB.out)).mono ?_
      rintro e w2 ⟨rfl, nd, rfl⟩
      go_wp2_with fail
      refine (HCL.out _ (HP.out _ (below_drewN HB.out nd))).mono ?_
      rintro e w3 ⟨v, rfl, ho, hb3⟩
      go_wp2_with fail
      go_ret2
      exact ⟨(below_drewN HB.out nd).trans (hb3.mono HB.out.size), v, rfl, ho.mono HB.out.size⟩
  · rw [cont_none (fun hh => hin hh.1)]
    generalize B p 0 = n at *
    have HC0 := Lib.hid c0
    clear h hw c0
    have y1 : (n : Int) ≤ (i : Int) := by omega
    have y2 : (n : Int) < 256 := by omega
    go_enter Try.func22, Try.ntmps22
    go_wp2_with fail
    refine HCH.out.mono ?_
    rintro e w1 ⟨rfl, hb⟩
    have z0 := HC0.out w1 (HP.out w1 hb)
    have HB := Lib.hid hb
    clear hb
    go_wp2_with fail
    go_ret2
    exact ⟨HB.out, rfl⟩

end Go.Proofs.Ytalgocjhcgmdlaa
