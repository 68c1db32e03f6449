/-
  The walk of filledPage.
-/
import Derived.Test.YtalgocjhcgmdlaaPm
import Derived.Test.YtalgocjhcgmdlaaLaw
import Derived.Test.YtalgocjhcgmdlaaMod
namespace Go.Proofs.Ytalgocjhcgmdlaa
open Go.RowKit

theorem Elems.int {w : World} {S : Nat → Prop} {A : Option Addr} {xs : List Int} {k : Nat} (h : Elems 1 intCs w S A xs) (hk : k < xs.length) :
    ∃ b off, A = some ⟨b, off, none⟩ ∧ S b ∧ w.cell? ⟨b, off + k, none⟩ = some (.int .i64 xs[k]) := by
  obtain ⟨b, off, e, hb, hc⟩ := h.at_ hk
  exact ⟨b, off, e, hb, by simpa using hc 0 _ rfl⟩
theorem Pg.grown {base g c b : Nat} {p : List Nat} {w w' : World} (h : Pg base w g c p) (hg : w.grownBy w' (some b)) (hne : g ≠ b) : Pg base w' g c p :=
  ⟨⟨h.1.own.kept hg (.inr (fun e => hne (by injection e)))⟩, h.2⟩
theorem Pg.neMp {base g c b n : Nat} {p p' : List Nat} {w : World} (h : Pg base w g c p) (hm : Mp w b n p') : g ≠ b := by
  obtain ⟨cur, h1, _⟩ := h.row
  exact hm.ne h1
theorem Rw.toRec {base : Nat} {w : World} {g c : Nat} {r : List Nat} (h : Rw base w g c r) : Rec w g c r :=
  ⟨h.elems.more fun k hk => by have := h.lt.2; rw [hk]; exact this, h.cap.1⟩

/-- The page under way, and its map. -/
structure FI (w wr : World) (b : Nat) (p : List Nat) (g c k : Nat) : Prop where
  pg : Pg w.heap.size wr g c p
  wf : WF p
  mp : Mp wr b k p
  full : ∀ i, i < B p 0 → so p i ≠ 0
  pos : 0 < k → 0 < B p 0
  below : Below w.heap.size w wr
  hb : w.heap.size ≤ b
theorem FI.keep {w wr w' : World} {b : Nat} {p : List Nat} {g c k : Nat} (h : FI w wr b p g c k) (hb : Below wr.heap.size wr w') : FI w w' b p g c k :=
  ⟨h.pg.below hb, h.wf, h.mp.below hb, h.full, h.pos, h.below.trans (hb.mono h.below.size), h.hb⟩

theorem ff_full {p : List Nat} (h : ∀ i, i < B p 0 → so p i ≠ 0) : ffree p = B p 0 :=
  (ffree_spec p).uniq ⟨Nat.le_refl _, fun j hj => h j hj, fun hlt => absurd hlt (Nat.lt_irrefl _)⟩
theorem cap_empty {p : List Nat} (h0 : B p 0 = 0) : cap p = 100 := by
  have hf : ffree p = 0 := by have := (ffree_spec p).1; omega
  unfold cap
  rw [h0, hf]
  rfl

/-- What filledPage leaves. -/
def FillPost (w : World) (k : Nat) (e : Ending) (w' : World) : Prop :=
  ∃ p g c b, e = .returned (.tuple #[.slice (some ⟨g, 0, none⟩) 256 c, .map (some b), .bool true]) ∧ FI w w' b p g c k

theorem byte_set {r : List Nat} {l k v : Nat} (hl : r.length = l) (hb : ∀ t, r.getD t 0 < 256) (hv : v < 256) : (r.set k v).length = l ∧ ∀ t, (r.set k v).getD t 0 < 256 := by
  refine ⟨by rw [List.length_set, hl], fun t => ?_⟩
  have hbt := hb t
  rw [List.getD_eq_getElem?_getD] at hbt
  rw [List.getD_eq_getElem?_getD, List.getElem?_set]
  by_cases e : k = t
  · rw [if_pos e]
    split
    · exact hv
    · show 0 < 256
      omega
  · rw [if_neg e]
    exact hbt
theorem byte_rep (l : Nat) : ∀ t, (List.replicate l 0).getD t 0 < 256 := fun t => by
  rw [List.getD_eq_getElem?_getD, List.getElem?_replicate]
  split <;> (show 0 < 256; omega)

set_option maxRecDepth 100000 in
set_option maxHeartbeats 4000000 in
theorem filledPage (A : Option Addr) (c : Nat) (xs : List Int) (w : World) (hx : Elems 1 intCs w (· < w.heap.size) A xs) (hlc : xs.length ≤ c) (hc : c ≤ maxLen) (hok : ∀ n ∈ xs, I64 n) :
    Calls Try.prog 8 #[.slice A xs.length c] w (FillPost w (min xs.length 60)) := by
  unfold maxLen at hc
  have hx1 : (xs.length : Int) ≤ (c : Int) := by omega
  have hmm := @run_makeMap Try.prog
  have HNW := Lib.hid (newPage w)
  have HX := Lib.hid hx
  have HOK := Lib.hid hok
  clear hok
  by_cases h4 : xs.length ≤ 60
  · have hmin : min (xs.length : Int) 60 = (xs.length : Int) := by omega
    have hmn : min xs.length 60 = xs.length := by omega
    rw [hmn]
    have hNN : ∀ k, k < xs.length → k < xs.length := fun k h => h
    have hN6 : xs.length ≤ 60 := h4
    clear hmn hx
    go_enter Try.func8, Try.ntmps8
    go_wp2_with fail
    refine HNW.out.mono ?_
    rintro e w1 ⟨rfl, hp1, hb1⟩
    have HF1 : Hid (FI w (w1.alloc (.map #[] 0)) w1.heap.size zeros w.heap.size 256 0) := Lib.hid
      ⟨hp1.below ((Below.refl _ _).alloc (Nat.le_refl _) _), wf_zeros.1, Mp.first w1, fun i hi => by rw [wf_zeros.2] at hi; omega, fun h => absurd h (Nat.lt_irrefl _), hb1.alloc hb1.size _, hb1.size⟩
    clear hp1 hb1 HNW
    go_wp2_with fail
    go_loopw [5, 22] (fun v i wr => ∃ (k g c1 : Nat) (p : List Nat), k ≤ xs.length ∧ i = .int .i64 k ∧ v = .slice (some ⟨g, 0, none⟩) 256 c1 ∧ FI w wr w1.heap.size p g c1 k) (fun _ i _ => xs.length - (intOf i).toNat)
    case atStart => exact ⟨0, _, _, _, by omega, rfl, rfl, HF1.out⟩
    case round =>
      obtain ⟨k, g, c1, p, hk, rfl, rfl, hfi⟩ := hrel
      clear HF1
      by_cases hlt : k < xs.length
      · have hkx := hNN k hlt
        obtain ⟨bx, off, rfl, hbs, c0⟩ := (HX.out.keep (Keeps.of_below hfi.below fun _ h => h)).int hkx
        have HMD := Lib.hid (mod_any xs[k] 100 wr (HOK.out _ (List.getElem_mem hkx)) (by omega) (by omega))
        have HFI := Lib.hid hfi
        clear hfi
        generalize xs[k]'hkx = x at *
        go_wp2_with fail
        refine HMD.out.mono ?_
        rintro e w2 ⟨m, rfl, hm, rfl⟩
        obtain ⟨l, hl⟩ : ∃ l : Nat, l = 1 + m := ⟨_, rfl⟩
        have hl1 : (1 : Int) + (m : Int) = (l : Int) := by omega
        have hl100 : l ≤ 100 := by omega
        have hlpos : 1 ≤ l := by omega
        obtain ⟨Z, hmk, hmo⟩ := make_bytes l (by omega)
        have HMO := Lib.hid (hmo wr wr.heap.size (Nat.le_refl _))
        clear hmo hl hm HMD c0
        obtain ⟨wo, rfl⟩ : ∃ wo, wo = wr := ⟨_, rfl⟩
        go_wp2_with fail
        go_loopw [33] (fun t wi => ∃ (k2 : Nat) (r : List Nat), k2 ≤ l ∧ t = .int .i64 k2 ∧ r.length = l ∧ (∀ t, r.getD t 0 < 256) ∧ Rw wo.heap.size wi wo.heap.size l r ∧ Below wo.heap.size wo wi) (fun t _ => l - (intOf t).toNat)
        case atStart => exact ⟨0, List.replicate l 0, by omega, rfl, by simp, byte_rep l, ⟨by rw [List.length_replicate]; exact HMO.out⟩, (Below.refl _ _).alloc (Nat.le_refl _) _⟩
        case round =>
          obtain ⟨k2, r, hk2, rfl, hrl, hrb, hrw, hbw⟩ := hrel
          clear HMO
          by_cases hlt2 : k2 < l
          · obtain ⟨v, hv⟩ : ∃ v : Nat, v = (k + k2) % 256 := ⟨_, rfl⟩
            have e1 : ((k : Int) + (k2 : Int)) % 256 = (v : Int) := by omega
            have e2 : IntKind.u8.wrap ((k : Int) + (k2 : Int)) = (v : Int) := by rw [IntKind.wrap_u8]; omega
            have hv6 : v < 256 := by omega
            have hat := hrw.at_ (k := k2) (by omega)
            obtain ⟨q1, q2⟩ := hat
            have HRW := Lib.hid (hrw.set k2 v)
            have HBW := Lib.hid (hbw.setCell (p := ⟨wo.heap.size, k2, none⟩) (Nat.le_refl _) (.int .u8 (v : Int)))
            have HBS := Lib.hid (byte_set (k := k2) hrl hrb hv6)
            have hko : (k2 : Int) < (l : Int) := by omega
            clear hrl hrb hrw hbw hv
            generalize B r k2 = bb at *
            go_wp2_with fail
            go_roundw
            case rel => exact ⟨k2 + 1, r.set k2 v, by omega, by go_num, HBS.out.1, HBS.out.2, HRW.out, HBW.out⟩
            case measure => simp [intOf]; omega
          · have hkl : k2 = l := by omega
            subst hkl
            have hwf := HFI.out.wf
            have HI0 := insertPage wr (HFI.out.pg.below hbw) hwf hrw.toRec hrb
            rw [hrl] at HI0
            have HINS := Lib.hid HI0
            have HRB := Lib.hid hrb
            have HRL := Lib.hid hrl
            have HRW := Lib.hid hrw
            have HFI2 := Lib.hid (HFI.out.keep hbw)
            clear hrb hrl hrw hbw HI0 hwf HFI
            go_wp2_with fail
            refine HINS.out.mono ?_
            rintro e w3 ⟨hb3, hcase⟩
            have hrl2 := HRL.out
            have hbad : ¬ (r.length < 1 ∨ 100 < r.length) := by omega
            rw [if_neg hbad] at hcase
            clear hbad
            by_cases hfull : cap p < r.length
            · rw [if_pos hfull] at hcase
              subst hcase
              have hf3 := HFI2.out.keep hb3
              have hpos : 0 < B p 0 := by
                apply Classical.byContradiction
                intro h0
                have := cap_empty (p := p) (by omega)
                omega
              have HFI3 : Hid (FI w w3 w1.heap.size p g c1 (k + 1)) := Lib.hid ⟨hf3.pg, hf3.wf, hf3.mp.mono (by omega), hf3.full, fun _ => hpos, hf3.below, hf3.hb⟩
              clear hf3 hpos hfull hb3 hrl2
              go_wp2_with fail
              go_roundw
              case rel => exact ⟨k + 1, g, c1, p, by omega, by go_num, rfl, HFI3.out⟩
              case measure => simp [intOf]; omega
            · rw [if_neg hfull] at hcase
              obtain ⟨g4, c4, rfl, hp4⟩ := hcase
              have hf3 := HFI2.out.keep hb3
              have hff := ff_full hf3.full
              have hfit := cap_fit hf3.wf hfull (by omega)
              rw [hff] at hp4 hfit
              have hnn := hf3.wf.n_le
              have hcp := cont_place (p := p) (r := r) (i := B p 0) hf3.wf (fun h => absurd h (Nat.lt_irrefl _)) (by omega) (by omega) HRB.out hfit
              have hsp := place_spec (p := p) (r := r) (i := B p 0) hf3.wf (fun h => absurd h (Nat.lt_irrefl _)) (by omega) (by omega) HRB.out hfit
              have hlk := hf3.mp.look (B p 0) (by omega)
              rw [cont_none (fun hc => absurd hc.1 (Nat.lt_irrefl _))] at hlk
              have hlk2 : (Instr.lookup 24 (.map (some w1.heap.size)) (.int .i64 (B p 0 : Nat)) false).run Try.prog w3 = .ok (.string ⟨#[]⟩) w3 := hlk
              have hcv := conv_rec (w := w3.drew) k2 (HRW.out.elems.keep (w' := w3.drew) (Keeps.of_below hb3.drew fun j (hj : j = wo.heap.size) => by have := HRW.out.lt.2; omega)) HRB.out
              rw [hrl2] at hcv
              obtain ⟨w5, hupd, hmp5, hg5⟩ := Mp.put (w := w3.drew) (p' := place p (B p 0) r) (hf3.mp.below (Below.refl _ _).drew) (B p 0) (by omega) r (by omega) (by omega) hcp
              have hne4 := hp4.neMp hf3.mp
              have hp5 := (hp4.mono (Nat.le_trans (HFI2.out.below.size) (Nat.le_refl _))).below (Below.refl _ _).drew |>.grown hg5 hne4
              have hbe5 : Below w.heap.size w w5 := hf3.below.drew.trans (below_of_grown hg5 hf3.below.size (fun b hb => by injection hb with hb; rw [← hb]; exact hf3.hb))
              have HFI5 : Hid (FI w w5 w1.heap.size (place p (B p 0) r) g4 c4 (k + 1)) := Lib.hid
                ⟨hp5, hsp.1, hmp5, fun i hi => by
                  rw [hsp.2.1] at hi
                  by_cases e : i = B p 0
                  · rw [e]; exact hsp.2.2.1
                  · have := hsp.2.2.2.2 i hi e
                    exact fun hz => hf3.full i (by omega) (((this.2 (by omega)).1).1 hz), fun _ => by rw [hsp.2.1]; omega, hbe5, hf3.hb⟩
              clear hp5 hbe5 hmp5 hg5 hf3 hfit hcp hsp hlk hfull hb3 hp4 hne4 hnn HFI2 HINS hrl2
              rw [hff]
              generalize place p (B p 0) r = q at *
              generalize B p 0 = nn at *
              generalize bs r = str at *
              go_wp2_with fail
              go_region
              go_wp2_with fail
              go_roundw
              case rel => exact ⟨k + 1, g4, c4, q, by omega, by go_num, rfl, HFI5.out⟩
              case measure => simp [intOf]; omega
      · have hkN : k = xs.length := by omega
        subst hkN
        have HFI := Lib.hid hfi
        clear hfi
        go_wp2_with fail
        go_ret3
        exact ⟨p, g, c1, _, rfl, HFI.out⟩
  · have h4e : 60 < xs.length := by omega
    have h4f : (60 : Int) < (xs.length : Int) := by omega
    have h4h : ¬ ((xs.length : Int) ≤ 60) := by omega
    have h4i : ¬ ((xs.length : Int) < 60) := by omega
    have h4c : (60 : Int) ≤ (c : Int) := by omega
    have h4g : min (xs.length : Int) 60 = 60 := by omega
    have hmn : min xs.length 60 = 60 := by omega
    rw [hmn]
    have hNN : ∀ k, k < 60 → k < xs.length := fun k h => by omega
    have hN6 : 60 ≤ 60 := Nat.le_refl _
    clear hmn hx
    go_enter Try.func8, Try.ntmps8
    go_wp2_with fail
    refine HNW.out.mono ?_
    rintro e w1 ⟨rfl, hp1, hb1⟩
    have HF1 : Hid (FI w (w1.alloc (.map #[] 0)) w1.heap.size zeros w.heap.size 256 0) := Lib.hid
      ⟨hp1.below ((Below.refl _ _).alloc (Nat.le_refl _) _), wf_zeros.1, Mp.first w1, fun i hi => by rw [wf_zeros.2] at hi; omega, fun h => absurd h (Nat.lt_irrefl _), hb1.alloc hb1.size _, hb1.size⟩
    clear hp1 hb1 HNW
    go_wp2_with fail
    go_loopw [5, 22] (fun v i wr => ∃ (k g c1 : Nat) (p : List Nat), k ≤ 60 ∧ i = .int .i64 k ∧ v = .slice (some ⟨g, 0, none⟩) 256 c1 ∧ FI w wr w1.heap.size p g c1 k) (fun _ i _ => 60 - (intOf i).toNat)
    case atStart => exact ⟨0, _, _, _, by omega, rfl, rfl, HF1.out⟩
    case round =>
      obtain ⟨k, g, c1, p, hk, rfl, rfl, hfi⟩ := hrel
      clear HF1
      by_cases hlt : k < 60
      · have hkx := hNN k hlt
        obtain ⟨bx, off, rfl, hbs, c0⟩ := (HX.out.keep (Keeps.of_below hfi.below fun _ h => h)).int hkx
        have HMD := Lib.hid (mod_any xs[k] 100 wr (HOK.out _ (List.getElem_mem hkx)) (by omega) (by omega))
        have HFI := Lib.hid hfi
        clear hfi
        generalize xs[k]'hkx = x at *
        go_wp2_with fail
        refine HMD.out.mono ?_
        rintro e w2 ⟨m, rfl, hm, rfl⟩
        obtain ⟨l, hl⟩ : ∃ l : Nat, l = 1 + m := ⟨_, rfl⟩
        have hl1 : (1 : Int) + (m : Int) = (l : Int) := by omega
        have hl100 : l ≤ 100 := by omega
        have hlpos : 1 ≤ l := by omega
        obtain ⟨Z, hmk, hmo⟩ := make_bytes l (by omega)
        have HMO := Lib.hid (hmo wr wr.heap.size (Nat.le_refl _))
        clear hmo hl hm HMD c0
        obtain ⟨wo, rfl⟩ : ∃ wo, wo = wr := ⟨_, rfl⟩
        go_wp2_with fail
        go_loopw [33] (fun t wi => ∃ (k2 : Nat) (r : List Nat), k2 ≤ l ∧ t = .int .i64 k2 ∧ r.length = l ∧ (∀ t, r.getD t 0 < 256) ∧ Rw wo.heap.size wi wo.heap.size l r ∧ Below wo.heap.size wo wi) (fun t _ => l - (intOf t).toNat)
        case atStart => exact ⟨0, List.replicate l 0, by omega, rfl, by simp, byte_rep l, ⟨by rw [List.length_replicate]; exact HMO.out⟩, (Below.refl _ _).alloc (Nat.le_refl _) _⟩
        case round =>
          obtain ⟨k2, r, hk2, rfl, hrl, hrb, hrw, hbw⟩ := hrel
          clear HMO
          by_cases hlt2 : k2 < l
          · obtain ⟨v, hv⟩ : ∃ v : Nat, v = (k + k2) % 256 := ⟨_, rfl⟩
            have e1 : ((k : Int) + (k2 : Int)) % 256 = (v : Int) := by omega
            have e2 : IntKind.u8.wrap ((k : Int) + (k2 : Int)) = (v : Int) := by rw [IntKind.wrap_u8]; omega
            have hv6 : v < 256 := by omega
            have hat := hrw.at_ (k := k2) (by omega)
            obtain ⟨q1, q2⟩ := hat
            have HRW := Lib.hid (hrw.set k2 v)
            have HBW := Lib.hid (hbw.setCell (p := ⟨wo.heap.size, k2, none⟩) (Nat.le_refl _) (.int .u8 (v : Int)))
            have HBS := Lib.hid (byte_set (k := k2) hrl hrb hv6)
            have hko : (k2 : Int) < (l : Int) := by omega
            clear hrl hrb hrw hbw hv
            generalize B r k2 = bb at *
            go_wp2_with fail
            go_roundw
            case rel => exact ⟨k2 + 1, r.set k2 v, by omega, by go_num, HBS.out.1, HBS.out.2, HRW.out, HBW.out⟩
            case measure => simp [intOf]; omega
          · have hkl : k2 = l := by omega
            subst hkl
            have hwf := HFI.out.wf
            have HI0 := insertPage wr (HFI.out.pg.below hbw) hwf hrw.toRec hrb
            rw [hrl] at HI0
            have HINS := Lib.hid HI0
            have HRB := Lib.hid hrb
            have HRL := Lib.hid hrl
            have HRW := Lib.hid hrw
            have HFI2 := Lib.hid (HFI.out.keep hbw)
            clear hrb hrl hrw hbw HI0 hwf HFI
            go_wp2_with fail
            refine HINS.out.mono ?_
            rintro e w3 ⟨hb3, hcase⟩
            have hrl2 := HRL.out
            have hbad : ¬ (r.length < 1 ∨ 100 < r.length) := by omega
            rw [if_neg hbad] at hcase
            clear hbad
            by_cases hfull : cap p < r.length
            · rw [if_pos hfull] at hcase
              subst hcase
              have hf3 := HFI2.out.keep hb3
              have hpos : 0 < B p 0 := by
                apply Classical.byContradiction
                intro h0
                have := cap_empty (p := p) (by omega)
                omega
              have HFI3 : Hid (FI w w3 w1.heap.size p g c1 (k + 1)) := Lib.hid ⟨hf3.pg, hf3.wf, hf3.mp.mono (by omega), hf3.full, fun _ => hpos, hf3.below, hf3.hb⟩
              clear hf3 hpos hfull hb3 hrl2
              go_wp2_with fail
              go_roundw
              case rel => exact ⟨k + 1, g, c1, p, by omega, by go_num, rfl, HFI3.out⟩
              case measure => simp [intOf]; omega
            · rw [if_neg hfull] at hcase
              obtain ⟨g4, c4, rfl, hp4⟩ := hcase
              have hf3 := HFI2.out.keep hb3
              have hff := ff_full hf3.full
              have hfit := cap_fit hf3.wf hfull (by omega)
              rw [hff] at hp4 hfit
              have hnn := hf3.wf.n_le
              have hcp := cont_place (p := p) (r := r) (i := B p 0) hf3.wf (fun h => absurd h (Nat.lt_irrefl _)) (by omega) (by omega) HRB.out hfit
              have hsp := place_spec (p := p) (r := r) (i := B p 0) hf3.wf (fun h => absurd h (Nat.lt_irrefl _)) (by omega) (by omega) HRB.out hfit
              have hlk := hf3.mp.look (B p 0) (by omega)
              rw [cont_none (fun hc => absurd hc.1 (Nat.lt_irrefl _))] at hlk
              have hlk2 : (Instr.lookup 24 (.map (some w1.heap.size)) (.int .i64 (B p 0 : Nat)) false).run Try.prog w3 = .ok (.string ⟨#[]⟩) w3 := hlk
              have hcv := conv_rec (w := w3.drew) k2 (HRW.out.elems.keep (w' := w3.drew) (Keeps.of_below hb3.drew fun j (hj : j = wo.heap.size) => by have := HRW.out.lt.2; omega)) HRB.out
              rw [hrl2] at hcv
              obtain ⟨w5, hupd, hmp5, hg5⟩ := Mp.put (w := w3.drew) (p' := place p (B p 0) r) (hf3.mp.below (Below.refl _ _).drew) (B p 0) (by omega) r (by omega) (by omega) hcp
              have hne4 := hp4.neMp hf3.mp
              have hp5 := (hp4.mono (Nat.le_trans (HFI2.out.below.size) (Nat.le_refl _))).below (Below.refl _ _).drew |>.grown hg5 hne4
              have hbe5 : Below w.heap.size w w5 := hf3.below.drew.trans (below_of_grown hg5 hf3.below.size (fun b hb => by injection hb with hb; rw [← hb]; exact hf3.hb))
              have HFI5 : Hid (FI w w5 w1.heap.size (place p (B p 0) r) g4 c4 (k + 1)) := Lib.hid
                ⟨hp5, hsp.1, hmp5, fun i hi => by
                  rw [hsp.2.1] at hi
                  by_cases e : i = B p 0
                  · rw [e]; exact hsp.2.2.1
                  · have := hsp.2.2.2.2 i hi e
                    exact fun hz => hf3.full i (by omega) (((this.2 (by omega)).1).1 hz), fun _ => by rw [hsp.2.1]; omega, hbe5, hf3.hb⟩
              clear hp5 hbe5 hmp5 hg5 hf3 hfit hcp hsp hlk hfull hb3 hp4 hne4 hnn HFI2 HINS hrl2
              rw [hff]
              generalize place p (B p 0) r = q at *
              generalize B p 0 = nn at *
              generalize bs r = str at *
              go_wp2_with fail
              go_region
              go_wp2_with fail
              go_roundw
              case rel => exact ⟨k + 1, g4, c4, q, by omega, by go_num, rfl, HFI5.out⟩
              case measure => simp [intOf]; omega
      · have hkN : k = 60 := by omega
        subst hkN
        have HFI := Lib.hid hfi
        clear hfi
        go_wp2_with fail
        go_ret3
        exact ⟨p, g, c1, _, rfl, HFI.out⟩

end Go.Proofs.Ytalgocjhcgmdlaa
