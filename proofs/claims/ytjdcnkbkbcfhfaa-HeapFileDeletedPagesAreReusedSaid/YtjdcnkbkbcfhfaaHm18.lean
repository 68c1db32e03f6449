/-
  The walks of stats and Stats.
-/
import Derived.Test.YtjdcnkbkbcfhfaaHm17
import Derived.Deep.CutRange
import Derived.Deep.RegionLaw
import Derived.StillTailTactics
namespace Go.Proofs.Ytjdcnkbkbcfhfaa
open Go.RowKit Go.Sort

abbrev stV (a b c x y : Int) : Value := .agg #[.int .i64 a, .int .i64 b, .int .i64 c, .int .i64 x, .int .i64 y]
abbrev stC (a b c x y : Int) : Array Value := #[.int .i64 a, .int .i64 b, .int .i64 c, .int .i64 x, .int .i64 y]
def StatPost (w : World) (d : Nat) (e : Ending) (w' : World) : Prop := ∃ x y : Int, e = .returned (stV 0 (d + 1) (d + 1) x y) ∧ Below w.heap.size w w'

theorem ret_stats {a b c x y : Int} {g : Nat} {w : World} (tmps : Array Value) (hp : tmps.getD 2 undef = .pointer (some ⟨g, 0, none⟩)) (hg : w.heap[g]? = some (.cells (stC a b c x y) 75 (0, 0))) :
    (results Try.f52 tmps).run Try.prog w = .ok (stV a b c x y) w :=
  results_cell_row (P := Try.prog) Try.results52 tmps w g 75 _ (0, 0) _ hp hg Try.underlying75 rfl (by kernel_rfl)

/-- The two blocks of statistics that a round writes. -/
structure StT (w : World) (B0 B1 B3 : Nat) (d : Nat) (mn mx x y x' y' : Int) (wx : World) : Prop where
  b0 : wx.heap[B0]? = some (.cells (stC 0 0 0 0 0) 75 (0, 0))
  b1 : wx.heap[B1]? = some (.cells (stC 0 mn mx x y) 75 (0, 0))
  b3 : wx.heap[B3]? = some (.cells (stC 0 (d + 1) (d + 1) x' y') 75 (0, 0))
  below : Below w.heap.size w wx
section
variable {w : World} {B0 B1 B3 : Nat} {d : Nat} {mn mx x y x' y' : Int} {wx : World}
theorem StT.setc (h : StT w B0 B1 B3 d mn mx x y x' y' wx) (h0 : B0 ≠ B1) (h3 : B1 ≠ B3) (hw : w.heap.size ≤ B1) (i : Nat) (v : Value) {mn2 mx2 x2 y2 : Int} (he : (stC 0 mn mx x y).setIfInBounds i v = stC 0 mn2 mx2 x2 y2) : StT w B0 B1 B3 d mn2 mx2 x2 y2 x' y' (wx.setCell ⟨B1, i, none⟩ v) :=
  ⟨(heap_setCell_off h0 v).trans h.b0, by rw [heap_setCell_at h.b1, he], (heap_setCell_off (fun e => h3 e.symm) v).trans h.b3, h.below.setCell hw v⟩
theorem StT.set1 (h : StT w B0 B1 B3 d mn mx x y x' y' wx) (h0 : B0 ≠ B1) (h3 : B1 ≠ B3) (hw : w.heap.size ≤ B1) (v : Int) {v' : Int} (hv : v = v') : StT w B0 B1 B3 d v' mx x y x' y' (wx.setCell ⟨B1, 1, none⟩ (.int .i64 v)) := h.setc h0 h3 hw 1 _ (by rw [hv]; rfl)
theorem StT.set2 (h : StT w B0 B1 B3 d mn mx x y x' y' wx) (h0 : B0 ≠ B1) (h3 : B1 ≠ B3) (hw : w.heap.size ≤ B1) (v : Int) {v' : Int} (hv : v = v') : StT w B0 B1 B3 d mn v' x y x' y' (wx.setCell ⟨B1, 2, none⟩ (.int .i64 v)) := h.setc h0 h3 hw 2 _ (by rw [hv]; rfl)
theorem StT.set3 (h : StT w B0 B1 B3 d mn mx x y x' y' wx) (h0 : B0 ≠ B1) (h3 : B1 ≠ B3) (hw : w.heap.size ≤ B1) (v : Int) {v' : Int} (hv : v = v') : StT w B0 B1 B3 d mn mx v' y x' y' (wx.setCell ⟨B1, 3, none⟩ (.int .i64 v)) := h.setc h0 h3 hw 3 _ (by rw [hv]; rfl)
theorem StT.set4 (h : StT w B0 B1 B3 d mn mx x y x' y' wx) (h0 : B0 ≠ B1) (h3 : B1 ≠ B3) (hw : w.heap.size ≤ B1) (v : Int) {v' : Int} (hv : v = v') : StT w B0 B1 B3 d mn mx x v' x' y' (wx.setCell ⟨B1, 4, none⟩ (.int .i64 v)) := h.setc h0 h3 hw 4 _ (by rw [hv]; rfl)
theorem StT.drewN (h : StT w B0 B1 B3 d mn mx x y x' y' wx) (k : Nat) : StT w B0 B1 B3 d mn mx x y x' y' (wx.drewN k) := ⟨h.b0, h.b1, h.b3, h.below.trans (below_drewN (Below.refl _ _) k)⟩
end
theorem StT.c1 {w : World} {B0 B1 B3 : Nat} {d : Nat} {mn mx x y x' y' : Int} {wx : World} (h : StT w B0 B1 B3 d mn mx x y x' y' wx) (i : Nat) : wx.cell? ⟨B1, i, none⟩ = (stC 0 mn mx x y)[i]? := cell_of_row _ _ _ _ _ _ h.b1
theorem StT.c3 {w : World} {B0 B1 B3 : Nat} {d : Nat} {mn mx x y x' y' : Int} {wx : World} (h : StT w B0 B1 B3 d mn mx x y x' y' wx) (i : Nat) : wx.cell? ⟨B3, i, none⟩ = (stC 0 (d + 1) (d + 1) x' y')[i]? := cell_of_row _ _ _ _ _ _ h.b3
theorem StT.f1 {w : World} {B0 B1 B3 : Nat} {d : Nat} {mn mx x y x' y' : Int} {wx : World} (h : StT w B0 B1 B3 d mn mx x y x' y' wx) (i : Nat) : wx.frozen? ⟨B1, i, none⟩ = false := frozen_of_row _ _ _ _ _ h.b1

theorem getD_rep (n j : Nat) : (Array.replicate n false).getD j false = false := by
  simp only [Array.getD_eq_getD_getElem?, Array.getElem?_replicate]
  split <;> rfl

/-- What a slot of the region holds. -/
def StTy (B1 B3 b : Nat) (j : Nat) (v : Value) : Prop := match j with
  | 0 => v = .pointer (some ⟨B1, 3, none⟩)
  | 2 => v = ptr b
  | 5 => v = .pointer (some ⟨B1, 4, none⟩)
  | 7 => v = ptr b
  | 9 => v = .pointer (some ⟨B3, 4, none⟩)
  | 12 => v = .pointer (some ⟨B1, 3, none⟩)
  | 14 => v = .pointer (some ⟨B1, 4, none⟩)
  | 13 => True
  | 15 => True
  | _ => ∃ z : Int, v = .int .i64 z

theorem ty_set {B1 B3 b : Nat} {listed : Array Bool} {v : Nat → Value} {k : Nat} {x : Value} (h : ∀ j, listed.getD j false = true → StTy B1 B3 b j (v (if j = 14 then 49 else 36 + j))) (hk : k ≠ 13) (hx : StTy B1 B3 b k x) :
    ∀ j, (listed.setIfInBounds k true).getD j false = true → StTy B1 B3 b j (upd v (if k = 14 then 49 else 36 + k) x (if j = 14 then 49 else 36 + j)) := fun j hj => by
  by_cases hjk : j = k
  · subst hjk
    rw [upd_same]
    exact hx
  · have hl : listed.getD j false = true := by
      rw [Array.getD_eq_getD_getElem?, Array.getElem?_setIfInBounds] at hj
      rw [Array.getD_eq_getD_getElem?]
      rwa [if_neg (fun e => hjk e.symm)] at hj
    by_cases h13 : j = 13
    · subst h13; trivial
    · rw [upd_ne]
      · exact h j hl
      · split <;> split <;> omega
theorem ty_same {B1 B3 b : Nat} {listed : Array Bool} {v : Nat → Value} {k : Nat} (h : ∀ j, listed.getD j false = true → StTy B1 B3 b j (v (if j = 14 then 49 else 36 + j))) (hk : k = 13 ∨ k = 15) :
    ∀ j, (listed.setIfInBounds k true).getD j false = true → StTy B1 B3 b j (v (if j = 14 then 49 else 36 + j)) := fun j hj => by
  by_cases hjk : j = k
  · subst hjk
    rcases hk with rfl | rfl <;> trivial
  · refine h j ?_
    rw [Array.getD_eq_getD_getElem?, Array.getElem?_setIfInBounds] at hj
    rw [Array.getD_eq_getD_getElem?]
    rwa [if_neg (fun e => hjk e.symm)] at hj

set_option maxRecDepth 100000 in
set_option maxHeartbeats 4000000 in
theorem statsW {m o : Nat} (hO : Order m o) : ∀ {d a : Nat} {t : T d} {fp : List Nat} (w : World) (M : Nodes) (O : Own') (_ : Store w M O) (_ : Rep M d a t fp) (_ : Ok m o d t) (_ : d = 0 ∨ 1 ≤ fill d t) (_ : fill d t ≤ 40) (_ : d ≤ 1000),
    Calls Try.prog 52 #[ptr a] w (StatPost w d)
  | 0, a, t, fp, w, M, O, hs, hr, hok, hd, hf, hdl => by
    have HL : Hid (∀ o, Calls Try.prog 37 #[ptr a] (w.alloc o) fun e w' => e = .returned (.bool true) ∧ w.alloc o = w') := Lib.hid fun o => leafT (((St.refl hs).alloc o).store) hr hd 0
    have HB : Hid (∀ (o : Obj) (i : Nat) (u : Value), Below w.heap.size w (w.alloc o)) := Lib.hid fun o i u => (Below.refl _ _).alloc (Nat.le_refl _) o
    clear hs hr hok hd
    go_enter Try.func52, Try.ntmps52
    go_wp2_with fail
    refine (HL.out _).mono ?_
    rintro e w' ⟨rfl, rfl⟩
    go_wp2_with fail
    refine bodyPost_ret (ret_stats _ rfl (heap_alloc_new w _)) rfl ?_
    exact ⟨0, 0, by simp, HB.out _ 0 undef⟩
  | d + 1, a, t, fp, w, M, O, hs, hr, hok, hd, hf, hdl => by
    have HIHS : Hid (∀ (b : Nat) (c : T d) (f : List Nat) (W : World), Store W M O → Rep M d b c f → Ok m o d c → (d = 0 ∨ 1 ≤ fill d c) → fill d c ≤ 40 → Calls Try.prog 52 #[ptr b] W (StatPost W d)) := Lib.hid fun b c f W h1 h2 h3 h4 h5 => statsW hO W M O h1 h2 h3 h4 h5 (Nat.le_of_succ_le hdl)
    have HL : Hid (∀ o, Calls Try.prog 37 #[ptr a] (w.alloc o) fun e w' => e = .returned (.bool false) ∧ w.alloc o = w') := Lib.hid fun o => leafT (((St.refl hs).alloc o).store) hr hd 0
    have hm2 : 2 ≤ m := by have := hO.lo; have := hO.eq; omega
    have hoh := hO.hi
    obtain ⟨cs, fps, hm, hz, hfp⟩ := hr
    have hzl := hz.len
    have hd1 : 1 ≤ t.2.length := by
      rcases hd with h | h
      · cases h
      · exact h
    have hf' : t.2.length ≤ 40 := hf
    obtain ⟨V, hV⟩ := hs.at_ a _ hm
    obtain ⟨b0, hb0⟩ : ∃ b, cs[0]? = some b := ⟨_, List.getElem?_eq_getElem (by omega)⟩
    obtain ⟨g, c2, e2, q2, -, -, -, -⟩ := hV.child hb0
    simp only at q2 e2
    have hal := hs.lt hm
    have HCH : Hid (∀ i, i < cs.length → ∃ (b : Nat) (c : T d) (f : List Nat), (∀ W, Below w.heap.size w W → W.cell? ⟨g, i, none⟩ = some (ptr b)) ∧ Rep M d b c f ∧ Ok m o d c ∧ (d = 0 ∨ 1 ≤ fill d c) ∧ fill d c ≤ 40) := Lib.hid fun i hi => by
      obtain ⟨c, hc⟩ : ∃ c, t.2[i]? = some c := ⟨_, List.getElem?_eq_getElem (by omega)⟩
      obtain ⟨b, hb⟩ : ∃ b, cs[i]? = some b := ⟨_, List.getElem?_eq_getElem hi⟩
      obtain ⟨a', f, q1, q2', q3⟩ := hz.at_ hc
      rw [hb] at q1
      injection q1 with q1
      subst q1
      have hcok := hok.2 c (List.mem_of_getElem? hc)
      refine ⟨b, c, f, fun W hW => ?_, q3, hcok.1, .inr (by omega), by omega⟩
      have hV' : NodeAt W O a ⟨[], t.1, cs⟩ V := hV.below hs.free hW fun _ _ => rfl
      obtain ⟨g', c2', e2', -, qi, -, -, -⟩ := hV'.child hb
      rw [e2] at e2'
      injection e2' with x1
      injection x1 with x1
      injection x1 with x1
      rw [x1]
      exact qi
    have hnl : 1 ≤ cs.length ∧ cs.length ≤ 40 := by omega
    have q2a : ∀ W, Below w.heap.size w W → W.cell? ⟨a, 2, none⟩ = some (.slice (some ⟨g, 0, none⟩) cs.length c2) := fun W hW => (hW.cell hal).trans q2
    have HQ2 := Lib.hid q2a
    have HS := Lib.hid hs
    have hB1 : ∀ o, Below w.heap.size w (w.alloc o) := fun o => (Below.refl _ _).alloc (Nat.le_refl _) o
    have hB2 : ∀ o o', Below w.heap.size w ((w.alloc o).alloc o') := fun o o' => (hB1 o).alloc (le_size1 (Nat.le_refl _) o) o'
    have HB2 := Lib.hid hB2
    have q2b : ∀ o o', ((w.alloc o).alloc o').cell? ⟨a, 2, none⟩ = some (.slice (some ⟨g, 0, none⟩) cs.length c2) := fun o o' => q2a _ (hB2 o o')
    clear hs hz hV hok hd hf hm hzl hd1 hf' hb0 e2 q2 q2a hfp hB1 hB2
    generalize cs.length = n at *
    go_enter Try.func52, Try.ntmps52
    go_wp2_with fail
    refine (HL.out _).mono ?_
    rintro e w' ⟨rfl, rfl⟩
    go_wp2_with fail
    go_loopw [16] (fun vi wr => ∃ (i : Nat) (mn mx x y : Int), vi = .int .i64 (i : Int) ∧ i ≤ n ∧ wr.heap[w.heap.size]? = some (.cells (stC 0 0 0 0 0) 75 (0, 0)) ∧ wr.heap[w.heap.size + 1]? = some (.cells (stC 0 mn mx x y) 75 (0, 0)) ∧ ((i = 0 ∧ mn = 1048576 ∧ mx = 0) ∨ (0 < i ∧ mn = d + 2 ∧ mx = d + 2)) ∧ Below w.heap.size w wr) (fun vi _ => n - (intOf vi).toNat)
    case atStart =>
      refine ⟨0, 1048576, 0, 16, 0, rfl, by omega, ?_, alloc2_at w _ _, .inl ⟨rfl, rfl, rfl⟩, HB2.out _ _⟩
      rw [Below.heap_alloc _ _ _ (by simp)]
      exact heap_alloc_new w _
    case round =>
      obtain ⟨i, mn, mx, x, y, rfl, hin, hb0, hb1, hcase, hb⟩ := hrel
      have HB := Lib.hid hb
      have HB0 := Lib.hid hb0
      have HB1 := Lib.hid hb1
      clear q2b
      by_cases hlt : i < n
      · obtain ⟨b, c, f, hcell, hrb, hokc, hdc, hfc⟩ := HCH.out i hlt
        have ci := hcell wr hb
        have hbl := hb.size
        have h1l : w.heap.size + 1 < wr.heap.size := (Array.getElem?_eq_some_iff.1 hb1).1
        have HIH := Lib.hid (HIHS.out b c f wr (HS.out.below hb) hrb hokc hdc hfc)
        have hli : (i : Int) < (n : Int) := by omega
        have HRB := Lib.hid hrb
        have HDC := Lib.hid hdc
        clear hcell hb hb0 hb1 hrb hokc hdc hfc
        go_wp2_with fail
        refine HIH.out.mono ?_
        rintro e w2 ⟨x', y', rfl, hb2⟩
        have hk0 : w2.heap[w.heap.size]? = some (.cells (stC 0 0 0 0 0) 75 (0, 0)) := (hb2.block _ (by omega)).trans HB0.out
        have hk1 : w2.heap[w.heap.size + 1]? = some (.cells (stC 0 mn mx x y) 75 (0, 0)) := (hb2.block _ h1l).trans HB1.out
        have h2l : w.heap.size + 1 < w2.heap.size := Nat.lt_of_lt_of_le h1l hb2.size
        obtain ⟨w3, hw3⟩ : ∃ w3, w3 = w2.alloc (.cells (stC 0 (d + 1) (d + 1) x' y') 75) := ⟨_, rfl⟩
        have k0 : w3.heap[w.heap.size]? = some (.cells (stC 0 0 0 0 0) 75 (0, 0)) := by rw [hw3, Below.heap_alloc _ _ _ (by omega)]; exact hk0
        have k1 : w3.heap[w.heap.size + 1]? = some (.cells (stC 0 mn mx x y) 75 (0, 0)) := by rw [hw3, Below.heap_alloc _ _ _ (by omega)]; exact hk1
        have k3 : w3.heap[w2.heap.size]? = some (.cells (stC 0 (d + 1) (d + 1) x' y') 75 (0, 0)) := by rw [hw3]; exact heap_alloc_new w2 _
        have hbw3 : Below w.heap.size w w3 := by rw [hw3]; exact (HB.out.trans (hb2.mono hbl)).alloc (Nat.le_trans hbl hb2.size) _
        have hb23 : Below wr.heap.size wr w3 := by rw [hw3]; exact hb2.alloc hb2.size _
        have HB23 := Lib.hid hb23
        have HST : Hid (StT w (w.heap.size) (w.heap.size + 1) w2.heap.size d mn mx x y x' y' w3) := Lib.hid ⟨k0, k1, k3, hbw3⟩
        have HW3 := Lib.hid hw3
        have hBne : w.heap.size ≠ w.heap.size + 1 := by omega
        have hBne2 : w.heap.size + 1 ≠ w2.heap.size := by omega
        have hBne3 : w.heap.size ≠ w2.heap.size := by omega
        have hB1w : w.heap.size ≤ w.heap.size + 1 := by omega
        clear k0 k1 k3 hbw3 hb23 hw3 hk0 hk1 hb2 ci h1l
        go_upto_region 8 with fail
        rw [← HW3.out]
        generalize hB1e : w.heap.size + 1 = B1 at *
        have HB1E := Lib.hid hB1e
        clear hB1e
        generalize w2.heap.size = B3 at *
        go_cut [] from 22 to 35 (fun wx => StT w (w.heap.size) B1 B3 d (d + 2) (d + 2) x y x' y' wx)
        case first =>
          have r1 := HST.out.c1 1
          have r2 := HST.out.c1 2
          have r3 := HST.out.c3 1
          have r4 := HST.out.c3 2
          have r5 := HST.out.f1
          simp only [List.getElem?_toArray, List.getElem?_cons_succ, List.getElem?_cons_zero] at r1 r2 r3 r4
          have hdl' : (d : Int) ≤ 1000 := by omega
          have hw1 : IntKind.i64.wrap ((d : Int) + 1 + 1) = (d : Int) + 1 + 1 := by rw [IntKind.wrap_i64]; omega
          go_region
          go_wp2_with fail
          go_meet
          exact ((HST.out.set1 hBne hBne2 hB1w _ (by omega)).set2 hBne hBne2 hB1w _ (by omega)).drewN 1
        case rest =>
          obtain ⟨wo, rfl⟩ : ∃ wo, wo = wc := ⟨_, rfl⟩
          clear HST
          have HST := Lib.hid hcut
          go_upto_region 9 with fail
          have HFL : Hid (Calls Try.prog 41 #[ptr b] wo.drew fun e w' => e = .returned (.int .i64 (fill d c : Nat)) ∧ w' = wo.drew) := Lib.hid ((fillT (HS.out.below HST.out.below) HRB.out HDC.out 1).mono fun _ _ ⟨h1, h2⟩ => ⟨h1, h2.symm⟩)
          have HFLW : Hid (∀ W, wo.drew = W → Calls Try.prog 41 #[ptr b] W fun e w' => e = .returned (.int .i64 (fill d c : Nat)) ∧ W = w') := Lib.hid fun W hW => by subst hW; exact (fillT (HS.out.below HST.out.below) HRB.out HDC.out 1)
          have HLF := Lib.hid (fun W (hW : Below w.heap.size w W) (k : Nat) => leafT (HS.out.below hW) HRB.out HDC.out k)
          have r1 := HST.out.c1 3
          have r2 := HST.out.c1 4
          have r3 := HST.out.c3 4
          have r5 := HST.out.f1
          simp only [List.getElem?_toArray, List.getElem?_cons_succ, List.getElem?_cons_zero] at r1 r2 r3
          go_cut [] from 36 to 49 (fun wx => ∃ x2 y2 : Int, StT w (w.heap.size) B1 B3 d (d + 2) (d + 2) x2 y2 x' y' wx)
          case first =>
            have _r3d : wo.drew.cell? ⟨B3, 4, none⟩ = some (.int .i64 y') := r3
            have HFLX : Hid (∀ {x2 y2 : Int} (W : World), StT w w.heap.size B1 B3 d (d + 2) (d + 2) x2 y2 x' y' W → Calls Try.prog 41 #[ptr b] W fun e w' => e = .returned (.int .i64 (fill d c : Nat)) ∧ W = w') := Lib.hid fun W h => fillT (HS.out.below h.below) HRB.out HDC.out 0
            clear HFL HFLW HLF HDC HRB hcut HW3 HB23 HB HB0 HB1 HQ2 HCH HL HS HIHS HB2 HIH r1 r2 r3 r5
            refine wp_region_any (by kernel_rfl) ?_
            change wpAny _ _ _ _ _ _ _ (World.drew _)
            refine wpAny_inv (I := fun listed a' w' => ∃ (v : Nat → Value) (x2 y2 : Int), a' = { tmps := #[ptr a, undef, Value.pointer (some { block := w.heap.size, off := 0 }), Value.pointer (some { block := B1, off := 0 }), undef, ptr b, Value.pointer (some { block := B3, off := 0 }), ptr a, Value.bool false, undef, Value.agg #[Value.int IntKind.i64 0, Value.int IntKind.i64 1048576, Value.int IntKind.i64 0, Value.int IntKind.i64 16, Value.int IntKind.i64 0], ptr a, Value.pointer (some { block := a, off := 0 }), Value.pointer (some { block := a, off := 2 }), Value.slice (some { block := g, off := 0 }) n c2, Value.int IntKind.i64 n, Value.int IntKind.i64 i, Value.bool true, Value.pointer (some { block := g, off := i }), ptr b, ptr b, stV 0 (d + 1) (d + 1) x' y', u22, u23, u24, u25, u26, u27, u28, u29, u30, u31, u32, u33, u34, u35, v 36, v 37, v 38, v 39, v 40, v 41, v 42, v 43, v 44, v 45, v 46, v 47, v 48, v 49, u50, u51, u52, u53, u54, u55, u56, u57, u58, u59, undef], defers := [] } ∧ StT w w.heap.size B1 B3 d (d + 2) (d + 2) x2 y2 x' y' w' ∧ ∀ j, listed.getD j false = true → StTy B1 B3 b j (v (if j = 14 then 49 else 36 + j))) ?step ?fin _ _ _ _ (by decide) ?init
            case init => exact ⟨fun k => if k = 36 then u36 else if k = 37 then u37 else if k = 38 then u38 else if k = 39 then u39 else if k = 40 then u40 else if k = 41 then u41 else if k = 42 then u42 else if k = 43 then u43 else if k = 44 then u44 else if k = 45 then u45 else if k = 46 then u46 else if k = 47 then u47 else if k = 48 then u48 else if k = 49 then u49 else undef, x, y, rfl, HST.out.drewN 1, fun j hj => by rw [getD_rep] at hj; cases hj⟩
            case fin =>
              rintro listed a' w' ⟨v, x2, y2, rfl, hst, -⟩
              dsimp only
              go_wp2_with fail
              go_meet
              exact ⟨_, _, hst⟩
            case step =>
              rintro listed a' w' ⟨v, x2, y2, rfl, hst, hty⟩ k hk
              dsimp only
              obtain ⟨hun, oo, ho, haf⟩ := mem_ready.1 hk
              have hkl : k < 16 := (Array.getElem?_eq_some_iff.1 ho).1
              have hk16 : k = 0 ∨ k = 1 ∨ k = 2 ∨ k = 3 ∨ k = 4 ∨ k = 5 ∨ k = 6 ∨ k = 7 ∨ k = 8 ∨ k = 9 ∨ k = 10 ∨ k = 11 ∨ k = 12 ∨ k = 13 ∨ k = 14 ∨ k = 15 := by omega
              rcases hk16 with rfl | rfl | rfl | rfl | rfl | rfl | rfl | rfl | rfl | rfl | rfl | rfl | rfl | rfl | rfl | rfl
              · obtain rfl := Option.some.inj ho
                refine wpOp_plain rfl rfl fun K' hK' => ?_
                clear ho haf hk hun
                have HST2 := Lib.hid hst
                clear hst
                go_simp
                exact hK' _ _ ⟨upd v 36 (.pointer (some ⟨B1, 3, none⟩)), x2, y2, rfl, HST2.out, ty_set hty (k := 0) (by omega) rfl⟩
              · obtain rfl := Option.some.inj ho
                have e0 : v 36 = .pointer (some ⟨B1, 3, none⟩) := hty 0 (haf ⟨0, .data⟩ (by simp) rfl)
                have c := hst.c1 3
                simp only [List.getElem?_toArray, List.getElem?_cons_succ, List.getElem?_cons_zero] at c
                refine wpOp_plain rfl rfl fun K' hK' => ?_
                clear ho haf hk hun
                have HST2 := Lib.hid hst
                clear hst
                go_simp
                exact hK' _ _ ⟨upd v 37 (.int .i64 x2), x2, y2, by simp [upd, e0], HST2.out, ty_set hty (k := 1) (by omega) ⟨_, rfl⟩⟩
              · obtain rfl := Option.some.inj ho
                refine wpOp_plain rfl rfl fun K' hK' => ?_
                clear ho haf hk hun
                have HST2 := Lib.hid hst
                clear hst
                go_simp
                exact hK' _ _ ⟨upd v 38 (ptr b), x2, y2, rfl, HST2.out, ty_set hty (k := 2) (by omega) rfl⟩
              · obtain rfl := Option.some.inj ho
                have e2 : v 38 = ptr b := hty 2 (haf ⟨2, .data⟩ (by simp) rfl)
                refine wpOp_plain rfl rfl fun K' hK' => ?_
                clear ho haf hk hun
                have HFX := Lib.hid (HFLX.out _ hst)
                have HST2 := Lib.hid hst
                clear hst
                go_simp
                go_at_call 41
                refine HFX.out.mono ?_
                rintro e w5 ⟨rfl, rfl⟩
                exact hK' _ _ ⟨upd v 39 (.int .i64 (fill d c : Nat)), x2, y2, by simp [upd, e2], HST2.out, ty_set hty (k := 3) (by omega) ⟨_, rfl⟩⟩
              · obtain rfl := Option.some.inj ho
                obtain ⟨z1, e1⟩ : ∃ z : Int, v 37 = .int .i64 z := hty 1 (haf ⟨1, .data⟩ (by simp) rfl)
                obtain ⟨z3, e3⟩ : ∃ z : Int, v 39 = .int .i64 z := hty 3 (haf ⟨3, .data⟩ (by simp) rfl)
                refine wpOp_plain rfl rfl fun K' hK' => ?_
                clear ho haf hk hun
                have HST2 := Lib.hid hst
                clear hst
                go_simp
                exact hK' _ _ ⟨upd v 40 (.int .i64 (min z1 z3)), x2, y2, by simp [upd, e1, e3], HST2.out, ty_set hty (k := 4) (by omega) ⟨_, rfl⟩⟩
              · obtain rfl := Option.some.inj ho
                refine wpOp_plain rfl rfl fun K' hK' => ?_
                clear ho haf hk hun
                have HST2 := Lib.hid hst
                clear hst
                go_simp
                exact hK' _ _ ⟨upd v 41 (.pointer (some ⟨B1, 4, none⟩)), x2, y2, rfl, HST2.out, ty_set hty (k := 5) (by omega) rfl⟩
              · obtain rfl := Option.some.inj ho
                have e5 : v 41 = .pointer (some ⟨B1, 4, none⟩) := hty 5 (haf ⟨5, .data⟩ (by simp) rfl)
                have c := hst.c1 4
                simp only [List.getElem?_toArray, List.getElem?_cons_succ, List.getElem?_cons_zero] at c
                refine wpOp_plain rfl rfl fun K' hK' => ?_
                clear ho haf hk hun
                have HST2 := Lib.hid hst
                clear hst
                go_simp
                exact hK' _ _ ⟨upd v 42 (.int .i64 y2), x2, y2, by simp [upd, e5], HST2.out, ty_set hty (k := 6) (by omega) ⟨_, rfl⟩⟩
              · obtain rfl := Option.some.inj ho
                refine wpOp_plain rfl rfl fun K' hK' => ?_
                clear ho haf hk hun
                have HST2 := Lib.hid hst
                clear hst
                go_simp
                exact hK' _ _ ⟨upd v 43 (ptr b), x2, y2, rfl, HST2.out, ty_set hty (k := 7) (by omega) rfl⟩
              · obtain rfl := Option.some.inj ho
                have e7 : v 43 = ptr b := hty 7 (haf ⟨7, .data⟩ (by simp) rfl)
                refine wpOp_plain rfl rfl fun K' hK' => ?_
                clear ho haf hk hun
                have HFX := Lib.hid (HFLX.out _ hst)
                have HST2 := Lib.hid hst
                clear hst
                go_simp
                go_at_call 41
                refine HFX.out.mono ?_
                rintro e w5 ⟨rfl, rfl⟩
                exact hK' _ _ ⟨upd v 44 (.int .i64 (fill d c : Nat)), x2, y2, by simp [upd, e7], HST2.out, ty_set hty (k := 8) (by omega) ⟨_, rfl⟩⟩
              · obtain rfl := Option.some.inj ho
                refine wpOp_plain rfl rfl fun K' hK' => ?_
                clear ho haf hk hun
                have HST2 := Lib.hid hst
                clear hst
                go_simp
                exact hK' _ _ ⟨upd v 45 (.pointer (some ⟨B3, 4, none⟩)), x2, y2, rfl, HST2.out, ty_set hty (k := 9) (by omega) rfl⟩
              · obtain rfl := Option.some.inj ho
                have e9 : v 45 = .pointer (some ⟨B3, 4, none⟩) := hty 9 (haf ⟨9, .data⟩ (by simp) rfl)
                have c := hst.c3 4
                simp only [List.getElem?_toArray, List.getElem?_cons_succ, List.getElem?_cons_zero] at c
                refine wpOp_plain rfl rfl fun K' hK' => ?_
                clear ho haf hk hun
                have HST2 := Lib.hid hst
                clear hst
                go_simp
                exact hK' _ _ ⟨upd v 46 (.int .i64 y'), x2, y2, by simp [upd, e9], HST2.out, ty_set hty (k := 10) (by omega) ⟨_, rfl⟩⟩
              · obtain rfl := Option.some.inj ho
                obtain ⟨z6, e6⟩ : ∃ z : Int, v 42 = .int .i64 z := hty 6 (haf ⟨6, .data⟩ (by simp) rfl)
                obtain ⟨z8, e8⟩ : ∃ z : Int, v 44 = .int .i64 z := hty 8 (haf ⟨8, .data⟩ (by simp) rfl)
                obtain ⟨z10, e10⟩ : ∃ z : Int, v 46 = .int .i64 z := hty 10 (haf ⟨10, .data⟩ (by simp) rfl)
                refine wpOp_plain rfl rfl fun K' hK' => ?_
                clear ho haf hk hun
                have HST2 := Lib.hid hst
                clear hst
                go_simp
                exact hK' _ _ ⟨upd v 47 (.int .i64 (if (if z6 < z8 then z8 else z6) < z10 then z10 else if z6 < z8 then z8 else z6)), x2, y2, by simp [upd, e6, e8, e10], HST2.out, ty_set hty (k := 11) (by omega) ⟨_, rfl⟩⟩
              · obtain rfl := Option.some.inj ho
                refine wpOp_plain rfl rfl fun K' hK' => ?_
                clear ho haf hk hun
                have HST2 := Lib.hid hst
                clear hst
                go_simp
                exact hK' _ _ ⟨upd v 48 (.pointer (some ⟨B1, 3, none⟩)), x2, y2, rfl, HST2.out, ty_set hty (k := 12) (by omega) rfl⟩
              · obtain rfl := Option.some.inj ho
                have e12 : v 48 = .pointer (some ⟨B1, 3, none⟩) := hty 12 (haf ⟨12, .data⟩ (by simp) rfl)
                obtain ⟨z4, e4⟩ : ∃ z : Int, v 40 = .int .i64 z := hty 4 (haf ⟨4, .data⟩ (by simp) rfl)
                have c := hst.c1 3
                simp only [List.getElem?_toArray, List.getElem?_cons_succ, List.getElem?_cons_zero] at c
                have f := hst.f1 3
                refine wpOp_plain rfl rfl fun K' hK' => ?_
                clear ho haf hk hun
                have HST2 := Lib.hid hst
                clear hst
                go_simp
                exact hK' _ _ ⟨v, _, _, by simp [e12, e4], HST2.out.set3 hBne hBne2 hB1w _ rfl, ty_same hty (k := 13) (by omega)⟩
              · obtain rfl := Option.some.inj ho
                refine wpOp_plain rfl rfl fun K' hK' => ?_
                clear ho haf hk hun
                have HST2 := Lib.hid hst
                clear hst
                go_simp
                exact hK' _ _ ⟨upd v 49 (.pointer (some ⟨B1, 4, none⟩)), x2, y2, rfl, HST2.out, ty_set hty (k := 14) (by omega) rfl⟩
              · obtain rfl := Option.some.inj ho
                have e14 : v 49 = .pointer (some ⟨B1, 4, none⟩) := hty 14 (haf ⟨14, .data⟩ (by simp) rfl)
                obtain ⟨z11, e11⟩ : ∃ z : Int, v 47 = .int .i64 z := hty 11 (haf ⟨11, .data⟩ (by simp) rfl)
                have c := hst.c1 4
                simp only [List.getElem?_toArray, List.getElem?_cons_succ, List.getElem?_cons_zero] at c
                have f := hst.f1 4
                refine wpOp_plain rfl rfl fun K' hK' => ?_
                clear ho haf hk hun
                have HST2 := Lib.hid hst
                clear hst
                go_simp
                exact hK' _ _ ⟨v, _, _, by simp [e14, e11], HST2.out.set4 hBne hBne2 hB1w _ rfl, ty_same hty (k := 15) (by omega)⟩
          case rest =>
            obtain ⟨x2, y2, hst2⟩ := hcut
            have HLF2 : Hid (Calls Try.prog 37 #[ptr b] wc fun e w' => e = .returned (.bool (d == 0)) ∧ wc = w') := Lib.hid (HLF.out _ hst2.below 0)
            have HS2 := Lib.hid hst2
            have s1 := hst2.c1 3
            have s2 := hst2.c3 3
            have s3 := hst2.f1
            simp only [List.getElem?_toArray, List.getElem?_cons_succ, List.getElem?_cons_zero] at s1 s2
            clear hst2 hcut HLF HFL HST r1 r2 r3 r5
            cases hz0 : (d == 0) with
            | true =>
              rw [hz0] at HLF2
              clear hz0
              go_wp2_with fail
              refine HLF2.out.mono ?_
              rintro e w' ⟨rfl, rfl⟩
              go_wp2_with fail
              obtain rfl := HB1E.out
              go_roundw
              case rel => exact ⟨i + 1, _, _, _, _, by go_num, by omega, HS2.out.b0, HS2.out.b1, .inr ⟨by omega, rfl, rfl⟩, HS2.out.below⟩
              case measure => simp [intOf]; omega
            | false =>
              rw [hz0] at HLF2
              clear hz0
              go_wp2_with fail
              refine HLF2.out.mono ?_
              rintro e w' ⟨rfl, rfl⟩
              go_wp2_with fail
              have HS3 := Lib.hid (HS2.out.set3 hBne hBne2 hB1w (min x2 x') rfl)
              obtain rfl := HB1E.out
              go_roundw
              case rel => exact ⟨i + 1, _, _, _, _, by go_num, by omega, HS3.out.b0, HS3.out.b1, .inr ⟨by omega, rfl, rfl⟩, HS3.out.below⟩
              case measure => simp [intOf]; omega
      · have hie : i = n := by omega
        subst hie
        have hmm : mn = d + 2 ∧ mx = d + 2 := by omega
        obtain ⟨rfl, rfl⟩ := hmm
        have l1 := cell_of_row _ _ 0 _ _ _ hb1
        have l2 := cell_of_row _ _ 1 _ _ _ hb1
        have l3 := cell_of_row _ _ 2 _ _ _ hb1
        have l4 := cell_of_row _ _ 3 _ _ _ hb1
        have l5 := cell_of_row _ _ 4 _ _ _ hb1
        simp only [List.getElem?_toArray, List.getElem?_cons_succ, List.getElem?_cons_zero] at l1 l2 l3 l4 l5
        have fz := fun k => frozen_of_row wr w.heap.size k _ _ hb0
        have z0 := cell_of_row _ _ 0 _ _ _ hb0
        have z1 := cell_of_row _ _ 1 _ _ _ hb0
        have z2 := cell_of_row _ _ 2 _ _ _ hb0
        have z3 := cell_of_row _ _ 3 _ _ _ hb0
        have z4 := cell_of_row _ _ 4 _ _ _ hb0
        simp only [List.getElem?_toArray, List.getElem?_cons_succ, List.getElem?_cons_zero] at z0 z1 z2 z3 z4
        clear hb hb0 hb1 hcase
        go_wp2_with fail
        have hfin : (((((wr.setCell ⟨w.heap.size, 0, none⟩ (.int .i64 0)).setCell ⟨w.heap.size, 1, none⟩ (.int .i64 (d + 2))).setCell ⟨w.heap.size, 2, none⟩ (.int .i64 (d + 2))).setCell ⟨w.heap.size, 3, none⟩ (.int .i64 x)).setCell ⟨w.heap.size, 4, none⟩ (.int .i64 y)).heap[w.heap.size]? = some (.cells (stC 0 (d + 2) (d + 2) x y) 75 (0, 0)) := by
          rw [heap_setCell_at (heap_setCell_at (heap_setCell_at (heap_setCell_at (heap_setCell_at HB0.out _) _) _) _)]
          rfl
        refine bodyPost_ret (ret_stats _ rfl hfin) rfl ?_
        have he : ((d + 1 : Nat) : Int) + 1 = (d : Int) + 2 := by omega
        exact ⟨x, y, by rw [he], ((((HB.out.setCell (Nat.le_refl _) _).setCell (Nat.le_refl _) _).setCell (Nat.le_refl _) _).setCell (Nat.le_refl _) _).setCell (Nat.le_refl _) _⟩
end Go.Proofs.Ytjdcnkbkbcfhfaa
