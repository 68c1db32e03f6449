/-
  The walk of Put.
-/
import Derived.Test.YtlgjkhdpinnccaaTp
import Derived.Deep.RegionHeld3
namespace Go.Proofs.Ytlgjkhdpinnccaa
open Go.RowKit Go.Sort

/-- What insert leaves of a whole tree: its root may hold one too many. -/
structure Over (base m o : Nat) (w0 w : World) (M : Nodes) (O : Own') (tb d a : Nat) (t : T d) (fp : List Nat) (n : Nat) (ps : List PE) : Prop where
  store : Store w M O
  fr : Below base w0 w
  top : O tb = .top
  low : ∀ k, k < base → ¬ (O k).mine ∧ O k ≠ .top ∧ O k ≠ .row
  blk : w.heap[tb]? = some (.cells #[.int .i64 o, ptr a, .int .i64 n] 62 (0, 0))
  rep : Rep M d a t fp
  nd : fp.Nodup
  ok : Ok m o d t
  root : d = 0 ∨ 2 ≤ fill d t
  full : fill d t ≤ o + 1
  len : ps.length = (flat d t).length
  flat : (Go.Proofs.Ytlgjkhdpinnccaa.flat d t).map pr = ps

/-- The clone of a key, then the insertion. -/
theorem put_mid {base m o : Nat} (hO : Order m o) {w w1 w2 : World} {M : Nodes} {O : Own'} {tb d a : Nat} {t : T d} {fp : List Nat} {n : Nat} (hB : base ≤ w.heap.size) (hT : TreeIn base m o w M O tb d a t fp n) (hb1 : Below w.heap.size w w1) (hb2 : Below w1.heap.size w1 w2) {key : Row} {A : Option Addr} {c : Nat} (v : Int)
    (hk : Own 3 Val.cs 54 w1.heap.size w2 (.slice A key.length c) key) (hkl : key.length ≤ 12) :
    Calls Try.prog 29 #[ptr tb, ptr a, .agg #[.slice A key.length c, .int .i64 v]] w2 fun e w3 => e = .returned (.bool (getP key ((flat d t).map pr)).isNone) ∧ ∃ M3 O3 t' fp', Over base m o w2 w3 M3 O3 tb d a t' fp' n (insP (key, v) ((flat d t).map pr)) := by
  have hT0 := hT.below hb1
  have hT1 := hT0.below hb2
  obtain ⟨O2, hO2⟩ : ∃ O2 : Own', O2 = fun k => if (Value.slice A key.length c).ownBlock = some k then .row else O k := ⟨_, rfl⟩
  have hfree : ∀ g, (Value.slice A key.length c).ownBlock = some g → O g = .free ∧ w1.heap.size ≤ g ∧ g < w2.heap.size := fun g hg => ⟨hT.store.free g (Nat.le_trans hb1.size (Own.lt hk g hg).1), Own.lt hk g hg⟩
  have hne : ∀ k, O k ≠ .free → O2 k = O k := fun k hk' => by
    rw [hO2]
    exact if_neg fun e => hk' (hfree k e).1
  have hlt : ∀ k, k < w1.heap.size → O2 k = O k := fun k hk' => by
    rw [hO2]
    exact if_neg fun e => by have := (hfree k e).2.1; omega
  have hs2 : Store w2 M O2 := (((St.refl hT0.store).below hb2).claim (O' := O2) hne (fun k hk' => by
      rw [hO2]
      show (if _ then _ else _) = _
      rw [if_neg fun e => by have := (hfree k e).2.2; omega]
      exact hT1.store.free k hk') hlt).store
  have htop : O2 tb = .top := (hne tb (by rw [hT.top]; simp)).trans hT.top
  have hkok : KOk (fun k => O2 k = .row) w2 ⟨A, c, key⟩ := ⟨((hk.elems valLay.len rfl).more fun k hk' => by rw [hO2]; exact if_pos hk'), hkl⟩
  have hlow : ∀ k, k < base → ¬ (O2 k).mine ∧ O2 k ≠ .top ∧ O2 k ≠ .row := fun k hk' => by
    rw [hlt k (Nat.lt_of_lt_of_le hk' (Nat.le_trans hB hb1.size))]
    exact hT.low k hk'
  have hcell : w2.cell? ⟨tb, 0, none⟩ = some (.int .i64 o) := by rw [cell_of_row _ _ _ _ _ _ hT1.blk]; rfl
  refine (insertW hO ⟨⟨A, c, key⟩, v⟩ w2 M O2 hs2 htop hcell hT.rep hT.nd hkok hT.ok (hT.root.imp id fun h => by omega) hT.full).mono ?_
  rintro e w3 ⟨M3, O3, t', fp', rfl, hS, hr, hch, hok, hfl, hf1, hf2⟩
  have hfe : (flat d t').map pr = insP (key, v) ((flat d t).map pr) := by rw [hfl, map_ins]; rfl
  refine ⟨by rw [get_map], M3, O3, t', fp', hS.store, hS.below_base hlow (Nat.le_trans hB (Nat.le_trans hb1.size hb2.size)), hS.ownTop hs2 htop, hS.low hlow (Nat.le_trans hB (Nat.le_trans hb1.size hb2.size)), (hS.keep tb hT1.lt (by rw [htop]; exact fun h => h)).trans hT1.blk, hr, hch.nd, hok, hT.root.imp id fun h => by omega, by have := hT.full; omega, ?_, ?_⟩
  · rw [← hfe, List.length_map]
  · exact hfe

theorem len_insP (p : PE) : ∀ ps : List PE, (insP p ps).length = if (getP p.1 ps).isSome then ps.length else ps.length + 1
  | [] => rfl
  | x :: xs => by
    unfold insP getP
    split
    · rw [List.length_cons, len_insP p xs]
      split <;> simp
    · split <;> simp

/-- The tree's top is written: the root, the number of entries. -/
theorem Over.shut {base m o : Nat} {w2 w3 w' : World} {M : Nodes} {O : Own'} {tb d a : Nat} {t : T d} {fp : List Nat} {n : Nat} {ps : List PE} (h : Over base m o w2 w3 M O tb d a t fp n ps)
    (hf : fill d t ≤ o) (hs : Store w' M O) (hk : w'.heap[tb]? = some (.cells #[.int .i64 o, ptr a, .int .i64 ps.length] 62 (0, 0))) : TreeAt base m o w' tb ps :=
  ⟨M, O, d, a, t, fp, ⟨hs, h.top, h.low, hk, h.rep, h.nd, h.ok, h.root, hf, h.len⟩, h.flat⟩

theorem Over.base_le {base m o : Nat} {w2 w3 : World} {M : Nodes} {O : Own'} {tb d a : Nat} {t : T d} {fp : List Nat} {n : Nat} {ps : List PE} (h : Over base m o w2 w3 M O tb d a t fp n ps) : base ≤ tb := Nat.le_of_not_lt fun hl => (h.low tb hl).2.1 h.top
theorem Over.fin_same {base m o : Nat} {w2 w3 : World} {M : Nodes} {O : Own'} {tb d a : Nat} {t : T d} {fp : List Nat} {n : Nat} {ps : List PE} (h : Over base m o w2 w3 M O tb d a t fp n ps) (hf : fill d t ≤ o) (hl : ps.length = n) (k : Nat) :
    TreeAt base m o (w3.drewN k) tb ps ∧ Below base w2 (w3.drewN k) :=
  ⟨h.shut hf (h.store.below (below_drewN (Below.refl _ _) k)) (by rw [hl]; exact h.blk), h.fr.trans (below_drewN (Below.refl base _) k)⟩
theorem Over.fin_more {base m o : Nat} {w2 w3 : World} {M : Nodes} {O : Own'} {tb d a : Nat} {t : T d} {fp : List Nat} {n : Nat} {ps : List PE} (h : Over base m o w2 w3 M O tb d a t fp n ps) (hf : fill d t ≤ o) (hl : ps.length = n + 1) (k : Nat) :
    TreeAt base m o ((w3.setCell ⟨tb, 2, none⟩ (.int .i64 ((n : Int) + 1))).drewN k) tb ps ∧ Below base w2 ((w3.setCell ⟨tb, 2, none⟩ (.int .i64 ((n : Int) + 1))).drewN k) :=
  ⟨h.shut hf ((h.store.setTop h.top 2 _).below (below_drewN (Below.refl _ _) k)) (by
      show (w3.setCell ⟨tb, 2, none⟩ (.int .i64 ((n : Int) + 1))).heap[tb]? = _
      rw [heap_setCell_at h.blk, hl]; rfl), ((h.fr.setCell h.base_le _)).trans (below_drewN (Below.refl base _) k)⟩

/-- The root is split. -/
theorem Over.split {base m o : Nat} (hO : Order m o) {w2 w3 w4 : World} {M : Nodes} {O : Own'} {tb d a : Nat} {t : T d} {fp : List Nat} {n : Nat} {ps : List PE} (h : Over base m o w2 w3 M O tb d a t fp n ps) (hB : base ≤ w3.heap.size) (hf : o < fill d t)
    {b : Nat} {k : Key} {M' : Nodes} {O' : Own'} {l r : T d} {fl fr : List Nat} (hs : Spl d t l k r) (hS : St w3 O w4 M' O') (hl : Rep M' d a l fl) (hr : Rep M' d b r fr) (hc : Chg w3.heap.size M M' fp (fl ++ fr)) (hk : KOk (fun k => O' k = .row) w4 k) :
    ∃ (M5 : Nodes) (O5 : Own') (t5 : T (d + 1)) (fp5 : List Nat), Over base m o w2 ((((w4.alloc (.cells #[ptr a, ptr b] 60)).alloc (.cells #[.slice k.A k.row.length k.c] 30)).alloc (.cells #[.slice none 0 0, .slice (some ⟨w4.heap.size + 1, 0, none⟩) 1 1, .slice (some ⟨w4.heap.size, 0, none⟩) 2 2] 70)).setCell ⟨tb, 1, none⟩ (ptr (w4.heap.size + 2))) M5 O5 tb (d + 1) (w4.heap.size + 2) t5 fp5 n ps ∧ fill (d + 1) t5 ≤ o := by
  obtain ⟨M5, O5, t5, hS5, hr5, hn5, hok5, hfl5, hf5⟩ := new_root hS hO h.ok hf h.full hs hl hr hc.nd hk
  have hst := hS5.store
  have htop5 : O5 tb = .top := hS5.ownTop h.store h.top
  obtain ⟨w5, hw5⟩ : ∃ w5, w5 = ((w4.alloc (.cells #[ptr a, ptr b] 60)).alloc (.cells #[.slice k.A k.row.length k.c] 30)).alloc (.cells #[.slice none 0 0, .slice (some ⟨w4.heap.size + 1, 0, none⟩) 1 1, .slice (some ⟨w4.heap.size, 0, none⟩) 2 2] 70) := ⟨_, rfl⟩
  rw [← hw5] at hS5 hst ⊢
  have hbk := (hS5.keep tb (h.store.lt' (by rw [h.top]; simp)) (by rw [h.top]; exact fun h => h)).trans h.blk
  have hbt : base ≤ tb := Nat.le_of_not_lt fun hl => (h.low tb hl).2.1 h.top
  have hb5 : Below base w3 w5 := hS5.below_base h.low hB
  refine ⟨M5, O5, t5, _, ⟨hst.setTop htop5 1 _, (h.fr.trans hb5).setCell hbt _, htop5, hS5.low h.low hB, ?_, hr5, hn5, hok5, .inr (by omega), by have := hO.lo; omega, by rw [h.len, hfl5], by rw [hfl5]; exact h.flat⟩, by have := hO.lo; omega⟩
  rw [heap_setCell_at hbk]
  rfl

/-- What Put leaves. -/
def PutPost (base m o : Nat) (w : World) (tb : Nat) (ps : List PE) (key : Row) (v : Int) (e : Ending) (w' : World) : Prop :=
  e = .returned (.tuple #[.bool (getP key ps).isNone, .int .i64 0]) ∧ TreeAt base m o w' tb (insP (key, v) ps) ∧ Below base w w'

set_option maxRecDepth 100000 in
set_option maxHeartbeats 4000000 in
theorem putW {base m o tb : Nat} (hO : Order m o) {ps : List PE} (w : World) (hB : base ≤ w.heap.size) (hT : TreeAt base m o w tb ps) (A : Option Addr) (c : Nat) (key : Row) (v : Int) (hk : Elems 3 Val.cs w (· < w.heap.size) A key) (he : rErr key = 0) (hkl : key.length ≤ 12) (hn : ps.length ≤ 1000) :
    Calls Try.prog 10 #[ptr tb, .slice A key.length c, .int .i64 v] w (PutPost base m o w tb ps key v) := by
  obtain ⟨M, O, d, a, t, fp, hT, hps⟩ := hT
  have HCR := Lib.hid (checkRow A c key w hk (by unfold maxLen; omega))
  rw [he] at HCR
  have HT := Lib.hid hT
  have HPS := Lib.hid hps
  have HK := Lib.hid hk
  have HSZ := Lib.hid hB
  clear hT hps hk hB
  go_enter Try.func10, Try.ntmps10
  go_wp2_with fail
  refine HCR.out.mono ?_
  rintro e w1 ⟨rfl, hb1⟩
  have HB1 := Lib.hid hb1
  have hT1 := HT.out.below hb1
  have ca : w1.cell? ⟨tb, 1, none⟩ = some (ptr a) := by rw [cell_of_row _ _ _ _ _ _ hT1.blk]; rfl
  have HCL : Hid (∀ k, Calls Try.prog 30 #[.slice A key.length c] (w1.drewN k) fun e w2 => ∃ A' c', e = .returned (.slice A' key.length c') ∧ w2.cell? ⟨tb, 1, none⟩ = some (ptr a)
      ∧ Hid (Calls Try.prog 29 #[ptr tb, ptr a, .agg #[.slice A' key.length c', .int .i64 v]] w2 fun e w3 => e = .returned (.bool (getP key ps).isNone) ∧ w3.cell? ⟨tb, 1, none⟩ = some (ptr a) ∧ Below base w w2 ∧ w1.heap.size ≤ w2.heap.size ∧ ∃ M3 O3 t' fp', Over base m o w2 w3 M3 O3 tb d a t' fp' ps.length (insP (key, v) ps))) := Lib.hid fun k => by
    have hb1k : Below w.heap.size w (w1.drewN k) := hb1.trans (below_drewN (Below.refl _ _) k)
    have hk1 := (HK.out.keep (Keeps.of_below hb1k fun _ h => h)).more (S' := (· < (w1.drewN k).heap.size)) fun i hi => Nat.lt_of_lt_of_le hi hb1k.size
    refine (cloneRow A key.length c key (w1.drewN k) _ hk1 (fun _ h => h) rfl (by omega)).mono ?_
    rintro e w2 ⟨v2, rfl, ho2, hb2⟩
    obtain ⟨A', c', rfl, -, -⟩ := ho2.form
    have hT2 := HT.out.below (hb1k.trans (hb2.mono hb1k.size))
    refine ⟨A', c', rfl, by rw [cell_of_row _ _ _ _ _ _ hT2.blk]; rfl, Lib.hid ?_⟩
    refine (put_mid hO HSZ.out HT.out hb1k hb2 v ho2 hkl).mono ?_
    rintro e w3 ⟨rfl, M3, O3, t', fp', hov⟩
    rw [HPS.out] at hov ⊢
    exact ⟨rfl, by rw [cell_of_row _ _ _ _ _ _ hov.blk]; rfl, (hb1k.mono HSZ.out).trans (hb2.mono (Nat.le_trans HSZ.out hb1k.size)), hb2.size, M3, O3, t', fp', hov⟩
  have hT1b := Lib.hid hT1
  clear hT1 hb1
  go_upto_region 4 with fail
  have cad : w1.drew.cell? ⟨tb, 1, none⟩ = some (ptr a) := ca
  have HCA := Lib.hid cad
  go_region_held3 (fun w' => w'.cell? ⟨tb, 1, none⟩ = some (ptr a))
    (first | exact hc3 | exact hc2 | exact HCA.out)
    (first
      | (go_at_call 30; refine (HCL.out 1).mono ?_; rintro e w2 ⟨A', c', rfl, hc2, HIN⟩)
      | (go_at_call 29; refine HIN.out.mono ?_; rintro e w3 ⟨rfl, hc3, hbw, hbs, M3, O3, t', fp', hov⟩))
  have hB3 : base ≤ w3.heap.size := Nat.le_trans (Nat.le_trans HSZ.out HB1.out.size) (by
    have := hov.fr.size
    have := hbs
    omega)
  have c0 : w3.cell? ⟨tb, 0, none⟩ = some (.int .i64 o) := by rw [cell_of_row _ _ _ _ _ _ hov.blk]; rfl
  have c2 : w3.cell? ⟨tb, 2, none⟩ = some (.int .i64 ps.length) := by rw [cell_of_row _ _ _ _ _ _ hov.blk]; rfl
  have f1 := frozen_of_row w3 tb 1 _ _ hov.blk
  have f2 := frozen_of_row w3 tb 2 _ _ hov.blk
  have hfl := len_insP (key, v) ps
  have HFL := Lib.hid (fun k => fillT hov.store hov.rep (hov.root.imp id fun h => by omega) k)
  have HOV := Lib.hid hov
  have hwr : IntKind.i64.wrap ((ps.length : Int) + 1) = (ps.length : Int) + 1 := by rw [IntKind.wrap_i64]; omega
  have hfo := hov.full
  clear hov HCL ca HCA cad
  rcases Nat.lt_or_ge o (fill d t') with hgt | hle
  · have hcmp : decide ((o : Int) < ((fill d t' : Nat) : Int)) = true := by rw [decide_eq_true_iff]; omega
    have hcmp2 : decide (o < fill d t') = true := by rw [decide_eq_true_iff]; omega
    have hcmp3 : o < fill d t' := hgt
    have HGT := Lib.hid hgt
    have hOl := hO.lo
    have hOh := hO.hi
    have HSP := Lib.hid (fun k => splitW (w3.drewN k) M3 O3 (HOV.out.store.below (below_drewN (Below.refl _ _) k)) HOV.out.rep HOV.out.nd HOV.out.ok (by omega) (by omega))
    have HTK : Hid (∀ (k : Nat) (w4 : World) (M4 : Nodes) (O4 : Own'), St (w3.drewN k) O3 w4 M4 O4 → w4.heap[tb]? = w3.heap[tb]?) := Lib.hid fun k w4 M4 O4 h => h.keep tb (HOV.out.store.lt' (by rw [HOV.out.top]; simp)) (by rw [HOV.out.top]; exact fun h => h)
    have HBK := Lib.hid HOV.out.blk
    clear hgt hfo
    generalize hfd : fill d t' = fd at *
    have HFD := Lib.hid hfd
    clear hfd
    go_wp2_with fail
    go_quiet (first | (go_at_call 31; exact quietSame (HFL.out _)))
    go_wp2_with fail
    refine (HSP.out _).mono ?_
    rintro e w4 ⟨b, k, M4, O4, l, r, fl, fr, rfl, hspl, hS4, hrl, hrr, hch, hko⟩
    have hb4 : w4.heap[tb]? = some (.cells #[.int .i64 o, ptr a, .int .i64 ps.length] 62 (0, 0)) := (HTK.out _ _ _ _ hS4).trans HBK.out
    have d1 : w4.cell? ⟨tb, 1, none⟩ = some (ptr a) := by rw [cell_of_row _ _ _ _ _ _ hb4]; rfl
    have d2 : w4.cell? ⟨tb, 2, none⟩ = some (.int .i64 ps.length) := by rw [cell_of_row _ _ _ _ _ _ hb4]; rfl
    have HSP2 := Lib.hid (HOV.out.split hO hB3 (by rw [HFD.out]; exact HGT.out) hspl (((St.refl HOV.out.store).drewN _).trans hS4) hrl hrr hch hko)
    clear hspl hS4 hrl hrr hch hko HSP HTK
    obtain ⟨M5, O5, t5, fp5, hov5, hf5⟩ := HSP2.out
    have f4 := frozen_of_row w4 tb 1 _ _ hb4
    have f5 := frozen_of_row w4 tb 2 _ _ hb4
    have htl : tb < w4.heap.size := (Array.getElem?_eq_some_iff.1 hb4).1
    have hb5 : (((w4.alloc (.cells #[ptr a, ptr b] 60)).alloc (.cells #[.slice k.A k.row.length k.c] 30)).alloc (.cells #[.slice none 0 0, .slice (some ⟨w4.heap.size + 1, 0, none⟩) 1 1, .slice (some ⟨w4.heap.size, 0, none⟩) 2 2] 70)).heap[tb]? = some (.cells #[.int .i64 o, ptr a, .int .i64 ps.length] 62 (0, 0)) := by
      rw [Below.heap_alloc _ _ _ (by simp; omega), Below.heap_alloc _ _ _ (by simp; omega), Below.heap_alloc _ _ _ htl]
      exact hb4
    have g4 := frozen_of_row _ tb 1 _ _ hb5
    have g5 := frozen_of_row _ tb 2 _ _ hb5
    have d4 := cell_of_row _ tb 1 _ _ _ hb5
    have d5 := cell_of_row _ tb 2 _ _ _ hb5
    simp only [List.getElem?_toArray, List.getElem?_cons_succ, List.getElem?_cons_zero] at d4 d5
    cases hg : getP key ps with
    | none =>
      have HE := Lib.hid (fun k => hov5.fin_more hf5 (by rw [hfl]; simp [hg]) k)
      clear hov5 HSP2
      go_wp2_with fail
      go_ret2
      exact ⟨by simp [hg], (HE.out 0).1, hbw.trans (HE.out 0).2⟩
    | some y =>
      have HE := Lib.hid (fun k => hov5.fin_same hf5 (by rw [hfl]; simp [hg]) k)
      clear hov5 HSP2
      go_wp2_with fail
      go_ret2
      exact ⟨by simp [hg], (HE.out 0).1, hbw.trans (HE.out 0).2⟩
  · have hcmp : decide ((o : Int) < ((fill d t' : Nat) : Int)) = false := by rw [decide_eq_false_iff_not]; omega
    have hcmp2 : decide (o < fill d t') = false := by rw [decide_eq_false_iff_not]; omega
    have hcmp3 : ¬ o < fill d t' := by omega
    have HLE := Lib.hid hle
    clear hle
    cases hg : getP key ps with
    | none =>
      have HE := Lib.hid (fun k => HOV.out.fin_more HLE.out (by rw [hfl]; simp [hg]) k)
      generalize fill d t' = fd at *
      go_wp2_with fail
      go_quiet (first | (go_at_call 31; exact quietSame (HFL.out _)))
      go_wp2_with fail
      go_ret2
      exact ⟨by simp [hg], (HE.out _).1, hbw.trans (HE.out _).2⟩
    | some y =>
      have HE := Lib.hid (fun k => HOV.out.fin_same HLE.out (by rw [hfl]; simp [hg]) k)
      generalize fill d t' = fd at *
      go_wp2_with fail
      go_quiet (first | (go_at_call 31; exact quietSame (HFL.out _)))
      go_wp2_with fail
      go_ret2
      exact ⟨by simp [hg], (HE.out _).1, hbw.trans (HE.out _).2⟩
end Go.Proofs.Ytlgjkhdpinnccaa
