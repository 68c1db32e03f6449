/-
  The walk of Put.
  One field of a node grows; two fields grow. No program's walk.
  The walks of minKey, minFill.
-/
import Derived.Test.YtjdcnkbkbcfhfaaHm09
import Derived.Deep.RegionHeld3
import Derived.Deep.LoopGhost
namespace Go.Proofs.Ytjdcnkbkbcfhfaa
open Go.RowKit Go.Sort

/-- What insert leaves of a whole tree: its root may hold one too many. -/
structure Over (base m o : Nat) (w0 w : World) (M : Nodes) (O : Own') (tb d a : Nat) (t : T d) (fp : List Nat) (n : Nat) (ps : List PE) : Prop where
  store : Store w M O
  fr : Below base w0 w
  top : O tb = .top
  low : ∀ k, k < base → ¬ (O k).mine ∧ O k ≠ .top ∧ O k ≠ .row
  blk : w.heap[tb]? = some (.cells #[.int .i64 o, ptr a, .int .i64 n] 87 (0, 0))
  rep : Rep M d a t fp
  nd : fp.Nodup
  ok : Ok m o d t
  root : d = 0 ∨ 2 ≤ fill d t
  full : fill d t ≤ o + 1
  len : ps.length = (flat d t).length
  flat : (Go.Proofs.Ytjdcnkbkbcfhfaa.flat d t).map pr = ps

/-- The clone of a key, then the insertion. -/
theorem put_mid {base m o : Nat} (hO : Order m o) {w w1 w2 : World} {M : Nodes} {O : Own'} {tb d a : Nat} {t : T d} {fp : List Nat} {n : Nat} (hB : base ≤ w.heap.size) (hT : TreeIn base m o w M O tb d a t fp n) (hb1 : Below w.heap.size w w1) (hb2 : Below w1.heap.size w1 w2) {key : Row} {A : Option Addr} {c : Nat} (v : Int)
    (hk : Own 3 Val.cs 44 w1.heap.size w2 (.slice A key.length c) key) (hkl : key.length ≤ 12) :
    Calls Try.prog 40 #[ptr tb, ptr a, .agg #[.slice A key.length c, .int .i64 v]] w2 fun e w3 => e = .returned (.bool (getP key ((flat d t).map pr)).isNone) ∧ ∃ M3 O3 t' fp', Over base m o w2 w3 M3 O3 tb d a t' fp' n (insP (key, v) ((flat d t).map pr)) := by
  have hT0 := hT.below hb1
  have hT1 := hT0.below hb2
  obtain ⟨O2, hO2⟩ : ∃ O2 : Own', O2 = fun k => if (Value.slice A key.length c).ownBlock = some k then .row else O k := ⟨_, rfl⟩
  have hfree : ∀ g, (Value.slice A key.length c).ownBlock = some g → O g = .free ∧ w1.heap.size ≤ g ∧ g < w2.heap.size := fun g hg => ⟨hT.store.free g (Nat.le_trans hb1.size (Own.lt hk g hg).1), Own.lt hk g hg⟩
  have hne : ∀ k, O k ≠ .free → O2 k = O k := fun k hk' => by
    rw [hO2]
    exact if_neg fun e => hk' (hfree k e).1
  have hlt : ∀ k, k < w1.heap.size → O2 k = O k := fun k hk' => by
    rw [hO2]
    exact if_neg fun e => by have := (hfree k e).2.1; omega
  have hs2 : Store w2 M O2 := (((St.refl hT0.store).below hb2).claim (O' := O2) hne (fun k hk' => by
      rw [hO2]
      show (if _ then _ else _) = _
      rw [if_neg fun e => by have := (hfree k e).2.2; omega]
      exact hT1.store.free k hk') hlt).store
  have htop : O2 tb = .top := (hne tb (by rw [hT.top]; simp)).trans hT.top
  have hkok : KOk (fun k => O2 k = .row) w2 ⟨A, c, key⟩ := ⟨((hk.elems valLay.len rfl).more fun k hk' => by rw [hO2]; exact if_pos hk'), hkl⟩
  have hlow : ∀ k, k < base → ¬ (O2 k).mine ∧ O2 k ≠ .top ∧ O2 k ≠ .row := fun k hk' => by
    rw [hlt k (Nat.lt_of_lt_of_le hk' (Nat.le_trans hB hb1.size))]
    exact hT.low k hk'
  have hcell : w2.cell? ⟨tb, 0, none⟩ = some (.int .i64 o) := by rw [cell_of_row _ _ _ _ _ _ hT1.blk]; rfl
  refine (insertW hO ⟨⟨A, c, key⟩, v⟩ w2 M O2 hs2 htop hcell hT.rep hT.nd hkok hT.ok (hT.root.imp id fun h => by omega) hT.full).mono ?_
  rintro e w3 ⟨M3, O3, t', fp', rfl, hS, hr, hch, hok, hfl, hf1, hf2⟩
  have hfe : (flat d t').map pr = insP (key, v) ((flat d t).map pr) := by rw [hfl, map_ins]; rfl
  refine ⟨by rw [get_map], M3, O3, t', fp', hS.store, hS.below_base hlow (Nat.le_trans hB (Nat.le_trans hb1.size hb2.size)), hS.ownTop hs2 htop, hS.low hlow (Nat.le_trans hB (Nat.le_trans hb1.size hb2.size)), (hS.keep tb hT1.lt (by rw [htop]; exact fun h => h)).trans hT1.blk, hr, hch.nd, hok, hT.root.imp id fun h => by omega, by have := hT.full; omega, ?_, ?_⟩
  · rw [← hfe, List.length_map]
  · exact hfe

theorem len_insP (p : PE) : ∀ ps : List PE, (insP p ps).length = if (getP p.1 ps).isSome then ps.length else ps.length + 1
  | [] => rfl
  | x :: xs => by
    unfold insP getP
    split
    · rw [List.length_cons, len_insP p xs]
      split <;> simp
    · split <;> simp

/-- The tree's top is written: the root, the number of entries. -/
theorem Over.shut {base m o : Nat} {w2 w3 w' : World} {M : Nodes} {O : Own'} {tb d a : Nat} {t : T d} {fp : List Nat} {n : Nat} {ps : List PE} (h : Over base m o w2 w3 M O tb d a t fp n ps)
    (hf : fill d t ≤ o) (hs : Store w' M O) (hk : w'.heap[tb]? = some (.cells #[.int .i64 o, ptr a, .int .i64 ps.length] 87 (0, 0))) : TreeAt base m o w' tb ps :=
  ⟨M, O, d, a, t, fp, ⟨hs, h.top, h.low, hk, h.rep, h.nd, h.ok, h.root, hf, h.len⟩, h.flat⟩

theorem Over.base_le {base m o : Nat} {w2 w3 : World} {M : Nodes} {O : Own'} {tb d a : Nat} {t : T d} {fp : List Nat} {n : Nat} {ps : List PE} (h : Over base m o w2 w3 M O tb d a t fp n ps) : base ≤ tb := Nat.le_of_not_lt fun hl => (h.low tb hl).2.1 h.top
theorem Over.fin_same {base m o : Nat} {w2 w3 : World} {M : Nodes} {O : Own'} {tb d a : Nat} {t : T d} {fp : List Nat} {n : Nat} {ps : List PE} (h : Over base m o w2 w3 M O tb d a t fp n ps) (hf : fill d t ≤ o) (hl : ps.length = n) (k : Nat) :
    TreeAt base m o (w3.drewN k) tb ps ∧ Below base w2 (w3.drewN k) :=
  ⟨h.shut hf (h.store.below (below_drewN (Below.refl _ _) k)) (by rw [hl]; exact h.blk), h.fr.trans (below_drewN (Below.refl base _) k)⟩
theorem Over.fin_more {base m o : Nat} {w2 w3 : World} {M : Nodes} {O : Own'} {tb d a : Nat} {t : T d} {fp : List Nat} {n : Nat} {ps : List PE} (h : Over base m o w2 w3 M O tb d a t fp n ps) (hf : fill d t ≤ o) (hl : ps.length = n + 1) (k : Nat) :
    TreeAt base m o ((w3.setCell ⟨tb, 2, none⟩ (.int .i64 ((n : Int) + 1))).drewN k) tb ps ∧ Below base w2 ((w3.setCell ⟨tb, 2, none⟩ (.int .i64 ((n : Int) + 1))).drewN k) :=
  ⟨h.shut hf ((h.store.setTop h.top 2 _).below (below_drewN (Below.refl _ _) k)) (by
      show (w3.setCell ⟨tb, 2, none⟩ (.int .i64 ((n : Int) + 1))).heap[tb]? = _
      rw [heap_setCell_at h.blk, hl]; rfl), ((h.fr.setCell h.base_le _)).trans (below_drewN (Below.refl base _) k)⟩

/-- The root is split. -/
theorem Over.split {base m o : Nat} (hO : Order m o) {w2 w3 w4 : World} {M : Nodes} {O : Own'} {tb d a : Nat} {t : T d} {fp : List Nat} {n : Nat} {ps : List PE} (h : Over base m o w2 w3 M O tb d a t fp n ps) (hB : base ≤ w3.heap.size) (hf : o < fill d t)
    {b : Nat} {k : Key} {M' : Nodes} {O' : Own'} {l r : T d} {fl fr : List Nat} (hs : Spl d t l k r) (hS : St w3 O w4 M' O') (hl : Rep M' d a l fl) (hr : Rep M' d b r fr) (hc : Chg w3.heap.size M M' fp (fl ++ fr)) (hk : KOk (fun k => O' k = .row) w4 k) :
    ∃ (M5 : Nodes) (O5 : Own') (t5 : T (d + 1)) (fp5 : List Nat), Over base m o w2 ((((w4.alloc (.cells #[ptr a, ptr b] 82)).alloc (.cells #[.slice k.A k.row.length k.c] 35)).alloc (.cells #[.slice none 0 0, .slice (some ⟨w4.heap.size + 1, 0, none⟩) 1 1, .slice (some ⟨w4.heap.size, 0, none⟩) 2 2] 85)).setCell ⟨tb, 1, none⟩ (ptr (w4.heap.size + 2))) M5 O5 tb (d + 1) (w4.heap.size + 2) t5 fp5 n ps ∧ fill (d + 1) t5 ≤ o := by
  obtain ⟨M5, O5, t5, hS5, hr5, hn5, hok5, hfl5, hf5⟩ := new_root hS hO h.ok hf h.full hs hl hr hc.nd hk
  have hst := hS5.store
  have htop5 : O5 tb = .top := hS5.ownTop h.store h.top
  obtain ⟨w5, hw5⟩ : ∃ w5, w5 = ((w4.alloc (.cells #[ptr a, ptr b] 82)).alloc (.cells #[.slice k.A k.row.length k.c] 35)).alloc (.cells #[.slice none 0 0, .slice (some ⟨w4.heap.size + 1, 0, none⟩) 1 1, .slice (some ⟨w4.heap.size, 0, none⟩) 2 2] 85) := ⟨_, rfl⟩
  rw [← hw5] at hS5 hst ⊢
  have hbk := (hS5.keep tb (h.store.lt' (by rw [h.top]; simp)) (by rw [h.top]; exact fun h => h)).trans h.blk
  have hbt : base ≤ tb := Nat.le_of_not_lt fun hl => (h.low tb hl).2.1 h.top
  have hb5 : Below base w3 w5 := hS5.below_base h.low hB
  refine ⟨M5, O5, t5, _, ⟨hst.setTop htop5 1 _, (h.fr.trans hb5).setCell hbt _, htop5, hS5.low h.low hB, ?_, hr5, hn5, hok5, .inr (by omega), by have := hO.lo; omega, by rw [h.len, hfl5], by rw [hfl5]; exact h.flat⟩, by have := hO.lo; omega⟩
  rw [heap_setCell_at hbk]
  rfl

/-- What Put leaves. -/
def PutPost (base m o : Nat) (w : World) (tb : Nat) (ps : List PE) (key : Row) (v : Int) (e : Ending) (w' : World) : Prop :=
  e = .returned (.tuple #[.bool (getP key ps).isNone, .int .i64 0]) ∧ TreeAt base m o w' tb (insP (key, v) ps) ∧ Below base w w'

set_option maxRecDepth 100000 in
set_option maxHeartbeats 4000000 in
theorem putW {base m o tb : Nat} (hO : Order m o) {ps : List PE} (w : World) (hB : base ≤ w.heap.size) (hT : TreeAt base m o w tb ps) (A : Option Addr) (c : Nat) (key : Row) (v : Int) (hk : Elems 3 Val.cs w (· < w.heap.size) A key) (he : rErr key = 0) (hkl : key.length ≤ 12) (hn : ps.length ≤ 1000) :
    Calls Try.prog 25 #[ptr tb, .slice A key.length c, .int .i64 v] w (PutPost base m o w tb ps key v) := by
  obtain ⟨M, O, d, a, t, fp, hT, hps⟩ := hT
  have HCR := Lib.hid (checkRow A c key w hk (by unfold maxLen; omega))
  rw [he] at HCR
  have HT := Lib.hid hT
  have HPS := Lib.hid hps
  have HK := Lib.hid hk
  have HSZ := Lib.hid hB
  clear hT hps hk hB
  go_enter Try.func25, Try.ntmps25
  go_wp2_with fail
  refine HCR.out.mono ?_
  rintro e w1 ⟨rfl, hb1⟩
  have HB1 := Lib.hid hb1
  have hT1 := HT.out.below hb1
  have ca : w1.cell? ⟨tb, 1, none⟩ = some (ptr a) := by rw [cell_of_row _ _ _ _ _ _ hT1.blk]; rfl
  have HCL : Hid (∀ k, Calls Try.prog 11 #[.slice A key.length c] (w1.drewN k) fun e w2 => ∃ A' c', e = .returned (.slice A' key.length c') ∧ w2.cell? ⟨tb, 1, none⟩ = some (ptr a)
      ∧ Hid (Calls Try.prog 40 #[ptr tb, ptr a, .agg #[.slice A' key.length c', .int .i64 v]] w2 fun e w3 => e = .returned (.bool (getP key ps).isNone) ∧ w3.cell? ⟨tb, 1, none⟩ = some (ptr a) ∧ Below base w w2 ∧ w1.heap.size ≤ w2.heap.size ∧ ∃ M3 O3 t' fp', Over base m o w2 w3 M3 O3 tb d a t' fp' ps.length (insP (key, v) ps))) := Lib.hid fun k => by
    have hb1k : Below w.heap.size w (w1.drewN k) := hb1.trans (below_drewN (Below.refl _ _) k)
    have hk1 := (HK.out.keep (Keeps.of_below hb1k fun _ h => h)).more (S' := (· < (w1.drewN k).heap.size)) fun i hi => Nat.lt_of_lt_of_le hi hb1k.size
    refine (cloneRow A key.length c key (w1.drewN k) _ hk1 (fun _ h => h) rfl (by omega)).mono ?_
    rintro e w2 ⟨v2, rfl, ho2, hb2⟩
    obtain ⟨A', c', rfl, -, -⟩ := ho2.form
    have hT2 := HT.out.below (hb1k.trans (hb2.mono hb1k.size))
    refine ⟨A', c', rfl, by rw [cell_of_row _ _ _ _ _ _ hT2.blk]; rfl, Lib.hid ?_⟩
    refine (put_mid hO HSZ.out HT.out hb1k hb2 v ho2 hkl).mono ?_
    rintro e w3 ⟨rfl, M3, O3, t', fp', hov⟩
    rw [HPS.out] at hov ⊢
    exact ⟨rfl, by rw [cell_of_row _ _ _ _ _ _ hov.blk]; rfl, (hb1k.mono HSZ.out).trans (hb2.mono (Nat.le_trans HSZ.out hb1k.size)), hb2.size, M3, O3, t', fp', hov⟩
  have hT1b := Lib.hid hT1
  clear hT1 hb1
  go_upto_region 4 with fail
  have cad : w1.drew.cell? ⟨tb, 1, none⟩ = some (ptr a) := ca
  have HCA := Lib.hid cad
  go_region_held3 (fun w' => w'.cell? ⟨tb, 1, none⟩ = some (ptr a))
    (first | exact hc3 | exact hc2 | exact HCA.out)
    (first
      | (go_at_call 11; refine (HCL.out 1).mono ?_; rintro e w2 ⟨A', c', rfl, hc2, HIN⟩)
      | (go_at_call 40; refine HIN.out.mono ?_; rintro e w3 ⟨rfl, hc3, hbw, hbs, M3, O3, t', fp', hov⟩))
  have hB3 : base ≤ w3.heap.size := Nat.le_trans (Nat.le_trans HSZ.out HB1.out.size) (by
    have := hov.fr.size
    have := hbs
    omega)
  have c0 : w3.cell? ⟨tb, 0, none⟩ = some (.int .i64 o) := by rw [cell_of_row _ _ _ _ _ _ hov.blk]; rfl
  have c2 : w3.cell? ⟨tb, 2, none⟩ = some (.int .i64 ps.length) := by rw [cell_of_row _ _ _ _ _ _ hov.blk]; rfl
  have f1 := frozen_of_row w3 tb 1 _ _ hov.blk
  have f2 := frozen_of_row w3 tb 2 _ _ hov.blk
  have hfl := len_insP (key, v) ps
  have HFL := Lib.hid (fun k => fillT hov.store hov.rep (hov.root.imp id fun h => by omega) k)
  have HOV := Lib.hid hov
  have hwr : IntKind.i64.wrap ((ps.length : Int) + 1) = (ps.length : Int) + 1 := by rw [IntKind.wrap_i64]; omega
  have hfo := hov.full
  clear hov HCL ca HCA cad
  rcases Nat.lt_or_ge o (fill d t') with hgt | hle
  · have hcmp : decide ((o : Int) < ((fill d t' : Nat) : Int)) = true := by rw [decide_eq_true_iff]; omega
    have hcmp2 : decide (o < fill d t') = true := by rw [decide_eq_true_iff]; omega
    have hcmp3 : o < fill d t' := hgt
    have HGT := Lib.hid hgt
    have hOl := hO.lo
    have hOh := hO.hi
    have HSP := Lib.hid (fun k => splitW (w3.drewN k) M3 O3 (HOV.out.store.below (below_drewN (Below.refl _ _) k)) HOV.out.rep HOV.out.nd HOV.out.ok (by omega) (by omega))
    have HTK : Hid (∀ (k : Nat) (w4 : World) (M4 : Nodes) (O4 : Own'), St (w3.drewN k) O3 w4 M4 O4 → w4.heap[tb]? = w3.heap[tb]?) := Lib.hid fun k w4 M4 O4 h => h.keep tb (HOV.out.store.lt' (by rw [HOV.out.top]; simp)) (by rw [HOV.out.top]; exact fun h => h)
    have HBK := Lib.hid HOV.out.blk
    clear hgt hfo
    generalize hfd : fill d t' = fd at *
    have HFD := Lib.hid hfd
    clear hfd
    go_wp2_with fail
    go_quiet (first | (go_at_call 41; exact quietSame (HFL.out _)))
    go_wp2_with fail
    refine (HSP.out _).mono ?_
    rintro e w4 ⟨b, k, M4, O4, l, r, fl, fr, rfl, hspl, hS4, hrl, hrr, hch, hko⟩
    have hb4 : w4.heap[tb]? = some (.cells #[.int .i64 o, ptr a, .int .i64 ps.length] 87 (0, 0)) := (HTK.out _ _ _ _ hS4).trans HBK.out
    have d1 : w4.cell? ⟨tb, 1, none⟩ = some (ptr a) := by rw [cell_of_row _ _ _ _ _ _ hb4]; rfl
    have d2 : w4.cell? ⟨tb, 2, none⟩ = some (.int .i64 ps.length) := by rw [cell_of_row _ _ _ _ _ _ hb4]; rfl
    have HSP2 := Lib.hid (HOV.out.split hO hB3 (by rw [HFD.out]; exact HGT.out) hspl (((St.refl HOV.out.store).drewN _).trans hS4) hrl hrr hch hko)
    clear hspl hS4 hrl hrr hch hko HSP HTK
    obtain ⟨M5, O5, t5, fp5, hov5, hf5⟩ := HSP2.out
    have f4 := frozen_of_row w4 tb 1 _ _ hb4
    have f5 := frozen_of_row w4 tb 2 _ _ hb4
    have htl : tb < w4.heap.size := (Array.getElem?_eq_some_iff.1 hb4).1
    have hb5 : (((w4.alloc (.cells #[ptr a, ptr b] 82)).alloc (.cells #[.slice k.A k.row.length k.c] 35)).alloc (.cells #[.slice none 0 0, .slice (some ⟨w4.heap.size + 1, 0, none⟩) 1 1, .slice (some ⟨w4.heap.size, 0, none⟩) 2 2] 85)).heap[tb]? = some (.cells #[.int .i64 o, ptr a, .int .i64 ps.length] 87 (0, 0)) := by
      rw [Below.heap_alloc _ _ _ (by simp; omega), Below.heap_alloc _ _ _ (by simp; omega), Below.heap_alloc _ _ _ htl]
      exact hb4
    have g4 := frozen_of_row _ tb 1 _ _ hb5
    have g5 := frozen_of_row _ tb 2 _ _ hb5
    have d4 := cell_of_row _ tb 1 _ _ _ hb5
    have d5 := cell_of_row _ tb 2 _ _ _ hb5
    simp only [List.getElem?_toArray, List.getElem?_cons_succ, List.getElem?_cons_zero] at d4 d5
    cases hg : getP key ps with
    | none =>
      have HE := Lib.hid (fun k => hov5.fin_more hf5 (by rw [hfl]; simp [hg]) k)
      clear hov5 HSP2
      go_wp2_with fail
      go_ret2
      exact ⟨by simp [hg], (HE.out 0).1, hbw.trans (HE.out 0).2⟩
    | some y =>
      have HE := Lib.hid (fun k => hov5.fin_same hf5 (by rw [hfl]; simp [hg]) k)
      clear hov5 HSP2
      go_wp2_with fail
      go_ret2
      exact ⟨by simp [hg], (HE.out 0).1, hbw.trans (HE.out 0).2⟩
  · have hcmp : decide ((o : Int) < ((fill d t' : Nat) : Int)) = false := by rw [decide_eq_false_iff_not]; omega
    have hcmp2 : decide (o < fill d t') = false := by rw [decide_eq_false_iff_not]; omega
    have hcmp3 : ¬ o < fill d t' := by omega
    have HLE := Lib.hid hle
    clear hle
    cases hg : getP key ps with
    | none =>
      have HE := Lib.hid (fun k => HOV.out.fin_more HLE.out (by rw [hfl]; simp [hg]) k)
      generalize fill d t' = fd at *
      go_wp2_with fail
      go_quiet (first | (go_at_call 41; exact quietSame (HFL.out _)))
      go_wp2_with fail
      go_ret2
      exact ⟨by simp [hg], (HE.out _).1, hbw.trans (HE.out _).2⟩
    | some y =>
      have HE := Lib.hid (fun k => HOV.out.fin_same HLE.out (by rw [hfl]; simp [hg]) k)
      generalize fill d t' = fd at *
      go_wp2_with fail
      go_quiet (first | (go_at_call 41; exact quietSame (HFL.out _)))
      go_wp2_with fail
      go_ret2
      exact ⟨by simp [hg], (HE.out _).1, hbw.trans (HE.out _).2⟩
end Go.Proofs.Ytjdcnkbkbcfhfaa

namespace Go.Proofs.Ytjdcnkbkbcfhfaa
open Go.RowKit Go.Sort

theorem upd_self {β : Type} {f : Nat → β} {a : Nat} {x : β} (h : f a = x) : upd f a x = f := by
  funext k
  unfold upd
  split
  · rename_i e; rw [e]; exact h.symm
  · rfl
theorem upd_upd {β : Type} {f : Nat → β} {a : Nat} {x y : β} : upd (upd f a x) a y = upd f a y := by
  funext k
  unfold upd
  split <;> rfl

theorem Fld.form {i : Nat} {n : NC} {w : World} {v : Value} (h : Fld i n w v) : ∃ A k c, v = .slice A k c := by
  rcases i with _ | _ | i
  · obtain ⟨A, c, e, -, -⟩ := Own.form (show Own 2 Ent.cs 81 0 w v n.es from h); exact ⟨_, _, _, e⟩
  · obtain ⟨A, c, e, -, -⟩ := Own.form (show Own 1 Key.cs 35 0 w v n.ks from h); exact ⟨_, _, _, e⟩
  · obtain ⟨A, c, e, -, -⟩ := Own.form (show Own 1 Nid.cs 82 0 w v n.cs from h); exact ⟨_, _, _, e⟩

theorem NodeAt.fld_ne {w : World} {O : Own'} {a b : Nat} {n nb : NC} {V Vb : Nat → Value} (h : NodeAt w O a n V) (hb : NodeAt w O b nb Vb) {i : Nat} (hi : i < 3) : (V i).ownBlock ≠ some b := fun e => by
  have h1 := h.whose i hi b e
  rw [hb.own] at h1
  cases h1

/-- The cells of a node behind a change of one field's block. -/
theorem NodeAt.behind {w w' : World} {O : Own'} {a b : Nat} {n nb : NC} {V Vb : Nat → Value} {v' : Value} (h : NodeAt w O a n V) (hb : NodeAt w O b nb Vb) {i : Nat} (hi : i < 3) (hE : Ext w (V i) w' v') : w'.heap[b]? = some (.cells #[Vb 0, Vb 1, Vb 2] 85 (0, 0)) :=
  (hE.grown.block b (Array.getElem?_eq_some_iff.1 hb.blk).1 fun e => h.fld_ne hb hi e.symm).trans hb.blk

/-- What an append to a field leaves, its store ahead. -/
def Grown (w0 : World) (O0 : Own') (M : Nodes) (b i : Nat) (n' : NC) (v : Value) (v' : Value) (w' : World) : Prop :=
  (∃ A k c, v' = .slice A k c) ∧ w'.cell? ⟨b, i, none⟩ = some v ∧ w'.frozen? ⟨b, i, none⟩ = false ∧ Hid (∃ O', St w0 O0 (w'.setCell ⟨b, i, none⟩ v') (upd M b (some n')) O')

theorem St.grow1 {w0 W W1 w' : World} {O0 O : Own'} {M : Nodes} (h : St w0 O0 W M O) {b : Nat} {n n' : NC} {V : Nat → Value} (ha : M b = some n) (hV : NodeAt W O b n V) {i : Nat} (hi : i < 3) (hW1 : Below W.heap.size W W1) {v v' : Value} (ev : V i = v)
    (hE : Ext W1 v w' v') (hF : Fld i n' w' v') (hsame : ∀ j, j < 3 → j ≠ i → ∀ w v, Fld j n w v → Fld j n' w v)
    (hre : ∀ e ∈ n'.es, KOk (fun k => O k = .row) W e.key) (hrk : ∀ k ∈ n'.ks, KOk (fun k => O k = .row) W k) : Grown w0 O0 M b i n' v v' w' := by
  subst ev
  have h1 := h.below hW1
  have hV1 : NodeAt W1 O b n V := hV.below h.store.free hW1 fun _ _ => rfl
  have hb := hV1.behind hV1 hi hE
  have hk : ∀ k, KOk (fun k => O k = .row) W k → KOk (fun k => O k = .row) W1 k := fun k hk => hk.of fun i hi => ⟨hW1.block i (h.store.lt' (by rw [hi]; simp)), hi⟩
  obtain ⟨h2, -⟩ := h1.field_ext (n' := n') ha hV1 hi hE hF hsame (fun e he => hk _ (hre e he)) (fun k hk' => hk _ (hrk k hk'))
  refine ⟨hF.form, ?_, frozen_of_row _ _ _ _ _ hb, Lib.hid ⟨_, h2⟩⟩
  rw [cell_of_row _ _ _ _ _ _ hb]
  rcases i with _ | _ | _ | i
  · rfl
  · rfl
  · rfl
  · omega

/-- A store into a node, on both sides. -/
theorem Ext.set_both {w w' : World} {v v' : Value} (h : Ext w v w' v') {b i : Nat} {cur : Array Value} {e : TypeId} (hb : w.heap[b]? = some (.cells cur e (0, 0))) (hne : v.ownBlock ≠ some b) (u : Value) : Ext (w.setCell ⟨b, i, none⟩ u) v (w'.setCell ⟨b, i, none⟩ u) v' := by
  have hb' : w'.heap[b]? = some (.cells cur e (0, 0)) := (h.grown.block b (Array.getElem?_eq_some_iff.1 hb).1 fun e => hne e.symm).trans hb
  refine ⟨⟨h.grown.os, h.grown.tape, h.grown.output, by rw [setCell_size, setCell_size]; exact h.grown.size, fun k hk hn => ?_⟩, ?_⟩
  · rw [setCell_size] at hk
    by_cases hkb : k = b
    · subst hkb
      rw [heap_setCell_at hb', heap_setCell_at hb]
    · rw [heap_setCell_off hkb, heap_setCell_off hkb]
      exact h.grown.block k hk hn
  · rcases h.block with e | ⟨g, e, hg⟩
    · exact .inl e
    · exact .inr ⟨g, e, by rw [setCell_size]; exact hg⟩

/-- Children and keys grow, then both are stored. -/
theorem St.grow2 {w0 W w1 w2 : World} {O0 O : Own'} {M : Nodes} (h : St w0 O0 W M O) {b : Nat} {es : List Ent} {ks ks' : List Key} {cs cs' : List Nat} {V : Nat → Value} (ha : M b = some ⟨es, ks, cs⟩) (hV : NodeAt W O b ⟨es, ks, cs⟩ V) {v1 v2 u1 u2 : Value} (e1 : V 1 = u1) (e2 : V 2 = u2)
    (hE2 : Ext W u2 w1 v2) (hF2 : Own 1 Nid.cs 82 0 w1 v2 cs') (hE1 : Ext w1 u1 w2 v1) (hF1 : Own 1 Key.cs 35 0 w2 v1 ks') (hrk : ∀ k ∈ ks', KOk (fun k => O k = .row) W k) :
    w2.cell? ⟨b, 1, none⟩ = some u1 ∧ w2.cell? ⟨b, 2, none⟩ = some u2 ∧ w2.frozen? ⟨b, 1, none⟩ = false ∧ w2.frozen? ⟨b, 2, none⟩ = false
      ∧ Hid (∃ O', St w0 O0 ((w2.setCell ⟨b, 2, none⟩ v2).setCell ⟨b, 1, none⟩ v1) (upd M b (some ⟨es, ks', cs'⟩)) O') := by
  subst e1 e2
  have hb1 := hV.behind hV (i := 2) (by omega) hE2
  have hn1 : (V 1).ownBlock ≠ some b := hV.fld_ne hV (by omega)
  have hbl := (Array.getElem?_eq_some_iff.1 hb1).1
  have hb2 : w2.heap[b]? = _ := (hE1.grown.block b hbl fun e => hn1 e.symm).trans hb1
  obtain ⟨s1, n1⟩ := h.field_ext (n' := ⟨es, ks, cs'⟩) ha hV (i := 2) (by omega) hE2 hF2 same2 hV.rowe hV.rowk
  have r1 := ((St.refl h.store).field_ext (n' := ⟨es, ks, cs'⟩) ha hV (i := 2) (by omega) hE2 hF2 same2 hV.rowe hV.rowk).1
  have hE1' : Ext (w1.setCell ⟨b, 2, none⟩ v2) (V 1) (w2.setCell ⟨b, 2, none⟩ v2) v1 := hE1.set_both hb1 hn1 v2
  have hv1b : ∀ g, v1.ownBlock = some g → g ≠ b := fun g hg e => by
    rcases hE1.block with e' | ⟨g', e', hg'⟩
    · exact hn1 (by rw [← e', hg, e])
    · rw [e'] at hg
      injection hg with hg
      omega
  have hF1' : Own 1 Key.cs 35 0 (w2.setCell ⟨b, 2, none⟩ v2) v1 ks' := hF1.setCell (p := ⟨b, 2, none⟩) hv1b v2
  obtain ⟨s2, n2⟩ := s1.field_ext (n' := ⟨es, ks', cs'⟩) (upd_same _ _ _) n1 (i := 1) (by omega) hE1' hF1' same1 n1.rowe (fun k hk => r1.kok h.store (hrk k hk))
  rw [upd_upd] at s2
  refine ⟨?_, ?_, frozen_of_row _ _ _ _ _ hb2, frozen_of_row _ _ _ _ _ hb2, Lib.hid ⟨_, s2⟩⟩
  · rw [cell_of_row _ _ _ _ _ _ hb2]; rfl
  · rw [cell_of_row _ _ _ _ _ _ hb2]; rfl

theorem NodeAt.disj {w : World} {O : Own'} {a b : Nat} {n nb : NC} {V Vb : Nat → Value} (h : NodeAt w O a n V) (hb : NodeAt w O b nb Vb) {i j : Nat} (hi : i < 3) (hj : j < 3) (hne : i ≠ j) : (V i).ownBlock = none ∨ (V i).ownBlock ≠ (Vb j).ownBlock := by
  cases hv : (V i).ownBlock with
  | none => exact .inl rfl
  | some g =>
    refine .inr fun e => ?_
    have h1 := h.whose i hi g hv
    have h2 := hb.whose j hj g e.symm
    rw [h1] at h2
    injection h2 with h2
    exact hne h2

/-- Two appends of one statement. -/
theorem St.app2 {w0 W : World} {O0 O : Own'} {M : Nodes} (h : St w0 O0 W M O) {b c : Nat} {eb ec : List Ent} {kb kc : List Key} {cb cc : List Nat} {V Vc : Nat → Value} (ha : M b = some ⟨eb, kb, cb⟩) (hV : NodeAt W O b ⟨eb, kb, cb⟩ V) (hVc : NodeAt W O c ⟨ec, kc, cc⟩ Vc)
    {A1 A2 B1 B2 : Option Addr} {c1 c2 d1 d2 : Nat} (e1 : V 1 = .slice A1 kb.length c1) (e2 : V 2 = .slice A2 cb.length c2) (s1 : Vc 1 = .slice B1 kc.length d1) (s2 : Vc 2 = .slice B2 cc.length d2) (hlk : kb.length + kc.length ≤ 1000) (hlc : cb.length + cc.length ≤ 1000) (ty : TypeId) :
    ∃ v2 w4, (Builtin.append_ #[83, 83] ty #[.slice A2 cb.length c2, .slice B2 cc.length d2]).run Try.prog W.drew = .ok v2 w4
            ∧ (∃ A k c, v2 = .slice A k c) ∧ w4.cell? ⟨b, 1, none⟩ = some (.slice A1 kb.length c1) ∧ w4.cell? ⟨c, 1, none⟩ = some (.slice B1 kc.length d1)
            ∧ Hid (∀ ty, ∃ v1 w5, (Builtin.append_ #[31, 31] ty #[.slice A1 kb.length c1, .slice B1 kc.length d1]).run Try.prog w4 = .ok v1 w5
              ∧ (∃ A k c, v1 = .slice A k c) ∧ w5.cell? ⟨b, 1, none⟩ = some (.slice A1 kb.length c1) ∧ w5.cell? ⟨b, 2, none⟩ = some (.slice A2 cb.length c2) ∧ w5.frozen? ⟨b, 1, none⟩ = false ∧ w5.frozen? ⟨b, 2, none⟩ = false
              ∧ Hid (∃ O', St w0 O0 ((w5.setCell ⟨b, 2, none⟩ v2).setCell ⟨b, 1, none⟩ v1) (upd M b (some ⟨eb, kb ++ kc, cb ++ cc⟩)) O')) := by
  have hd : Below W.heap.size W W.drew := (Below.refl _ _).drew
  have hVd : NodeAt W.drew O b ⟨eb, kb, cb⟩ V := hV.below h.store.free hd fun _ _ => rfl
  have hVcd : NodeAt W.drew O c ⟨ec, kc, cc⟩ Vc := hVc.below h.store.free hd fun _ _ => rfl
  have o1 : Own 1 Key.cs 35 0 W.drew (.slice A1 kb.length c1) kb := by have := hVd.fld 1 (by omega); rw [e1] at this; exact this
  have o2 : Own 1 Nid.cs 82 0 W.drew (.slice A2 cb.length c2) cb := by have := hVd.fld 2 (by omega); rw [e2] at this; exact this
  have q1 : Own 1 Key.cs 35 0 W.drew (.slice B1 kc.length d1) kc := by have := hVcd.fld 1 (by omega); rw [s1] at this; exact this
  have q2 : Own 1 Nid.cs 82 0 W.drew (.slice B2 cc.length d2) cc := by have := hVcd.fld 2 (by omega); rw [s2] at this; exact this
  obtain ⟨v2, w4, hr, ho, hx⟩ := run_pushs (P := Try.prog) elem_nids nidLay ty W.drew (.slice A2 cb.length c2) cb (c := d2) o2 (q2.elems nidLay.len rfl) rfl (by omega) (by unfold maxLen; omega) (Nat.zero_le _)
  have hb4 := hVd.behind hVd (i := 2) (by omega) (by rw [e2]; exact hx)
  have hc4 := hVd.behind hVcd (i := 2) (by omega) (by rw [e2]; exact hx)
  have o1' := o1.kept hx.grown (by have := hVd.disj hVd (i := 1) (j := 2) (by omega) (by omega) (by omega); rw [e1, e2] at this; exact this)
  have q1' := q1.kept hx.grown (by have := hVcd.disj hVd (i := 1) (j := 2) (by omega) (by omega) (by omega); rw [s1, e2] at this; exact this)
  refine ⟨v2, w4, hr, Fld.form (i := 2) (n := ⟨[], [], cb ++ cc⟩) ho, ?_, ?_, Lib.hid fun ty' => ?_⟩
  · rw [cell_of_row _ _ _ _ _ _ hb4, e1]; rfl
  · rw [cell_of_row _ _ _ _ _ _ hc4, s1]; rfl
  · obtain ⟨v1, w5, hr5, ho5, hx5⟩ := run_pushs (P := Try.prog) elem_keys keyLay ty' w4 (.slice A1 kb.length c1) kb (c := d1) o1' (q1'.elems keyLay.len rfl) rfl (by omega) (by unfold maxLen; omega) (Nat.zero_le _)
    exact ⟨v1, w5, hr5, Fld.form (i := 1) (n := ⟨[], kb ++ kc, []⟩) ho5, (h.below hd).grow2 ha hVd e1 e2 hx ho hx5 ho5 fun k hk => by
      rcases List.mem_append.1 hk with h | h
      · exact hVd.rowk k h
      · exact hVcd.rowk k h⟩
end Go.Proofs.Ytjdcnkbkbcfhfaa

namespace Go.Proofs.Ytjdcnkbkbcfhfaa
open Go.RowKit Go.Sort

set_option maxRecDepth 100000 in
set_option maxHeartbeats 4000000 in
theorem minKeyW {m o : Nat} (hO : Order m o) {w : World} {M : Nodes} {O : Own'} (hs : Store w M O) {d a : Nat} {t : T d} {fp : List Nat} {z : Ent} (hr : Rep M d a t fp) (hok : Ok m o d t) (hne : d = 0 ∨ 1 ≤ fill d t) (hz : (flat d t).head? = some z) :
    Calls Try.prog 98 #[ptr a] w fun e w' => e = .returned (.slice z.key.A z.key.row.length z.key.c) ∧ w = w' := by
  have hm1 : 1 ≤ m := by have := hO.lo; have := hO.eq; omega
  have HS := Lib.hid hs
  have HR := Lib.hid hr
  have HOK := Lib.hid hok
  have HNE := Lib.hid hne
  have HZ := Lib.hid hz
  clear hs hr hok hne hz
  go_enter Try.func98, Try.ntmps98
  go_wp2_with fail
  go_loopg [0] d (fun k v wr => ∃ (b : Nat) (t' : T k) (fp' : List Nat), v = ptr b ∧ Rep M k b t' fp' ∧ Ok m o k t' ∧ (k = 0 ∨ 1 ≤ fill k t') ∧ (flat k t').head? = some z ∧ w = wr)
  case atStart => exact ⟨a, t, fp, rfl, HR.out, HOK.out, HNE.out, HZ.out, rfl⟩
  case round =>
    obtain ⟨b, t', fp', rfl, hrep, hok, hne, hz, rfl⟩ := hrel
    have HLF : Hid (Calls Try.prog 37 #[ptr b] w fun e w' => e = .returned (.bool (gk == 0)) ∧ w = w') := Lib.hid (leafT HS.out hrep hne 0)
    cases gk with
    | zero =>
      obtain ⟨es, hes, hm, -⟩ := hrep
      have hz : es.head? = some z := by rw [hes]; exact hz
      obtain ⟨V, hV⟩ := HS.out.at_ b _ hm
      obtain ⟨A0, c0, A1, c1, A2, c2, e0, e1, e2, h0, h1, h2, hfr, o0, o1, o2⟩ := hV.cells
      simp only at h0 o0
      have hpos : 0 < es.length := by
        cases es with
        | nil => simp at hz
        | cons x r => simp
      obtain ⟨g, off, rfl, -, hc0, -⟩ := (o0.elems entLay.len rfl).ent hpos
      have hez : es[0] = z := by
        rw [List.head?_eq_getElem?, List.getElem?_eq_getElem hpos] at hz
        exact Option.some.inj hz
      rw [hez] at hc0
      simp only [Nat.zero_mul, Nat.add_zero] at hc0
      have hi1 : (0 : Int) < (es.length : Int) := by omega
      have hz0 : (0 == 0) = true := rfl
      rw [hz0] at HLF
      clear hm hV e0 e1 e2 h1 h2 hfr o0 o1 o2 hez hz hes hok hne
      generalize es.length = n at *
      go_wp2_with fail
      refine HLF.out.mono ?_
      rintro e w' ⟨rfl, rfl⟩
      clear HLF
      go_wp2_with fail
      go_ret
      exact ⟨rfl, rfl⟩
    | succ k =>
      obtain ⟨cs, fps, hm, hz3, hfp⟩ := hrep
      have hzl := hz3.len
      have hd1 : 1 ≤ t'.2.length := by
        rcases hne with h | h
        · cases h
        · exact h
      obtain ⟨V, hV⟩ := HS.out.at_ b _ hm
      obtain ⟨b0, hb0⟩ : ∃ b, cs[0]? = some b := ⟨_, List.getElem?_eq_getElem (by omega)⟩
      obtain ⟨g, c2, e2, q2, qi, -, -, -⟩ := hV.child hb0
      simp only at q2
      obtain ⟨c', hc⟩ : ∃ c, t'.2[0]? = some c := ⟨_, List.getElem?_eq_getElem (by omega)⟩
      obtain ⟨a', f, p1, p2, p3⟩ := hz3.at_ hc
      rw [hb0] at p1
      injection p1 with p1
      subst p1
      have hcok := hok.2 c' (List.mem_of_getElem? hc)
      have hcne : k = 0 ∨ 1 ≤ fill k c' := .inr (by omega)
      have hcz : (flat k c').head? = some z := by
        have hfn := flat_ne hcok.1 hm1 (by omega)
        have h1 : flat (k + 1) t' = flat k c' ++ (t'.2.drop 1).flatMap (flat k) := by
          rw [show flat (k + 1) t' = flat (k + 1) (t'.1, t'.2) from rfl, flat_at hc]
          simp
        rw [h1, List.head?_append] at hz
        cases hh : (flat k c').head? with
        | none => exact absurd (List.head?_eq_none_iff.1 hh) hfn
        | some y =>
          rw [hh] at hz
          simpa using hz
      have H1 := Lib.hid p3
      have H2 := Lib.hid hcok.1
      have H3 := Lib.hid hcne
      have H4 := Lib.hid hcz
      have hi1 : (0 : Int) < (cs.length : Int) := by omega
      have hz0 : (k + 1 == 0) = false := rfl
      rw [hz0] at HLF
      clear hm hz3 hV hb0 e2 hc p2 p3 hcok hcne hcz hok hne hz hzl hfp hd1
      generalize cs.length = n at *
      go_wp2_with fail
      refine HLF.out.mono ?_
      rintro e w' ⟨rfl, rfl⟩
      clear HLF
      go_wp2_with fail
      go_roundg k
      case measure => omega
      case rel => exact ⟨b0, c', f, rfl, H1.out, H2.out, H3.out, H4.out, rfl⟩

set_option maxRecDepth 100000 in
theorem minFillW {m o tb : Nat} (hO : Order m o) (w : World) (ht : w.cell? ⟨tb, 0, none⟩ = some (.int .i64 o)) :
    Calls Try.prog 86 #[ptr tb] w fun e w' => e = .returned (.int .i64 m) ∧ w = w' := by
  have h1 : ((o : Int) + 1) / 2 = (m : Int) := by have := hO.eq; omega
  have hb : (o : Int) ≤ 16 := by have := hO.hi; omega
  clear hO
  go_enter Try.func86, Try.ntmps86
  go_wp2_with fail
  go_ret
  exact ⟨ret_int h1, rfl⟩
end Go.Proofs.Ytjdcnkbkbcfhfaa
