/-
  The walk of secondary.Clone.
-/
import Derived.Test.YtakbabkcidioaaaYd1
import Derived.Deep.RegionHeld3
import Derived.Deep.RegionLaw
namespace Go.Proofs.Ytakbabkcidioaaa
open Go.RowKit Go.Sort

/-- What a copy is like. -/
structure Like (x x' : Ix) : Prop where
  xcap : x'.cols.length ≤ x'.xc
  xd : x'.xd = x.xd
  cols : x'.cols = x.cols
  tc : x'.t.cols = x.t.cols
  pk : x'.t.pk = x.t.pk
def ClPost (w : World) (x : Ix) (e : Ending) (w' : World) : Prop := ∃ x' R, e = .returned x'.val ∧ IxOwn w.heap.size w' x' R ∧ (∀ g, R g → w.heap.size ≤ g) ∧ Like x x' ∧ Below w.heap.size w w'
/-- Bounds on an index. -/
structure ISz (x : Ix) : Prop where
  ents : x.ents.length ≤ 100
  keys : ∀ e ∈ x.ents, e.keys.length ≤ 100
  cols : x.cols.length ≤ 1000
  tc : x.t.cols.length ≤ 1000
  pk : x.t.pk.length ≤ 1000

/-- The cells of the argument's box that the first region reads. -/
structure BX (g : Nat) (name : ByteArray) (CA : Option Addr) (cc : Nat) (tc : List Col) (PA : Option Addr) (pc : Nat) (pk : List Int) (XA : Option Addr) (xc : Nat) (cols : List Int) (w : World) : Prop where
  c0 : w.cell? ⟨g, 0, none⟩ = some (.string name)
  c1 : w.cell? ⟨g, 1, none⟩ = some (.slice CA tc.length cc)
  c2 : w.cell? ⟨g, 2, none⟩ = some (.slice PA pk.length pc)
  c3 : w.cell? ⟨g, 3, none⟩ = some (.slice XA cols.length xc)

/-- Behind the first region. -/
def C1Post (W0 : World) (name : ByteArray) (CA : Option Addr) (cc : Nat) (tc : List Col) (PA : Option Addr) (pc : Nat) (pk : List Int) (cols : List Int) (v : Value) (wx : World) : Prop :=
  ∃ g3 A' c', v = .pointer (some ⟨g3, 0, none⟩) ∧ W0.heap.size ≤ g3 ∧ wx.heap[g3]? = some (.cells #[.string name, .slice CA tc.length cc, .slice PA pk.length pc, .slice A' cols.length c', .slice none 0 0] 30 (0, 0)) ∧ Own 1 intCs 3 W0.heap.size wx (.slice A' cols.length c') cols ∧ (∀ g, (Value.slice A' cols.length c').ownBlock = some g → g ≠ g3) ∧ Below W0.heap.size W0 wx
/-- Behind the second. -/
def C2Post (W0 : World) (g3 : Nat) (name : ByteArray) (tc : List Col) (pk : List Int) (cols : List Int) (wx : World) : Prop :=
  ∃ CA cc PA pc XA xc R, CS g3 wx ⟨⟨name, CA, cc, tc, PA, pc, pk⟩, XA, xc, cols, none, 0, []⟩ R ∧ (∀ g, R g → W0.heap.size ≤ g) ∧ cols.length ≤ xc ∧ Below W0.heap.size W0 wx

/-- The first k entries are copied. -/
structure CpK (W0 : World) (g3 : Nat) (name : ByteArray) (tc : List Col) (pk cols : List Int) (ents : List EntM) (k : Nat) (wr : World) (x' : Ix) (R : Nat → Prop) : Prop where
  cs : CS g3 wr x' R
  name : x'.t.name = name
  tc : x'.t.cols = tc
  pk : x'.t.pk = pk
  cols : x'.cols = cols
  xd : x'.xd = (ents.take k).map EntM.xe
  lo : ∀ g, R g → W0.heap.size ≤ g
  xcap : x'.cols.length ≤ x'.xc
  below : Below W0.heap.size W0 wr
/-- The first j keys of an entry are copied. -/
structure CkJ (wo : World) (b6 : Nat) (e0 : EntM) (j : Nat) (wi : World) (e' : EntM) : Prop where
  ck : CK wo.heap.size b6 wi e'
  vals : e'.vals.row = e0.vals.row
  keys : e'.keys.map Key.row = (e0.keys.take j).map Key.row
  below : Below wo.heap.size wo wi
theorem ret_clone {x : Ix} {g : Nat} {w : World} (tmps : Array Value) (hp : tmps.getD 2 undef = .pointer (some ⟨g, 0, none⟩)) (hg : w.heap[g]? = some (.cells x.cells 30 (0, 0))) :
    (results Try.f25 tmps).run Try.prog w = .ok x.val w :=
  results_cell_row (P := Try.prog) Try.results25 tmps w g 30 _ (0, 0) _ hp hg Try.underlying30 rfl (by kernel_rfl)

set_option maxRecDepth 100000 in
set_option maxHeartbeats 4000000 in
theorem cloneIx (x : Ix) (w : World) (hx : IOk (· < w.heap.size) w x) (hs : ISz x) :
    Calls Try.prog 25 #[x.val] w (ClPost w x) := by
  have HX := Lib.hid hx
  have HS := Lib.hid hs
  obtain ⟨W0, hW0⟩ : ∃ W0, W0 = (w.alloc (.cells x.cells 30)).alloc (.cells #[.string ⟨#[]⟩, .slice none 0 0, .slice none 0 0, .slice none 0 0, .slice none 0 0] 30) := ⟨_, rfl⟩
  have hbW : Below w.heap.size w W0 := by rw [hW0]; exact ((Below.refl _ _).alloc (Nat.le_refl _) _).alloc (le_size1 (Nat.le_refl _) _) _
  have hg0 : W0.heap[w.heap.size]? = some (.cells x.cells 30 (0, 0)) := by rw [hW0, Below.heap_alloc _ _ _ (by simp)]; exact heap_alloc_new w _
  have hg1 : W0.heap[w.heap.size + 1]? = some (.cells #[.string ⟨#[]⟩, .slice none 0 0, .slice none 0 0, .slice none 0 0, .slice none 0 0] 30 (0, 0)) := by rw [hW0]; exact alloc2_at w _ _
  have hsz : w.heap.size + 2 = W0.heap.size := by rw [hW0]; simp
  have hx0 := hx.on hbW
  obtain ⟨z, hz⟩ : ∃ z : Obj, z = .cells #[.string ⟨#[]⟩, .slice none 0 0, .slice none 0 0, .slice none 0 0, .slice none 0 0] 30 := ⟨_, rfl⟩
  have HCL : Hid (∀ W, Below W0.heap.size W0 W → Calls Try.prog 44 #[.slice x.XA x.cols.length x.xc] W fun e w1 => ∃ A' c', e = .returned (.slice A' x.cols.length c') ∧ Own 1 intCs 3 W.heap.size w1 (.slice A' x.cols.length c') x.cols ∧ Below W.heap.size W w1) := Lib.hid fun W hW => by
    refine (cloneInts x.XA x.cols.length x.xc x.cols W _ (hx0.on hW).cols (fun _ h => h) rfl (by have := hs.cols; omega)).mono ?_
    rintro e w1 ⟨v, rfl, ho, hb⟩
    obtain ⟨A', c', rfl, -, -⟩ := ho.form
    exact ⟨A', c', rfl, ho, hb⟩
  have hcell : ∀ W, Below W0.heap.size W0 W → W.cell? ⟨w.heap.size, 0, none⟩ = some (.string x.t.name) ∧ W.cell? ⟨w.heap.size, 1, none⟩ = some (.slice x.t.CA x.t.cols.length x.t.cc) ∧ W.cell? ⟨w.heap.size, 2, none⟩ = some (.slice x.t.PA x.t.pk.length x.t.pc) ∧ W.cell? ⟨w.heap.size, 3, none⟩ = some (.slice x.XA x.cols.length x.xc) ∧ W.cell? ⟨w.heap.size, 4, none⟩ = some (.slice x.EA x.ents.length x.ec) := fun W hW => Ix.box (w' := W) hg0 (hW.block _ (by omega))
  have HW := Lib.hid hW0
  have HZ := Lib.hid hz
  have HG := Lib.hid (And.intro hbW (And.intro hg0 (And.intro hg1 hsz)))
  have HX0 := Lib.hid hx0
  have HCELL := Lib.hid hcell
  have bD : Below W0.heap.size W0 W0.drew := (Below.refl _ _).drew
  have bA : ∀ o, Below W0.heap.size W0 (W0.alloc o) := fun o => (Below.refl _ _).alloc (Nat.le_refl _) o
  have bAD : ∀ o, Below W0.heap.size W0 (W0.alloc o).drew := fun o => (bA o).trans ((Below.refl _ _).drew.mono (bA o).size)
  have HBB := Lib.hid (And.intro bD (And.intro bA bAD))
  clear hx hs hbW hg0 hg1 hsz hx0 hW0 hcell bD bA bAD
  obtain ⟨⟨name, CA, cc, tc, PA, pc, pk⟩, XA, xc, cols, EA, ec, ents⟩ := x
  unfold Ix.val Ix.cells
  simp only [Ix.cells] at HCL HCELL HW HG ⊢
  go_enter Try.func25, Try.ntmps25
  go_upto_region 1 with fail
  rw [← HW.out]
  go_cut [3] from 9 to 14 (C1Post W0 name CA cc tc PA pc pk cols)
  case first =>
    have HBX : Hid (∀ W, Below W0.heap.size W0 W → BX w.heap.size name CA cc tc PA pc pk XA xc cols W) := Lib.hid fun W hW => by
      obtain ⟨h0, h1, h2, h3, -⟩ := HCELL.out W hW
      exact ⟨h0, h1, h2, h3⟩
    have HC1 : Hid (Calls Try.prog 44 #[.slice XA cols.length xc] W0.drew fun e w1 => ∃ A' c', e = .returned (.slice A' cols.length c') ∧ BX w.heap.size name CA cc tc PA pc pk XA xc cols w1 ∧ (∀ o, BX w.heap.size name CA cc tc PA pc pk XA xc cols (w1.alloc o)) ∧ Hid (C1Post W0 name CA cc tc PA pc pk cols (.pointer (some ⟨w1.heap.size, 0, none⟩)) (w1.alloc (.cells #[.string name, .slice CA tc.length cc, .slice PA pk.length pc, .slice A' cols.length c', .slice none 0 0] 30)))) := Lib.hid (by
      refine (HCL.out _ HBB.out.1).mono ?_
      rintro e w1 ⟨A', c', rfl, ho, hb⟩
      have hb' := HBB.out.1.trans hb
      exact ⟨A', c', rfl, HBX.out _ hb', fun o => HBX.out _ (hb'.alloc hb'.size o), Lib.hid ⟨_, A', c', rfl, hb'.size, heap_alloc_new w1 _, ho.alloc _, fun g hg => by have := (Own.lt ho g hg).2; omega, hb'.alloc hb'.size _⟩⟩)
    have HC2 : Hid (Calls Try.prog 44 #[.slice XA cols.length xc] (W0.alloc (.cells #[.string ⟨#[]⟩, .slice none 0 0, .slice none 0 0, .slice none 0 0, .slice none 0 0] 30)).drew fun e w1 => ∃ A' c', e = .returned (.slice A' cols.length c') ∧ BX w.heap.size name CA cc tc PA pc pk XA xc cols w1 ∧ w1.heap[W0.heap.size]? = some (.cells #[.string ⟨#[]⟩, .slice none 0 0, .slice none 0 0, .slice none 0 0, .slice none 0 0] 30 (0, 0)) ∧ Hid (C1Post W0 name CA cc tc PA pc pk cols (.pointer (some ⟨W0.heap.size, 0, none⟩)) (((((w1.setCell ⟨W0.heap.size, 0, none⟩ (.string name)).setCell ⟨W0.heap.size, 1, none⟩ (.slice CA tc.length cc)).setCell ⟨W0.heap.size, 2, none⟩ (.slice PA pk.length pc)).setCell ⟨W0.heap.size, 3, none⟩ (.slice A' cols.length c')).setCell ⟨W0.heap.size, 4, none⟩ (.slice none 0 0)))) := Lib.hid (by
      obtain ⟨o, ho'⟩ : ∃ o : Obj, o = .cells #[.string ⟨#[]⟩, .slice none 0 0, .slice none 0 0, .slice none 0 0, .slice none 0 0] 30 := ⟨_, rfl⟩
      rw [← ho']
      refine (HCL.out _ (HBB.out.2.2 o)).mono ?_
      rintro e w1 ⟨A', c', rfl, ho, hb⟩
      have hb' : Below W0.heap.size W0 w1 := (HBB.out.2.2 o).trans (hb.mono (HBB.out.2.2 o).size)
      have hs1 : (W0.alloc o).drew.heap.size = W0.heap.size + 1 := size1 W0 o
      rw [hs1] at ho
      have hbk : w1.heap[W0.heap.size]? = some (.cells #[.string ⟨#[]⟩, .slice none 0 0, .slice none 0 0, .slice none 0 0, .slice none 0 0] 30 (0, 0)) := (hb.block _ (by omega)).trans ((heap_alloc_new W0 o).trans (by rw [ho']))
      have hne : ∀ g, (Value.slice A' cols.length c').ownBlock = some g → g ≠ W0.heap.size := fun g hg => by have := (Own.lt ho g hg).1; omega
      refine ⟨A', c', rfl, HBX.out _ hb', hbk.trans (by rw [ho']), Lib.hid ⟨_, A', c', rfl, Nat.le_refl _, ?_, ((((((ho.mono (Nat.le_succ _)).setCell hne _).setCell hne _).setCell hne _).setCell hne _).setCell hne _), hne, (((((hb'.setCell (Nat.le_refl _) _).setCell (Nat.le_refl _) _).setCell (Nat.le_refl _) _).setCell (Nat.le_refl _) _).setCell (Nat.le_refl _) _)⟩⟩
      rw [heap_setCell_at (heap_setCell_at (heap_setCell_at (heap_setCell_at (heap_setCell_at hbk _) _) _) _)]
      rfl)
    obtain ⟨c0, c1, c2, c3⟩ := HBX.out W0 (Below.refl _ _)
    have hq : ∀ o, BX w.heap.size name CA cc tc PA pc pk XA xc cols (W0.alloc o) := fun o => HBX.out _ (HBB.out.2.1 o)
    have a0 := fun o => (hq o).c0
    have a1 := fun o => (hq o).c1
    have a2 := fun o => (hq o).c2
    have a3 := fun o => (hq o).c3
    clear hq
    go_region_law (first
      | (go_simp; go_at_call 44; refine HC1.out.mono ?_; rintro e w1 ⟨A', c', rfl, ⟨k0, k1, k2, k3⟩, hk, HIN⟩; have m0 := fun o => (hk o).c0; have m1 := fun o => (hk o).c1; have m2 := fun o => (hk o).c2; have m3 := fun o => (hk o).c3; clear hk)
      | (go_simp; go_at_call 44; refine HC2.out.mono ?_; rintro e w1 ⟨A', c', rfl, ⟨k0, k1, k2, k3⟩, hblk, HIN⟩; have n0 := cell_of_row _ _ 0 _ _ _ hblk; have n1 := cell_of_row _ _ 1 _ _ _ hblk; have n2 := cell_of_row _ _ 2 _ _ _ hblk; have n3 := cell_of_row _ _ 3 _ _ _ hblk; have n4 := cell_of_row _ _ 4 _ _ _ hblk; have f0 := frozen_of_row _ _ 0 _ _ hblk; have f1 := frozen_of_row _ _ 1 _ _ hblk; have f2 := frozen_of_row _ _ 2 _ _ hblk; have f3 := frozen_of_row _ _ 3 _ _ hblk; have f4 := frozen_of_row _ _ 4 _ _ hblk))
    all_goals (go_wp2_with fail; go_meet; exact HIN.out)
  case rest =>
    obtain ⟨g3, A', c', rfl, hg3, hbk, ho3, hne3, hb3⟩ := hcut
    obtain ⟨q0, q1, q2, q3, q4⟩ := HCELL.out wc hb3
    have hxcap : cols.length ≤ c' := by
      obtain ⟨A6, c6, hv, h1, -⟩ := ho3.form
      injection hv with _ _ h3
      rw [h3]
      exact h1
    have hg3l : g3 < wc.heap.size := (Array.getElem?_eq_some_iff.1 hbk).1
    have h03 : ¬ w.heap.size = g3 := by have := HG.out.2.2.2; omega
    have HD1 : Hid (Calls Try.prog 45 #[.slice CA tc.length cc] wc.drew fun e w2 => ∃ A1 c1, e = .returned (.slice A1 tc.length c1) ∧ w2.cell? ⟨w.heap.size, 2, none⟩ = some (.slice PA pk.length pc)
        ∧ Hid (Calls Try.prog 44 #[.slice PA pk.length pc] w2 fun e w3 => ∃ A2 c2, e = .returned (.slice A2 pk.length c2) ∧ (∃ x, w3.cell? ⟨g3, 1, none⟩ = some x) ∧ (∃ x, w3.cell? ⟨g3, 2, none⟩ = some x) ∧ w3.frozen? ⟨g3, 1, none⟩ = false ∧ w3.frozen? ⟨g3, 2, none⟩ = false ∧ w3.cell? ⟨w.heap.size, 2, none⟩ = some (.slice PA pk.length pc)
          ∧ Hid (C2Post W0 g3 name tc pk cols ((w3.setCell ⟨g3, 1, none⟩ (.slice A1 tc.length c1)).setCell ⟨g3, 2, none⟩ (.slice A2 pk.length c2))))) := Lib.hid (by
      have hbd : Below wc.heap.size wc wc.drew := (Below.refl _ _).drew
      have hxc := (HX0.out.on hb3).t
      refine (cloneCols CA tc.length cc tc wc.drew _ (hxc.on hbd).cols (fun _ h => h) rfl (by have := HS.out.tc; simp only at this; omega)).mono ?_
      rintro e w2 ⟨v, rfl, ho1, hb1⟩
      obtain ⟨A1, c1, rfl, -, -⟩ := ho1.form
      have hb2 : Below wc.heap.size wc w2 := hbd.trans hb1
      refine ⟨A1, c1, rfl, (HCELL.out w2 (hb3.trans (hb2.mono hb3.size))).2.2.1, Lib.hid ?_⟩
      refine (cloneInts PA pk.length pc pk w2 _ (hxc.on hb2).pk (fun _ h => h) rfl (by have := HS.out.pk; simp only at this; omega)).mono ?_
      rintro e w3 ⟨v, rfl, ho2, hb4⟩
      obtain ⟨A2, c2, rfl, -, -⟩ := ho2.form
      have hb5 : Below wc.heap.size wc w3 := hb2.trans (hb4.mono hb2.size)
      have hbk3 := (hb5.block g3 hg3l).trans hbk
      have hb6 : Below W0.heap.size W0 w3 := hb3.trans (hb5.mono hb3.size)
      refine ⟨A2, c2, rfl, ⟨_, by rw [cell_of_row _ _ _ _ _ _ hbk3]; rfl⟩, ⟨_, by rw [cell_of_row _ _ _ _ _ _ hbk3]; rfl⟩, frozen_of_row _ _ _ _ _ hbk3, frozen_of_row _ _ _ _ _ hbk3, (HCELL.out w3 hb6).2.2.1, Lib.hid ?_⟩
      have hk : ∀ k, k ≠ g3 → ((w3.setCell ⟨g3, 1, none⟩ (.slice A1 tc.length c1)).setCell ⟨g3, 2, none⟩ (.slice A2 pk.length c2)).heap[k]? = w3.heap[k]? := fun k hk => (heap_setCell_off (p := ⟨g3, 2, none⟩) hk _).trans (heap_setCell_off (p := ⟨g3, 1, none⟩) hk _)
      have hsz : ((w3.setCell ⟨g3, 1, none⟩ (.slice A1 tc.length c1)).setCell ⟨g3, 2, none⟩ (.slice A2 pk.length c2)).heap.size = w3.heap.size := by rw [setCell_size, setCell_size]
      have e1 : Elems 3 Col.cs w3 (fun g => W0.heap.size ≤ g ∧ g < w3.heap.size ∧ g ≠ g3) A1 tc := ((ho1.below hb4).elems colLay.len rfl).more fun g hg => by
        have h1 := Own.lt ho1 g hg
        have h2 : wc.drew.heap.size = wc.heap.size := rfl
        have := hb4.size
        have := hb3.size
        exact ⟨by omega, by omega, by omega⟩
      have e2 : Elems 1 intCs w3 (fun g => W0.heap.size ≤ g ∧ g < w3.heap.size ∧ g ≠ g3) A2 pk := (ho2.elems intLay.len rfl).more fun g hg => by
        have h1 := Own.lt ho2 g hg
        have := hb2.size
        have := hb3.size
        exact ⟨by omega, h1.2, by omega⟩
      have e3 : Elems 1 intCs w3 (fun g => W0.heap.size ≤ g ∧ g < w3.heap.size ∧ g ≠ g3) A' cols := ((ho3.below hb5).elems intLay.len rfl).more fun g hg => by
        have h1 := Own.lt ho3 g hg
        have := hb5.size
        exact ⟨by omega, by omega, hne3 g hg⟩
      have hof : ∀ i, (W0.heap.size ≤ i ∧ i < w3.heap.size ∧ i ≠ g3) → ((w3.setCell ⟨g3, 1, none⟩ (.slice A1 tc.length c1)).setCell ⟨g3, 2, none⟩ (.slice A2 pk.length c2)).heap[i]? = w3.heap[i]? ∧ (W0.heap.size ≤ i ∧ i < w3.heap.size ∧ i ≠ g3) := fun i hi => ⟨hk i hi.2.2, hi⟩
      refine ⟨A1, c1, A2, c2, A', c', fun g => W0.heap.size ≤ g ∧ g < w3.heap.size ∧ g ≠ g3, ⟨?_, ⟨⟨e1.of hof, e2.of hof⟩, e3.of hof, Own.nil _, fun g hg => (by cases hg), fun e he => (by cases he), List.Pairwise.nil, fun e he => (by cases he), fun g hg => (by rw [hsz]; exact hg.2.1)⟩, fun h => h.2.2 rfl⟩, fun g hg => hg.1, hxcap, (hb6.setCell (p := ⟨g3, 1, none⟩) hg3 _).setCell (p := ⟨g3, 2, none⟩) hg3 _⟩
      rw [heap_setCell_at (heap_setCell_at hbk3 _)]
      rfl)
    have HB3 := Lib.hid hb3
    clear hxcap hbk ho3 hne3 hb3 q0 q3 q4
    go_upto_region 2 with fail
    go_cut [] from 15 to 26 (C2Post W0 g3 name tc pk cols)
    case first =>
      go_region_law (first
        | (go_simp; go_at_call 45; refine HD1.out.mono ?_; rintro e w2 ⟨A1, c1, rfl, s2, HD2⟩)
        | (go_simp; go_at_call 44; refine HD2.out.mono ?_; rintro e w3 ⟨A2, c2, rfl, ⟨y1, t1⟩, ⟨y2, t2⟩, t3, t4, t5, HF⟩))
      all_goals (go_wp2_with fail; go_meet; exact HF.out)
    case rest =>
      obtain ⟨CA3, cc3, PA3, pc3, XA3, xc3, R3, hcs, hlo, hxc3, hb4⟩ := hcut
      have q4 := (HCELL.out wc hb4).2.2.2.2
      have HST : Hid (CpK W0 g3 name tc pk cols ents 0 wc ⟨⟨name, CA3, cc3, tc, PA3, pc3, pk⟩, XA3, xc3, cols, none, 0, []⟩ R3) := Lib.hid ⟨hcs, rfl, rfl, rfl, rfl, rfl, hlo, hxc3, hb4⟩
      obtain ⟨n, hn⟩ : ∃ n, ents.length = n := ⟨_, rfl⟩
      have hn100 : n ≤ 100 := by rw [← hn]; exact HS.out.ents
      have HN := Lib.hid hn
      rw [hn] at q4
      simp only [hn]
      clear hcs hlo hxc3 hb4 hn HD1 q1 q2
      go_wp2_with fail
      go_loopw [30] (fun vi wr => ∃ (k : Nat) (x' : Ix) (R : Nat → Prop), vi = .int .i64 (k : Int) ∧ k ≤ n ∧ CpK W0 g3 name tc pk cols ents k wr x' R) (fun vi _ => n - (intOf vi).toNat)
      case atStart => exact ⟨0, _, _, rfl, by omega, HST.out⟩
      case round =>
        obtain ⟨k, x', R, rfl, hkn, hcp⟩ := hrel
        obtain ⟨wo, rfl⟩ : ∃ wo, wo = wr := ⟨_, rfl⟩
        by_cases hlt : k < n
        · have hki : k < ents.length := by have := HN.out; omega
          have hxo := HX0.out.on hcp.below
          obtain ⟨b, off, rfl, hbs, e0c, e1c⟩ := hxo.ents.entM hki
          have hent := hxo.ent _ (List.getElem_mem hki)
          have hkl : (ents[k]).keys.length ≤ 100 := HS.out.keys _ (List.getElem_mem hki)
          have HTK : Hid ((ents.take (k + 1)).map EntM.xe = (ents.take k).map EntM.xe ++ [ents[k].xe]) := Lib.hid (by rw [List.take_succ_eq_append_getElem hki, List.map_append]; rfl)
          have hkn' : (k : Int) < (n : Int) := by omega
          have HCP := Lib.hid hcp
          have HENT := Lib.hid hent
          have HGG : Hid (g3 < wo.heap.size) := Lib.hid hcp.cs.lt
          clear hxo hcp
          generalize ents[k] = e0 at *
          obtain ⟨⟨VA, vc, vr⟩, KA, kc, ks⟩ := e0
          obtain ⟨m, hm⟩ : ∃ m, ks.length = m := ⟨_, rfl⟩
          simp only at e0c e1c hkl
          have HM := Lib.hid hm
          rw [hm] at e1c hkl
          have HRC : Hid (Calls Try.prog 35 #[.slice VA vr.length vc] (wo.alloc (.cells #[.slice VA vr.length vc, .slice KA m kc] 59)) fun e w5 => ∃ A1 c1, e = .returned (.slice A1 vr.length c1) ∧ (∀ o, (w5.alloc o).cell? ⟨wo.heap.size, 1, none⟩ = some (.slice KA m kc)) ∧ Hid (CkJ wo w5.heap.size ⟨⟨VA, vc, vr⟩, KA, kc, ks⟩ 0 (w5.alloc (.cells #[.slice A1 vr.length c1, .slice none 0 0] 59)) ⟨⟨A1, c1, vr⟩, none, 0, []⟩)) := Lib.hid (by
            obtain ⟨o5, ho5⟩ : ∃ o5 : Obj, o5 = .cells #[.slice VA vr.length vc, .slice KA m kc] 59 := ⟨_, rfl⟩
            rw [← ho5]
            have hba : Below wo.heap.size wo (wo.alloc o5) := (Below.refl _ _).alloc (Nat.le_refl _) o5
            have hv1 := hent.vals.on hba
            have hvl : vr.length ≤ 12 := hent.vals.len
            refine (cloneRow VA vr.length vc vr (wo.alloc o5) _ hv1.el (fun _ h => h) rfl (by omega)).mono ?_
            rintro e w5 ⟨v, rfl, ho, hb⟩
            obtain ⟨A1, c1, rfl, -, -⟩ := ho.form
            have hb5 : Below wo.heap.size wo w5 := hba.trans (hb.mono hba.size)
            have hs5 : (wo.alloc o5).heap.size = wo.heap.size + 1 := size1 wo o5
            refine ⟨A1, c1, rfl, fun o => ?_, Lib.hid ⟨⟨?_, hb5.size, Own.nil _, ?_, fun k hk => by cases hk⟩, rfl, rfl, hb5.alloc hb5.size _⟩⟩
            · have hbk : (w5.alloc o).heap[wo.heap.size]? = some (.cells #[.slice VA vr.length vc, .slice KA m kc] 59 (0, 0)) := by
                rw [Below.heap_alloc _ _ _ (by have := hb.size; omega), hb.block _ (by omega), ← ho5]
                exact heap_alloc_new wo o5
              rw [cell_of_row _ _ _ _ _ _ hbk]; rfl
            · exact heap_alloc_new w5 _
            · have hkk : KOk (fun g => (Value.slice A1 vr.length c1).ownBlock = some g) w5 ⟨A1, c1, vr⟩ := ⟨ho.elems valLay.len rfl, hvl⟩
              refine hkk.of fun g hg => ?_
              have h1 := Own.lt ho g hg
              have hs6 : (w5.alloc (.cells #[.slice A1 vr.length c1, .slice none 0 0] 59)).heap.size = w5.heap.size + 1 := size1 _ _
              exact ⟨Below.heap_alloc _ _ _ h1.2, by omega, by omega, by omega, by simp [EntM.kv, Value.ownBlock]⟩)
          clear hent hm
          go_wp2_with fail
          refine HRC.out.mono ?_
          rintro e w5 ⟨A1, c1, rfl, hkc, HCK0⟩
          clear HRC
          go_wp2_with fail
          go_loopw [41] (fun vj wi => ∃ (j : Nat) (e' : EntM), vj = .int .i64 (j : Int) ∧ j ≤ m ∧ CkJ wo w5.heap.size ⟨⟨VA, vc, vr⟩, KA, kc, ks⟩ j wi e') (fun vj _ => m - (intOf vj).toNat)
          case atStart => exact ⟨0, _, rfl, by omega, HCK0.out⟩
          case round =>
            obtain ⟨j, e', rfl, hjm, hcj⟩ := hrel
            by_cases hlt2 : j < m
            · have hji : j < ks.length := by have := HM.out; omega
              obtain ⟨kb, koff, rfl, hkb, kc0⟩ := (HENT.out.keys.on hcj.below).key hji
              have hkey : KOk (· < wo.heap.size) wo ks[j] := HENT.out.key _ (List.getElem_mem hji)
              have HKT : Hid ((ks.take (j + 1)).map Key.row = (ks.take j).map Key.row ++ [ks[j].row]) := Lib.hid (by rw [List.take_succ_eq_append_getElem hji, List.map_append]; rfl)
              have hjm' : (j : Int) < (m : Int) := by omega
              generalize ks[j] = kk at *
              obtain ⟨kA, kcc, kr⟩ := kk
              simp only at kc0
              have hbl := hcj.ck.blk
              have hb6l := hcj.ck.lt
              obtain ⟨evals, eKA, ekc, eks⟩ := e'
              have hekl : eks.length < 1000 := by
                have h := congrArg List.length hcj.keys
                rw [List.length_map, List.length_map, List.length_take] at h
                simp only at h
                omega
              have y0 : wr.cell? ⟨w5.heap.size, 1, none⟩ = some (.slice eKA eks.length ekc) := by rw [cell_of_row _ _ _ _ _ _ hbl]; rfl
              have HCL : Hid (Calls Try.prog 35 #[.slice kA kr.length kcc] wr.drew fun e w2 => ∃ A' c', e = .returned (.slice A' kr.length c') ∧ w2.cell? ⟨w5.heap.size, 1, none⟩ = some (.slice eKA eks.length ekc) ∧ (∀ o, (w2.alloc o).cell? ⟨w5.heap.size, 1, none⟩ = some (.slice eKA eks.length ekc))
                  ∧ Hid (∀ ty, ∃ v3 w3, (Builtin.append_ #[23, 23] ty #[.slice eKA eks.length ekc, .slice (some ⟨w2.heap.size, 0, none⟩) 1 1]).run Try.prog (w2.alloc (.cells #[.slice A' kr.length c'] 37)) = .ok v3 w3
                    ∧ (∃ A3 n3 c3, v3 = .slice A3 n3 c3) ∧ w3.cell? ⟨w5.heap.size, 1, none⟩ = some (.slice eKA eks.length ekc) ∧ w3.frozen? ⟨w5.heap.size, 1, none⟩ = false ∧ Hid (∃ e'', CkJ wo w5.heap.size ⟨⟨VA, vc, vr⟩, some ⟨kb, koff, none⟩, kc, ks⟩ (j + 1) (w3.setCell ⟨w5.heap.size, 1, none⟩ v3) e''))) := Lib.hid (by
                have hbd : Below wr.heap.size wr wr.drew := (Below.refl _ _).drew
                have hk1 := (hkey.on hcj.below).on hbd
                have hkl2 : kr.length ≤ 12 := hkey.len
                refine (cloneRow kA kr.length kcc kr wr.drew _ hk1.el (fun _ h => h) rfl (by omega)).mono ?_
                rintro e w2 ⟨v2, rfl, ho2, hb2⟩
                obtain ⟨A', c', rfl, -, -⟩ := ho2.form
                have hb2' : Below wr.heap.size wr w2 := hbd.trans hb2
                refine ⟨A', c', rfl, (hb2'.cell (p := ⟨w5.heap.size, 1, none⟩) hb6l).trans y0, fun o => ((hb2'.alloc hb2'.size o).cell (p := ⟨w5.heap.size, 1, none⟩) hb6l).trans y0, Lib.hid fun ty => ?_⟩
                obtain ⟨v3, w3, r1, r2, r3, r4, ⟨A3, c3, r5⟩, r6⟩ := ck_push hcj.ck hekl (key := kr) (A := A') (c := c') ho2 hkl2 hb2' ty
                refine ⟨v3, w3, r1, r2, r3, r4, Lib.hid ⟨_, r5, hcj.vals, ?_, hcj.below.trans r6⟩⟩
                rw [HKT.out, List.map_append]
                show List.map Key.row eks ++ [kr] = _
                have h := hcj.keys
                simp only at h
                rw [h])
              clear hbl hb6l hcj hkey hekl hkb
              go_upto_region 10 with fail
              go_region_law (first
                | (go_simp; go_at_call 35; refine HCL.out.mono ?_; rintro e w2 ⟨A', c', rfl, p1, p2, HAP⟩)
                | (refine step_app (by rfl) (.tmp 46) (.tmp 49) _ _ (by rfl) (by rfl) (by rfl) (HAP.out _) ?_; rintro _ w3 ⟨⟨A3, n3, c3, rfl⟩, f1, f2, F3⟩))
              all_goals
                obtain ⟨e'', hF⟩ := F3.out
                have HF := Lib.hid hF
                clear hF F3
                go_wp2_with fail
                go_roundw
                case rel => exact ⟨j + 1, e'', by go_num, by omega, HF.out⟩
                case measure => simp [intOf]; omega
            · have hjm' : j = m := by omega
              subst hjm'
              obtain ⟨⟨n', CA', cc', tc', PA', pc', pk'⟩, XA', xc', cols', EA', ec', ents'⟩ := x'
              obtain ⟨⟨eA, ecp, er⟩, eKA, ekc, eks⟩ := e'
              have hle : ents'.length < 1000 := by
                have h := congrArg List.length HCP.out.xd
                unfold Ix.xd at h
                rw [List.length_map, List.length_map, List.length_take] at h
                simp only at h
                omega
              have HPUSH := Lib.hid (cs_push HCP.out.cs hle hcj.ck hcj.below)
              have hbl := hcj.ck.blk
              have z0 : wr.cell? ⟨w5.heap.size, 0, none⟩ = some (.slice eA er.length ecp) := by rw [cell_of_row _ _ _ _ _ _ hbl]; rfl
              have z1 : wr.cell? ⟨w5.heap.size, 1, none⟩ = some (.slice eKA eks.length ekc) := by rw [cell_of_row _ _ _ _ _ _ hbl]; rfl
              have z4 : wr.cell? ⟨g3, 4, none⟩ = some (.slice EA' ents'.length ec') := (Ix.box HCP.out.cs.box (hcj.below.block _ HGG.out)).2.2.2.2
              have HXE : Hid ((⟨⟨eA, ecp, er⟩, eKA, ekc, eks⟩ : EntM).xe = (⟨⟨VA, vc, vr⟩, KA, kc, ks⟩ : EntM).xe) := Lib.hid (by
                have h1 := hcj.vals
                have h2 := hcj.keys
                simp only at h1 h2
                rw [List.take_of_length_le (Nat.le_of_eq HM.out)] at h2
                unfold EntM.xe
                simp only
                rw [h1, h2])
              have HBL := Lib.hid hcj.below
              simp only at HPUSH
              clear hbl hcj hle
              go_wp2_with (at_builtin; refine wpList_app rfl (.tmp 54) (.tmp 56) _ _ rfl rfl rfl (HPUSH.out _) ?_; rintro _ w3 ⟨⟨A3, n3, c3, rfl⟩, f1, f2, ⟨A4, c4, R4, f3, f4⟩, f5⟩)
              have HF : Hid (CpK W0 g3 name tc pk cols ents (k + 1) (w3.setCell ⟨g3, 4, none⟩ (.slice A3 n3 c3)) ⟨⟨n', CA', cc', tc', PA', pc', pk'⟩, XA', xc', cols', A4, c4, ents' ++ [⟨⟨eA, ecp, er⟩, eKA, ekc, eks⟩]⟩ R4) := Lib.hid (by
                have h := HCP.out
                refine ⟨f3, h.name, h.tc, h.pk, h.cols, ?_, fun g hg => ?_, h.xcap, ?_⟩
                · rw [HTK.out, ← h.xd]
                  show List.map EntM.xe (ents' ++ [_]) = List.map EntM.xe ents' ++ _
                  rw [List.map_append, List.map_singleton, HXE.out]
                · rcases f4 g hg with h' | h'
                  · exact h.lo g h'
                  · exact Nat.le_trans h.below.size h'
                · have hg3W : W0.heap.size ≤ g3 := hg3
                  exact h.below.trans (f5.mono hg3W))
              clear f3 f4 f5 HPUSH
              go_wp2_with fail
              go_roundw
              case rel => exact ⟨k + 1, _, R4, by go_num, by omega, HF.out⟩
              case measure => simp [intOf]; omega
        · have hkn' : k = n := by omega
          subst hkn'
          obtain ⟨⟨n', CA', cc', tc', PA', pc', pk'⟩, XA', xc', cols', EA', ec', ents'⟩ := x'
          have hsz2 := HG.out.2.2.2
          have hg1 : wo.heap[w.heap.size + 1]? = some (.cells #[.string ⟨#[]⟩, .slice none 0 0, .slice none 0 0, .slice none 0 0, .slice none 0 0] 30 (0, 0)) := (hcp.below.block _ (by omega)).trans HG.out.2.2.1
          obtain ⟨z0, z1, z2, z3, z4⟩ := Ix.box hcp.cs.box rfl
          simp only at z0 z1 z2 z3 z4
          have n0 := cell_of_row _ _ 0 _ _ _ hg1
          have n1 := cell_of_row _ _ 1 _ _ _ hg1
          have n2 := cell_of_row _ _ 2 _ _ _ hg1
          have n3 := cell_of_row _ _ 3 _ _ _ hg1
          have n4 := cell_of_row _ _ 4 _ _ _ hg1
          have f0 := frozen_of_row _ _ 0 _ _ hg1
          have f1 := frozen_of_row _ _ 1 _ _ hg1
          have f2 := frozen_of_row _ _ 2 _ _ hg1
          have f3 := frozen_of_row _ _ 3 _ _ hg1
          have f4 := frozen_of_row _ _ 4 _ _ hg1
          have HF : Hid (ClPost w ⟨⟨name, CA, cc, tc, PA, pc, pk⟩, XA, xc, cols, EA, ec, ents⟩ (.returned (Ix.val ⟨⟨n', CA', cc', tc', PA', pc', pk'⟩, XA', xc', cols', EA', ec', ents'⟩)) (((((wo.setCell ⟨w.heap.size + 1, 0, none⟩ (.string n')).setCell ⟨w.heap.size + 1, 1, none⟩ (.slice CA' tc'.length cc')).setCell ⟨w.heap.size + 1, 2, none⟩ (.slice PA' pk'.length pc')).setCell ⟨w.heap.size + 1, 3, none⟩ (.slice XA' cols'.length xc')).setCell ⟨w.heap.size + 1, 4, none⟩ (.slice EA' ents'.length ec'))
              ∧ (((((wo.setCell ⟨w.heap.size + 1, 0, none⟩ (.string n')).setCell ⟨w.heap.size + 1, 1, none⟩ (.slice CA' tc'.length cc')).setCell ⟨w.heap.size + 1, 2, none⟩ (.slice PA' pk'.length pc')).setCell ⟨w.heap.size + 1, 3, none⟩ (.slice XA' cols'.length xc')).setCell ⟨w.heap.size + 1, 4, none⟩ (.slice EA' ents'.length ec')).heap[w.heap.size + 1]? = some (.cells (Ix.cells ⟨⟨n', CA', cc', tc', PA', pc', pk'⟩, XA', xc', cols', EA', ec', ents'⟩) 30 (0, 0))) := Lib.hid (by
            have hR : ¬ R (w.heap.size + 1) := fun h => by have := hcp.lo _ h; omega
            have hb3 : w.heap.size + 1 < g3 + 1 := by omega
            refine ⟨⟨_, R, rfl, ((((((hcp.cs.own.setCell (p := ⟨w.heap.size + 1, 0, none⟩) hb3 hR _).setCell (p := ⟨w.heap.size + 1, 1, none⟩) hb3 hR _).setCell (p := ⟨w.heap.size + 1, 2, none⟩) hb3 hR _).setCell (p := ⟨w.heap.size + 1, 3, none⟩) hb3 hR _).setCell (p := ⟨w.heap.size + 1, 4, none⟩) hb3 hR _).mono (by omega)), (fun g hg => by have := hcp.lo g hg; omega), ⟨hcp.xcap, ?_, hcp.cols, hcp.tc, hcp.pk⟩, ?_⟩, ?_⟩
            · have h := hcp.xd
              rw [List.take_of_length_le (by have := HN.out; omega)] at h
              exact h
            · have hbw : Below w.heap.size w wo := HG.out.1.trans (hcp.below.mono HG.out.1.size)
              exact ((((hbw.setCell (p := ⟨w.heap.size + 1, 0, none⟩) (Nat.le_succ _) _).setCell (p := ⟨w.heap.size + 1, 1, none⟩) (Nat.le_succ _) _).setCell (p := ⟨w.heap.size + 1, 2, none⟩) (Nat.le_succ _) _).setCell (p := ⟨w.heap.size + 1, 3, none⟩) (Nat.le_succ _) _).setCell (p := ⟨w.heap.size + 1, 4, none⟩) (Nat.le_succ _) _
            · rw [heap_setCell_at (heap_setCell_at (heap_setCell_at (heap_setCell_at (heap_setCell_at hg1 _) _) _) _)]
              rfl)
          clear hg1 hcp
          go_wp2_with fail
          refine bodyPost_ret (ret_clone _ rfl HF.out.2) rfl ?_
          exact HF.out.1
end Go.Proofs.Ytakbabkcidioaaa
