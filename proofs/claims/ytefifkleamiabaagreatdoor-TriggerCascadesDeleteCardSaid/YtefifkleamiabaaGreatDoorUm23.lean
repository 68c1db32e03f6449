/-
  RowCount; TriggerCascadesDelete, plain, and its walk.
-/
import Derived.Test.YtefifkleamiabaaGreatDoorUm22
import Derived.Deep.AppendSrc
namespace Go.Proofs.YtefifkleamiabaaGreatDoor
open Go.RowKit Go.Sort

set_option maxRecDepth 100000 in
set_option maxHeartbeats 2000000 in
theorem rowCountB (R : Nat → List Row) (v : Value) (w : World) (hi : InB R w v) (h0 : (R 0).length ≤ 1000) (h1 : (R 1).length ≤ 1000) :
    Calls Tryz.prog 18 #[v] w fun e w' => e = .returned (.int .i64 (((R 0).length + (R 1).length : Nat) : Int)) ∧ Below w.heap.size w w' := by
  obtain ⟨A, c, A0, c0, k0, A1, c1, k1, rfl, hin, e0, e1⟩ := hi
  have n0 : k0.length = (R 0).length := by rw [← e0, List.length_map]
  have n1 : k1.length = (R 1).length := by rw [← e1, List.length_map]
  have HI := Lib.hid hin
  generalize (R 0).length = m0 at *
  generalize (R 1).length = m1 at *
  clear e0 e1 hin
  go_enter Tryz.func18, Tryz.ntmps18
  go_wp2_with fail
  go_loopw [3, 8] (fun v3 vi wr => Below w.heap.size w wr ∧ ((vi = .int .i64 0 ∧ v3 = .int .i64 0) ∨ (vi = .int .i64 1 ∧ v3 = .int .i64 (m0 : Int)) ∨ (vi = .int .i64 2 ∧ v3 = .int .i64 ((m0 + m1 : Nat) : Int)))) (fun _ vi _ => 2 - (intOf vi).toNat)
  case atStart => exact ⟨Below.refl _ _, .inl ⟨rfl, rfl⟩⟩
  case round =>
    obtain ⟨hb, hrel⟩ := hrel
    obtain ⟨wo, rfl⟩ : ∃ wo, wo = wr := ⟨_, rfl⟩
    rcases hrel with ⟨rfl, rfl⟩ | ⟨rfl, rfl⟩ | ⟨rfl, rfl⟩
    · obtain ⟨b, off, hA, -, p0, p1⟩ := (HI.out.on hb).el.rel (k := 0) (by show 0 < 2; omega)
      rw [Nat.zero_mul, Nat.add_zero] at p0 p1
      replace p0 : wo.cell? ⟨b, off, none⟩ = some (.string nItem) := p0
      replace p1 : wo.cell? ⟨b, off + 1, none⟩ = some (.slice A0 k0.length c0) := p1
      rw [n0] at p1
      obtain ⟨w5, hw5⟩ : ∃ w5, w5 = wo.alloc (.cells #[.string nItem, .slice A0 m0 c0] 78) := ⟨_, rfl⟩
      have hb5 : Below wo.heap.size wo w5 := by rw [hw5]; exact (Below.refl _ _).alloc (Nat.le_refl _) _
      have hg5 : w5.heap[wo.heap.size]? = some (.cells #[.string nItem, .slice A0 m0 c0] 78 (0, 0)) := by rw [hw5]; exact heap_alloc_new wo _
      have y1 := cell_of_row _ _ 1 _ _ _ hg5
      have HF := Lib.hid (hb.trans (hb5.mono hb.size))
      have HW5 := Lib.hid hw5
      clear hb hw5 hb5 hg5
      rw [hA]
      go_upto_region 5 with fail
      rw [← HW5.out]
      go_wp2_with fail
      go_roundw
      case rel => exact ⟨HF.out, .inr (.inl ⟨by go_num, by go_num⟩)⟩
      case measure => simp [intOf]
    · obtain ⟨b, off, hA, -, p0, p1⟩ := (HI.out.on hb).el.rel (k := 1) (by show 1 < 2; omega)
      rw [Nat.one_mul] at p0 p1
      replace p0 : wo.cell? ⟨b, off + 2, none⟩ = some (.string nOrder) := p0
      replace p1 : wo.cell? ⟨b, off + 2 + 1, none⟩ = some (.slice A1 k1.length c1) := p1
      rw [n1] at p1
      obtain ⟨w5, hw5⟩ : ∃ w5, w5 = wo.alloc (.cells #[.string nOrder, .slice A1 m1 c1] 78) := ⟨_, rfl⟩
      have hb5 : Below wo.heap.size wo w5 := by rw [hw5]; exact (Below.refl _ _).alloc (Nat.le_refl _) _
      have hg5 : w5.heap[wo.heap.size]? = some (.cells #[.string nOrder, .slice A1 m1 c1] 78 (0, 0)) := by rw [hw5]; exact heap_alloc_new wo _
      have y1 := cell_of_row _ _ 1 _ _ _ hg5
      have HF := Lib.hid (hb.trans (hb5.mono hb.size))
      have HW5 := Lib.hid hw5
      clear hb hw5 hb5 hg5
      rw [hA]
      go_upto_region 5 with fail
      rw [← HW5.out]
      go_wp2_with fail
      go_roundw
      case rel => exact ⟨HF.out, .inr (.inr ⟨by go_num, by go_num⟩)⟩
      case measure => simp [intOf]
    · have HF := Lib.hid hb
      clear hb
      go_wp2_with fail
      go_ret
      exact ⟨rfl, HF.out⟩

theorem ins_rem {x : Nat} {r : Row} {rows : List Row} (hr : dgK [0] r = x) : (remS x (insS r rows)).length + 1 = (insS r rows).length := by
  unfold remS insS
  rw [hr]
  have e1 : (rows.filter fun y => decide (dgK [0] y < x)).filter (fun y => !decide (dgK [0] y = x)) = rows.filter fun y => decide (dgK [0] y < x) := filter_all fun y hy => by
    have : dgK [0] y < x := by simpa using (List.mem_filter.1 hy).2
    have h : ¬ dgK [0] y = x := by omega
    rw [decide_eq_false h]; rfl
  have e2 : (rows.filter fun y => decide (x < dgK [0] y)).filter (fun y => !decide (dgK [0] y = x)) = rows.filter fun y => decide (x < dgK [0] y) := filter_all fun y hy => by
    have : x < dgK [0] y := by simpa using (List.mem_filter.1 hy).2
    have h : ¬ dgK [0] y = x := by omega
    rw [decide_eq_false h]; rfl
  rw [List.filter_append, List.filter_cons_of_neg (by simpa using hr), e1, e2, List.length_append, List.length_append, List.length_cons]
  omega
theorem ins_any {x : Nat} {r : Row} {rows : List Row} (hr : dgK [0] r = x) : (insS r rows).any (fun y => decide (dgK [0] y = x)) = true := by
  rw [List.any_eq_true]
  exact ⟨r, by unfold insS; simp, decide_eq_true hr⟩
/-- The rows behind both upserts: each table has the key, once. -/
structure Two (x : Nat) (R : Nat → List Row) : Prop where
  x8 : x < 8
  bg : BG R
  any : ∀ i, i < 2 → (R i).any (fun y => decide (dgK [0] y = x)) = true
  len : ∀ i, i < 2 → (remS x (R i)).length + 1 = (R i).length
theorem two_of {A B : Option Addr} {p q p' q' a b c : Nat} {R : Nat → List Row} (h : BG R) (ha : a < 5) (hb : b < 7) (hc : c < 5) :
    ∃ R2, runN [⟨1, nItem, ⟨none, p, []⟩, ⟨A, q, iRow (a : Int) (b : Int)⟩⟩, ⟨1, nOrder, ⟨none, p', []⟩, ⟨B, q', oRow (a : Int) (c : Int)⟩⟩] R = some R2 ∧ Two a R2 := by
  have f1 : FitB ⟨1, nItem, ⟨none, p, []⟩, ⟨A, q, iRow (a : Int) (b : Int)⟩⟩ := fit_item (by omega) hb
  have f2 : FitB ⟨1, nOrder, ⟨none, p', []⟩, ⟨B, q', oRow (a : Int) (c : Int)⟩⟩ := fit_order (by omega) (by omega)
  refine ⟨_, rfl, by omega, nextB_bg (nextB_bg h f1) f2, fun i hi => ?_, fun i hi => ?_⟩
  · rcases (by omega : i = 0 ∨ i = 1) with rfl | rfl
    · exact ins_any (r := iRow (a : Int) (b : Int)) rfl
    · exact ins_any (r := oRow (a : Int) (c : Int)) rfl
  · rcases (by omega : i = 0 ∨ i = 1) with rfl | rfl
    · exact ins_rem (r := iRow (a : Int) (b : Int)) rfl
    · exact ins_rem (r := oRow (a : Int) (c : Int)) rfl
/-- The item's delete. -/
structure DIt (x : Nat) (d : ChM) : Prop where
  kind : d.kind = 2
  nm : d.name = nItem
  row : d.row.row = []
  key : d.key.row = ik (x : Int)
theorem DIt.ti {x : Nat} {d : ChM} (h : DIt x d) : tiOf d = 0 ∧ kkOf d = x := by
  refine ⟨tiOf_tab (by omega) h.nm, ?_⟩
  unfold kkOf
  rw [if_neg (by rw [h.kind]; decide), h.key]
  exact Int.toNat_natCast _
theorem DIt.fit {x : Nat} {d : ChM} (h : DIt x d) (hx : x < 8) : FitB d := by
  obtain ⟨h1, h2⟩ := h.ti
  exact ⟨⟨by rw [h1]; exact h.nm, by omega⟩, .inr ⟨h.kind, h.row, by rw [h2]; exact h.key, by omega⟩⟩
theorem DIt.of_d {x : Nat} {d d' : ChM} (h : DIt x d) (e : d'.d = d.d) : DIt x d' := by
  obtain ⟨h1, h2⟩ := Prod.mk.inj e
  obtain ⟨h2, h3⟩ := Prod.mk.inj h2
  obtain ⟨h3, h4⟩ := Prod.mk.inj h3
  exact ⟨h1.trans h.kind, h2.trans h.nm, h4.trans h.row, h3.trans h.key⟩
/-- Behind Expand of the item's delete. -/
def Inv2 (x : Nat) (R : Nat → List Row) (i : Nat) (qs : List ChM) (R' : Nat → List Row) : Prop :=
  (i = 0 ∧ qs = [] ∧ R' = R) ∨ (i = 1 ∧ (R' 0).length + 1 = (R 0).length ∧ (R' 1).length + 1 = (R 1).length ∧ ∃ c d, qs = [c, d] ∧ c.d = (2, nItem, ik (x : Int), []) ∧ d.d = (2, nOrder, ik (x : Int), []))
theorem inv2_step {x : Nat} {R : Nat → List Row} (hR : Two x R) (qs : List ChM) (R' : Nat → List Row) (c : ChM) (ds : List ChM) (R2 : Nat → List Row) (h : Inv2 x R 0 qs R') (hc : DIt x c) (h2 : Casc (fires true c) c R' ds R2) : Inv2 x R 1 (qs ++ c :: ds) R2 := by
  obtain ⟨ht, hk⟩ := hc.ti
  have hf : fires true c = true := by unfold fires; rw [decide_eq_true hc.kind, decide_eq_true hc.nm]; rfl
  rw [hf] at h2
  rcases h with ⟨-, rfl, rfl⟩ | ⟨h0, -⟩
  · have h1 : nextB c R' 1 = R' 1 := by unfold nextB; rw [if_neg (by omega)]
    have h0 : nextB c R' 0 = remS x (R' 0) := by unfold nextB; rw [ht, if_pos rfl, if_neg (by rw [hc.kind]; decide), hk]
    rcases h2 with ⟨-, -, hno⟩ | ⟨-, d, rfl, hd, -, -, rfl⟩
    · exfalso
      have hdd : DCh c ⟨2, nOrder, ⟨none, 0, ik (kkOf c : Int)⟩, ⟨none, 0, []⟩⟩ := ⟨rfl, rfl, rfl, rfl⟩
      have h3 := hno rfl _ hdd
      have htd : tiOf ⟨2, nOrder, ⟨none, 0, ik (kkOf c : Int)⟩, ⟨none, 0, []⟩⟩ = 1 := tiOf_tab (by omega) rfl
      have hkd : kkOf ⟨2, nOrder, ⟨none, 0, ik (kkOf c : Int)⟩, ⟨none, 0, []⟩⟩ = x := by
        unfold kkOf
        rw [if_neg (by show ¬ (2 : Int) = 1; decide)]
        exact (Int.toNat_natCast _).trans hk
      unfold stopN at h3
      rw [htd, hkd, h1, hR.any 1 (by omega)] at h3
      simp at h3
    · have htd : tiOf d = 1 := tiOf_tab (by omega) hd.nm
      have hkd : kkOf d = x := by
        unfold kkOf
        rw [if_neg (by rw [hd.kind]; decide), hd.key, hk]
        exact Int.toNat_natCast _
      refine .inr ⟨rfl, ?_, ?_, c, d, rfl, ?_, ?_⟩
      · have e : nextB d (nextB c R') 0 = remS x (R' 0) := by rw [← h0]; unfold nextB; rw [htd, if_neg (by omega)]
        rw [e]
        exact hR.len 0 (by omega)
      · have e : nextB d (nextB c R') 1 = remS x (R' 1) := by
          show (if 1 = tiOf d then _ else _) = _
          rw [htd, if_pos rfl, if_neg (by rw [hd.kind]; decide), hkd, h1]
        rw [e]
        exact hR.len 1 (by omega)
      · unfold ChM.d
        rw [hc.kind, hc.nm, hc.row, hc.key]
      · unfold ChM.d
        rw [hd.kind, hd.nm, hd.row, hd.key, hk]
  · cases h0
/-- What Expand answers at the item's delete. -/
def Ex2 (x : Nat) (R : Nat → List Row) (w : World) (e : Ending) (w' : World) : Prop :=
  ∃ R2 c d QA qc v, e = .returned (.tuple #[.slice QA 2 qc, v, .int .i64 0]) ∧ Below w.heap.size w w' ∧ (R2 0).length + 1 = (R 0).length ∧ (R2 1).length + 1 = (R 1).length ∧ BG R2 ∧ c.d = (2, nItem, ik (x : Int), []) ∧ d.d = (2, nOrder, ik (x : Int), []) ∧ Elems 4 ChM.cs w' (· < w'.heap.size) QA [c, d] ∧ (∀ q ∈ [c, d], ChOk (· < w'.heap.size) w' q) ∧ InB R2 w' v
theorem expand2 {T IA IP OA OP F FC N : Option Addr} {x : Nat} {R : Nat → List Row} {v : Value} {TA RA RB CA : Option Addr} {tc cc : Nat} {c0 : ChM} (W : World) (hs : ScOk (· < W.heap.size) W (bSc T IA IP OA OP F FC N)) (htg : TgOk (· < W.heap.size) W TA [tDel RA RB]) (hi : InB R W v) (hR : Two x R) (hc : DIt x c0) (hel : Elems 4 ChM.cs W (· < W.heap.size) CA [c0]) (hco : ChOk (· < W.heap.size) W c0) :
    Calls Tryz.prog 12 #[.agg #[.slice T 2 2, .slice F 1 1, .slice N 1 1], v, .slice TA 1 tc, .slice CA 1 cc] W (Ex2 x R W) := by
  refine (expandB (cs := [c0]) (trig := true) (ts := [tDel RA RB]) (.inr ⟨rfl, RA, RB, rfl⟩) (Inv2 x R) W hs htg hi hR.bg hel (fun q hq => by rw [List.mem_singleton.1 hq]; exact hco) (fun q hq => by rw [List.mem_singleton.1 hq]; exact hc.fit hR.x8) (by show 1 ≤ 8; omega) (.inl ⟨rfl, rfl, rfl⟩) (fun i qs R' c' ds R2 hi h _ hd _ _ h2 => ?_) (fun i qs R' h => ?_)).mono ?_
  · have hi : i < 1 := hi
    obtain rfl : i = 0 := by omega
    exact inv2_step hR qs R' c' ds R2 h (hc.of_d hd) h2
  · rcases h with ⟨-, rfl, -⟩ | ⟨rfl, -, -, c, d, rfl, -⟩
    · exact Nat.zero_le _
    · exact Nat.le_refl _
  · rintro e w' (⟨qs, R2, QA, qc, v', rfl, hinv, hb2, hel2, hco2, hin2, hb⟩ | ⟨i, qs, R', hi, hinv, -, hst, -, -⟩)
    · rcases hinv with ⟨h0, -⟩ | ⟨-, h1, h2, c, d, rfl, h3, h4⟩
      · cases h0
      · exact ⟨R2, c, d, QA, qc, v', rfl, hb, h1, h2, hb2, h3, h4, hel2, hco2, hin2⟩
    · exfalso
      have hi : i < 1 := hi
      obtain rfl : i = 0 := by omega
      rcases hinv with ⟨-, -, rfl⟩ | ⟨h0, -⟩
      · obtain ⟨ht, hk⟩ := hc.ti
        have hst : stopN c0 R' = true := hst
        unfold stopN at hst
        rw [ht, hk, hR.any 0 (by omega)] at hst
        simp at hst
      · cases h0
/-- A change appended to a full list of one: a new list, the old one stays. -/
theorem push_two (ty : TypeId) (w : World) {g : Nat} {d0 d1 : ChM} {u v : Array Value} (hg : w.heap[g]? = some (.cells u 51 (0, 0))) (hu : u.toList = ChM.cs d0) (hv : v.toList = ChM.cs d1) :
    ∃ wc wa A, (Builtin.append_ #[32, 32] ty #[.slice (some ⟨g, 0, none⟩) 1 1, .slice (some ⟨w.heap.size, 0, none⟩) 1 1]).run Tryz.prog (w.alloc (.cells v 51)) = .ok (.slice A 2 wc) wa ∧ Below w.heap.size w wa ∧ Elems 4 ChM.cs wa (· < wa.heap.size) A [d0, d1] := by
  obtain ⟨i, z, hi, hz, h2, h3, h4⟩ := elem_chg.info
  have hgl : g < w.heap.size := (Array.getElem?_eq_some_iff.1 hg).1
  obtain ⟨W, hW⟩ : ∃ W, W = w.alloc (.cells v 51) := ⟨_, rfl⟩
  have hgW : W.heap[g]? = some (.cells u 51 (0, 0)) := by rw [hW, Below.heap_alloc _ _ _ hgl]; exact hg
  have hvW : W.heap[w.heap.size]? = some (.cells v 51 (0, 0)) := by rw [hW]; exact heap_alloc_new w _
  have hb : Below w.heap.size w W := by rw [hW]; exact (Below.refl _ _).alloc (Nat.le_refl _) _
  rw [← hW]
  have hS : Src Tryz.prog i.size 32 (.slice (some ⟨w.heap.size, 0, none⟩) 1 1) 1 (ChM.cs d1) W := Src.ofSlice W elem_chg.und ⟨w.heap.size, 0, none⟩ 1 1 (ChM.cs d1) (by rw [h2]; rfl)
    (fun j x hj => by rw [Addr.add_lit, cell_of_row _ _ _ _ _ (0, 0) hvW, ← Array.getElem?_toList, hv, Nat.zero_add]; exact hj) (chmLay.one d1)
  have hrun := run_append_grow_src W 32 32 ty 51 i z elem_chg.und hi hz (some ⟨g, 0, none⟩) 1 1 (ChM.cs d0)
    (by
      rw [h2]
      exact run_firstCells_some W.drew 4 1 ⟨g, 0, none⟩ 1 1 _ rfl fun j x hj => by
        rw [Addr.add_lit]
        show W.cell? _ = _
        rw [cell_of_row _ _ _ _ _ (0, 0) hgW, ← Array.getElem?_toList, hu, Nat.zero_add]
        exact hj)
    _ 1 _ hS (by omega) (by decide) (growslice_fits (by omega) (by rw [h3]; omega))
  refine ⟨_, _, _, hrun, hb.trans (((Below.refl _ _).drew.trans (Below.refl _ _)).alloc hb.size _), fun _ => ⟨W.heap.size, 0, rfl, by simp, fun k x hk j y hy => ?_⟩⟩
  have hgn := heap_alloc_new W.drew (.cells ((ChM.cs d0 ++ ChM.cs d1).toArray ++ Builtin.zeroCells z.cells (grownCap W (1 + 1) 1 51 - (1 + 1))) 51)
  rw [show W.drew.heap.size = W.heap.size from rfl] at hgn
  rw [cell_of_row _ _ _ _ _ (0, 0) hgn]
  have hj : j < 4 := (List.getElem?_eq_some_iff.1 hy).1
  have e1 := flatMap_getElem? (cs := ChM.cs) (sz := 4) chmLay.len [d0, d1] k x hk j hj
  rw [hy] at e1
  have e2 : [d0, d1].flatMap ChM.cs = ChM.cs d0 ++ ChM.cs d1 := by simp
  rw [e2] at e1
  have hl := (List.getElem?_eq_some_iff.1 e1).1
  rw [Nat.zero_add, Array.getElem?_append_left (by simpa using hl), List.getElem?_toArray]
  exact e1


/-- Behind both upserts. -/
def St39 (a : Nat) (w2 : World) (v : Value) (wx : World) : Prop := ∃ R1, InB R1 wx v ∧ Two a R1 ∧ Below w2.heap.size w2 wx
/-- Behind Expand. -/
def Q39 (x : Nat) (R1 : Nat → List Row) (w8 : World) (a b : Value) (wx : World) : Prop :=
  ∃ R2 c d QA qc, a = .slice QA 2 qc ∧ Below w8.heap.size w8 wx ∧ (R2 0).length + 1 = (R1 0).length ∧ (R2 1).length + 1 = (R1 1).length ∧ BG R2 ∧ c.d = (2, nItem, ik (x : Int), []) ∧ d.d = (2, nOrder, ik (x : Int), []) ∧ Elems 4 ChM.cs wx (· < wx.heap.size) QA [c, d] ∧ (∀ q ∈ [c, d], ChOk (· < wx.heap.size) wx q) ∧ InB R2 wx b
theorem ex2_q {x : Nat} {R1 : Nat → List Row} {w8 W w' : World} {e : Ending} (h : Ex2 x R1 W e w') (hb : Below w8.heap.size w8 W) : ∃ a b, e = .returned (.tuple #[a, b, .int .i64 0]) ∧ Below w8.heap.size w8 w' ∧ Q39 x R1 w8 a b w' := by
  obtain ⟨R2, c, d, QA, qc, v, rfl, hb2, h⟩ := h
  exact ⟨_, _, rfl, hb.trans (hb2.mono hb.size), R2, c, d, QA, qc, rfl, hb.trans (hb2.mono hb.size), h⟩
set_option maxRecDepth 100000 in
set_option maxHeartbeats 8000000 in
theorem tcd_law (A : Option Addr) (c : Nat) (xs : List Int) (x y z : Int) (w : World) (hx : Elems 1 intCs w (· < w.heap.size) A xs) (hok : ∀ n ∈ xs, I64 n) (hxc : xs.length ≤ c) (hxs : xs.length * 8 ≤ reachBytes) (hx0 : I64 x) (hy0 : I64 y) (hz0 : I64 z) :
    Calls Tryz.prog 5 #[.slice A xs.length c, .int .i64 x, .int .i64 y, .int .i64 z] w fun e w' => e = .returned (.bool true) ∧ Below w.heap.size w w' := by
  have hrb : reachBytes ≤ 140737488355320 := by decide
  have HX := Lib.hid hx
  have HOK := Lib.hid hok
  have HL : Hid ((xs.length : Int) ≤ 9223372036854775807 ∧ xs.length ≤ c) := Lib.hid ⟨by omega, hxc⟩
  have HXYZ := Lib.hid (And.intro hx0 (And.intro hy0 hz0))
  obtain ⟨N, hN⟩ : ∃ N, xs.length = N := ⟨_, rfl⟩
  have HBI := Lib.hid fun W (hW : Below w.heap.size w W) => baseInstanceW A c xs W (HX.out.on hW) HOK.out HL.out.1 HL.out.2
  rw [hN] at HBI
  rw [hN]
  clear hx hok hxc hxs hN hrb hx0 hy0 hz0
  go_enter Tryz.func5, Tryz.ntmps5
  go_wp2_with fail
  refine (baseSchemaW w).mono ?_
  rintro e w1 ⟨T, IA, IP, OA, OP, F, FC, N2, rfl, hs1, hb1⟩
  rw [show (bSc T IA IP OA OP F FC N2).v = .agg #[.slice T 2 2, .slice F 1 1, .slice N2 1 1] from rfl]
  obtain ⟨w2, hw2⟩ : ∃ w2, w2 = w1.alloc (.cells #[.slice T 2 2, .slice F 1 1, .slice N2 1 1] 27) := ⟨_, rfl⟩
  have hb2 : Below w1.heap.size w1 w2 := by rw [hw2]; exact (Below.refl _ _).alloc (Nat.le_refl _) _
  have hg2 : w2.heap[w1.heap.size]? = some (.cells #[.slice T 2 2, .slice F 1 1, .slice N2 1 1] 27 (0, 0)) := by rw [hw2]; exact heap_alloc_new w1 _
  have hs2 : w1.heap.size < w2.heap.size := by rw [hw2]; simp
  have hb02 := hb1.trans (hb2.mono hb1.size)
  have HBX : Hid (∀ W, Below w2.heap.size w2 W → W.cell? ⟨w1.heap.size, 0, none⟩ = some (.slice T 2 2) ∧ W.cell? ⟨w1.heap.size, 1, none⟩ = some (.slice F 1 1) ∧ W.cell? ⟨w1.heap.size, 2, none⟩ = some (.slice N2 1 1)) := Lib.hid fun W hW => by
    have h := (hW.block _ hs2).trans hg2
    exact ⟨cell_of_row _ _ 0 _ _ _ h, cell_of_row _ _ 1 _ _ _ h, cell_of_row _ _ 2 _ _ _ h⟩
  have HSC : Hid (∀ W, Below w2.heap.size w2 W → ScOk (· < W.heap.size) W (bSc T IA IP OA OP F FC N2)) := Lib.hid fun W hW => (hs1.on hb2).on hW
  have HB2 := Lib.hid hb02
  have HW2 := Lib.hid hw2
  clear hs1 hb1 hw2 hb2 hg2 hs2 hb02
  have HIT : Hid (∀ W, Calls Tryz.prog 16 #[.int .i64 x, .int .i64 y] W fun e w' => e = .returned (.slice (some ⟨W.heap.size, 0, none⟩) 4 4) ∧ Elems 3 Val.cs w' (fun g => g = W.heap.size) (some ⟨W.heap.size, 0, none⟩) (iRow (md x 5 : Nat) (md y 7 : Nat)) ∧ Below W.heap.size W w' ∧ w'.heap.size = W.heap.size + 1) := Lib.hid fun W => itemRowW x y W HXYZ.out.1 HXYZ.out.2.1
  have HB0 : Hid (∀ m, Calls Tryz.prog 9 #[.slice A N c] (w2.drewN m) fun e w3 => ∃ v3, e = .returned v3 ∧ (w3.cell? ⟨w1.heap.size, 0, none⟩ = some (.slice T 2 2) ∧ w3.cell? ⟨w1.heap.size, 1, none⟩ = some (.slice F 1 1) ∧ w3.cell? ⟨w1.heap.size, 2, none⟩ = some (.slice N2 1 1))
      ∧ Hid (Calls Tryz.prog 16 #[.int .i64 x, .int .i64 y] w3 fun e w4 => ∃ A4, e = .returned (.slice A4 4 4) ∧ (w4.cell? ⟨w1.heap.size, 0, none⟩ = some (.slice T 2 2) ∧ w4.cell? ⟨w1.heap.size, 1, none⟩ = some (.slice F 1 1) ∧ w4.cell? ⟨w1.heap.size, 2, none⟩ = some (.slice N2 1 1))
      ∧ Hid (Calls Tryz.prog 17 #[.int .i64 x, .int .i64 z] w4 fun e w5 => ∃ A5, e = .returned (.slice A5 3 3) ∧ (w5.cell? ⟨w1.heap.size, 0, none⟩ = some (.slice T 2 2) ∧ w5.cell? ⟨w1.heap.size, 1, none⟩ = some (.slice F 1 1) ∧ w5.cell? ⟨w1.heap.size, 2, none⟩ = some (.slice N2 1 1)) ∧ Hid (∀ o, ((w5.alloc o).cell? ⟨w1.heap.size, 0, none⟩ = some (.slice T 2 2) ∧ (w5.alloc o).cell? ⟨w1.heap.size, 1, none⟩ = some (.slice F 1 1) ∧ (w5.alloc o).cell? ⟨w1.heap.size, 2, none⟩ = some (.slice N2 1 1)))
      ∧ Hid (Calls Tryz.prog 11 #[.agg #[.slice T 2 2, .slice F 1 1, .slice N2 1 1], v3, .slice (some ⟨w5.heap.size, 0, none⟩) 2 2] (w5.alloc (.cells #[.int .i64 1, .string ⟨#[105, 116, 101, 109]⟩, .slice none 0 0, .slice A4 4 4, .int .i64 1, .string ⟨#[111, 114, 100, 101, 114]⟩, .slice none 0 0, .slice A5 3 3] 51)) fun e w6 => ∃ v6, e = .returned (.tuple #[v6, .int .i64 0]) ∧ (w6.cell? ⟨w1.heap.size, 0, none⟩ = some (.slice T 2 2) ∧ w6.cell? ⟨w1.heap.size, 1, none⟩ = some (.slice F 1 1) ∧ w6.cell? ⟨w1.heap.size, 2, none⟩ = some (.slice N2 1 1)) ∧ Hid (St39 (md x 5) w2 v6 w6))))) := Lib.hid fun m => by
    have hd : Below w2.heap.size w2 (w2.drewN m) := below_drewN (Below.refl _ _) m
    refine (HBI.out (w2.drewN m) (HB2.out.trans (hd.mono HB2.out.size))).mono ?_
    rintro e w3 ⟨R, v3, rfl, hbg, hin, hb3⟩
    have hb23 := hd.trans (hb3.mono hd.size)
    refine ⟨v3, rfl, HBX.out w3 hb23, Lib.hid ?_⟩
    refine (HIT.out w3).mono ?_
    rintro e w4 ⟨rfl, hel4, hb4, hs4⟩
    have hb24 := hb23.trans (hb4.mono hb23.size)
    refine ⟨_, rfl, HBX.out w4 hb24, Lib.hid ?_⟩
    refine (orderRowW x z w4 HXYZ.out.1 HXYZ.out.2.2).mono ?_
    rintro e w5 ⟨rfl, hel5, hb5, hs5⟩
    have hb25 := hb24.trans (hb5.mono hb24.size)
    refine ⟨_, rfl, HBX.out w5 hb25, Lib.hid fun o => HBX.out _ (hb25.alloc hb25.size o), Lib.hid ?_⟩
    have hx5 := md_lt (k := x) (n := 5) (by omega)
    have hy7 := md_lt (k := y) (n := 7) (by omega)
    have hz5 := md_lt (k := z) (n := 5) (by omega)
    obtain ⟨R1, hrun, htwo⟩ := two_of (A := some ⟨w3.heap.size, 0, none⟩) (B := some ⟨w4.heap.size, 0, none⟩) (p := 0) (q := 4) (p' := 0) (q' := 3) (a := md x 5) (b := md y 7) (c := md z 5) hbg (by omega) (by omega) (by omega)
    obtain ⟨wa, hwa⟩ : ∃ wa, wa = w5.alloc (.cells #[.int .i64 1, .string ⟨#[105, 116, 101, 109]⟩, .slice none 0 0, .slice (some ⟨w3.heap.size, 0, none⟩) 4 4, .int .i64 1, .string ⟨#[111, 114, 100, 101, 114]⟩, .slice none 0 0, .slice (some ⟨w4.heap.size, 0, none⟩) 3 3] 51) := ⟨_, rfl⟩
    have hba : Below w5.heap.size w5 wa := by rw [hwa]; exact (Below.refl _ _).alloc (Nat.le_refl _) _
    have hga : wa.heap[w5.heap.size]? = some (.cells #[.int .i64 1, .string ⟨#[105, 116, 101, 109]⟩, .slice none 0 0, .slice (some ⟨w3.heap.size, 0, none⟩) 4 4, .int .i64 1, .string ⟨#[111, 114, 100, 101, 114]⟩, .slice none 0 0, .slice (some ⟨w4.heap.size, 0, none⟩) 3 3] 51 (0, 0)) := by rw [hwa]; exact heap_alloc_new w5 _
    have hsa : w5.heap.size < wa.heap.size := by rw [hwa]; simp
    rw [← hwa]
    have hb2a := hb25.trans (hba.mono hb25.size)
    have hb3a : Below w3.heap.size w3 wa := (hb4.trans (hb5.mono hb4.size)).trans (hba.mono (by omega))
    have hsz4 : w3.heap.size < w4.heap.size := by omega
    have hel : Elems 4 ChM.cs wa (· < wa.heap.size) (some ⟨w5.heap.size, 0, none⟩) [⟨1, nItem, ⟨none, 0, []⟩, ⟨some ⟨w3.heap.size, 0, none⟩, 4, iRow (md x 5 : Nat) (md y 7 : Nat)⟩⟩, ⟨1, nOrder, ⟨none, 0, []⟩, ⟨some ⟨w4.heap.size, 0, none⟩, 3, oRow (md x 5 : Nat) (md z 5 : Nat)⟩⟩] :=
      (elems_block chLay hga rfl (by show 2 ≤ maxLen; decide) rfl).more fun g hg => by
        have hg : g = w5.heap.size := hg
        rw [hg]; exact hsa
    refine (applyB wa (HSC.out wa hb2a) ((hin.on (hb4.trans (hb5.mono hb4.size))).on hba) hbg hel (fun q hq => ?_) (fun q hq => ?_) (by show 2 ≤ 24; omega)).mono ?_
    · simp only [List.mem_cons, List.not_mem_nil, or_false] at hq
      rcases hq with rfl | rfl
      · exact ⟨kOk_nil, (hel4.of fun g hg => ⟨(hba.block g (by omega)).trans (hb5.block g (by omega)), by omega⟩), by show 4 ≤ 12; decide⟩
      · exact ⟨kOk_nil, (hel5.of fun g hg => ⟨hba.block g (by omega), by omega⟩), by show 3 ≤ 12; decide⟩
    · simp only [List.mem_cons, List.not_mem_nil, or_false] at hq
      rcases hq with rfl | rfl
      · exact fit_item (by omega) (by omega)
      · exact fit_order (by omega) (by omega)
    · rintro e w6 ⟨hb6, ⟨R2, v6, hrun2, rfl, hin6, hbg6⟩ | ⟨hrun2, -⟩⟩
      · have he : R1 = R2 := Option.some.inj (hrun.symm.trans hrun2)
        subst he
        have hb26 := hb2a.trans (hb6.mono hb2a.size)
        exact ⟨v6, rfl, HBX.out w6 hb26, Lib.hid ⟨R1, hin6, htwo, hb26⟩⟩
      · have h := hrun.symm.trans hrun2
        cases h
  have s2 : (w2.cell? ⟨w1.heap.size, 0, none⟩ = some (.slice T 2 2) ∧ w2.cell? ⟨w1.heap.size, 1, none⟩ = some (.slice F 1 1) ∧ w2.cell? ⟨w1.heap.size, 2, none⟩ = some (.slice N2 1 1)) := HBX.out w2 (Below.refl _ _)
  clear HBI
  go_upto_region 2 with fail
  rw [← HW2.out]
  go_cut [10, 11] from 18 to 33 (fun v10 v11 wx => v11 = .int .i64 0 ∧ St39 (md x 5) w2 v10 wx)
  case first =>
    go_region_held3 (fun W => W.cell? ⟨w1.heap.size, 0, none⟩ = some (.slice T 2 2) ∧ W.cell? ⟨w1.heap.size, 1, none⟩ = some (.slice F 1 1) ∧ W.cell? ⟨w1.heap.size, 2, none⟩ = some (.slice N2 1 1)) (first | exact s2 | exact s3 | exact s4 | exact s5 | exact HSA.out _ | exact s6)
      (first
      | (go_at_call 11; refine HAC.out.mono ?_; rintro e w6 ⟨v6, rfl, s6, HF⟩)
      | (go_at_call 17; refine HOR.out.mono ?_; rintro e w5 ⟨A5, rfl, s5, HSA, HAC⟩)
      | (go_at_call 16; refine HIR.out.mono ?_; rintro e w4 ⟨A4, rfl, s4, HOR⟩)
      | (go_at_call 9; refine (HB0.out 1).mono ?_; rintro e w3 ⟨v3, rfl, s3, HIR⟩))
    all_goals
      clear s2 s3 s4 s5 s6
      go_wp2_with fail
      go_meet
      exact ⟨rfl, HF.out⟩
  case rest =>
  obtain ⟨rfl, R1, hin, htwo, hb6⟩ := hcut
  obtain ⟨w6, rfl⟩ : ∃ w6, w6 = wc := ⟨_, rfl⟩
  have HB6 := Lib.hid (And.intro hb6 (HB2.out.trans (hb6.mono HB2.out.size)))
  have HI6 := Lib.hid (And.intro hin htwo)
  clear hin htwo hb6 s2 HB0
  go_wp2_with fail
  refine (HIT.out w6).mono ?_
  rintro e w7 ⟨rfl, hel7, hb7, hs7⟩
  have hkel : Elems 3 Val.cs w7 (fun g => g = w6.heap.size) (some ⟨w6.heap.size, 0, none⟩) (ik (md x 5 : Nat)) := hel7.take 1
  obtain ⟨w8, hw8⟩ : ∃ w8, w8 = w7.alloc (.cells #[.int .i64 2, .string ⟨#[105, 116, 101, 109]⟩, .slice (some ⟨w6.heap.size, 0, none⟩) 1 4, .slice none 0 0] 51) := ⟨_, rfl⟩
  have hb8 : Below w7.heap.size w7 w8 := by rw [hw8]; exact (Below.refl _ _).alloc (Nat.le_refl _) _
  have hg8 : w8.heap[w7.heap.size]? = some (.cells #[.int .i64 2, .string ⟨#[105, 116, 101, 109]⟩, .slice (some ⟨w6.heap.size, 0, none⟩) 1 4, .slice none 0 0] 51 (0, 0)) := by rw [hw8]; exact heap_alloc_new w7 _
  have hs8 : w8.heap.size = w6.heap.size + 2 := by rw [hw8]; simp [hs7]
  have hb68 : Below w6.heap.size w6 w8 := hb7.trans (hb8.mono hb7.size)
  have hb28 := HB6.out.1.trans (hb68.mono HB6.out.1.size)
  have ho8 : Own 4 ChM.cs 51 w7.heap.size w8 (.slice (some ⟨w7.heap.size, 0, none⟩) 1 1) [(⟨2, nItem, ⟨some ⟨w6.heap.size, 0, none⟩, 4, ik (md x 5 : Nat)⟩, ⟨none, 0, []⟩⟩ : ChM)] :=
    Own.shut chmLay (Nat.le_refl _) hg8 rfl (Nat.le_refl _) (by unfold maxLen; decide) rfl rfl
  have HCH : Hid (∀ W, Below w8.heap.size w8 W → Elems 4 ChM.cs W (· < W.heap.size) (some ⟨w7.heap.size, 0, none⟩) [(⟨2, nItem, ⟨some ⟨w6.heap.size, 0, none⟩, 4, ik (md x 5 : Nat)⟩, ⟨none, 0, []⟩⟩ : ChM)] ∧ KOk (· < W.heap.size) W ⟨some ⟨w6.heap.size, 0, none⟩, 4, ik (md x 5 : Nat)⟩) := Lib.hid fun W hW => by
    have hsz := hW.size
    refine ⟨(ho8.elems chmLay.len rfl).of fun g hg => ?_, hkel.of fun g hg => ?_, by show 1 ≤ 12; decide⟩
    · have := Own.lt ho8 g hg
      exact ⟨hW.block g this.2, by omega⟩
    · have hg : g = w6.heap.size := hg
      exact ⟨(hW.block g (by omega)).trans (hb8.block g (by omega)), by omega⟩
  have HO8 := Lib.hid (And.intro ho8 (And.intro hs8 (And.intro hb28 (HB6.out.2.trans (hb68.mono HB6.out.2.size)))))
  have HI8 : Hid (∀ W, Below w8.heap.size w8 W → InB R1 W u10) := Lib.hid fun W hW => (HI6.out.1.on hb68).on hW
  have HSB : Hid (∀ W, Below w8.heap.size w8 W → (W.cell? ⟨w1.heap.size, 0, none⟩ = some (.slice T 2 2) ∧ W.cell? ⟨w1.heap.size, 1, none⟩ = some (.slice F 1 1) ∧ W.cell? ⟨w1.heap.size, 2, none⟩ = some (.slice N2 1 1))) := Lib.hid fun W hW => HBX.out W (hb28.trans (hW.mono hb28.size))
  have HDO : Hid (∀ m, Calls Tryz.prog 15 #[] (w8.drewN m) fun e wa => ∃ RA, e = .returned (.agg #[.int .i64 2, .string nItem, .slice RA 1 1]) ∧ (wa.cell? ⟨w1.heap.size, 0, none⟩ = some (.slice T 2 2) ∧ wa.cell? ⟨w1.heap.size, 1, none⟩ = some (.slice F 1 1) ∧ wa.cell? ⟨w1.heap.size, 2, none⟩ = some (.slice N2 1 1))
      ∧ Hid (∀ o, ((wa.alloc o).cell? ⟨w1.heap.size, 0, none⟩ = some (.slice T 2 2) ∧ (wa.alloc o).cell? ⟨w1.heap.size, 1, none⟩ = some (.slice F 1 1) ∧ (wa.alloc o).cell? ⟨w1.heap.size, 2, none⟩ = some (.slice N2 1 1)))
      ∧ Hid (Calls Tryz.prog 12 #[.agg #[.slice T 2 2, .slice F 1 1, .slice N2 1 1], u10, .slice (some ⟨wa.heap.size, 0, none⟩) 1 1, .slice (some ⟨w7.heap.size, 0, none⟩) 1 1] (wa.alloc (.cells #[.int .i64 2, .string nItem, .slice RA 1 1] 44)) fun e wb => ∃ a b, e = .returned (.tuple #[a, b, .int .i64 0]) ∧ (wb.cell? ⟨w1.heap.size, 0, none⟩ = some (.slice T 2 2) ∧ wb.cell? ⟨w1.heap.size, 1, none⟩ = some (.slice F 1 1) ∧ wb.cell? ⟨w1.heap.size, 2, none⟩ = some (.slice N2 1 1)) ∧ Hid (Q39 (md x 5) R1 w8 a b wb))) := Lib.hid fun m => by
    have hd : Below w8.heap.size w8 (w8.drewN m) := below_drewN (Below.refl _ _) m
    refine (deleteOrderW (w8.drewN m)).mono ?_
    rintro e wa ⟨RA, RB, rfl, htr, hba⟩
    have hb8a := hd.trans (hba.mono hd.size)
    refine ⟨RA, rfl, HSB.out wa hb8a, Lib.hid fun o => HSB.out _ (hb8a.alloc hb8a.size o), Lib.hid ?_⟩
    have hbo : Below w8.heap.size w8 (wa.alloc (.cells #[.int .i64 2, .string nItem, .slice RA 1 1] 44)) := hb8a.alloc hb8a.size _
    refine (expand2 (x := md x 5) (c0 := ⟨2, nItem, ⟨some ⟨w6.heap.size, 0, none⟩, 4, ik (md x 5 : Nat)⟩, ⟨none, 0, []⟩⟩) _ (HSC.out _ (hb28.trans (hbo.mono hb28.size))) (tgOk_one htr) (HI8.out _ hbo) HI6.out.2 ⟨rfl, rfl, rfl, rfl⟩ (HCH.out _ hbo).1 ⟨(HCH.out _ hbo).2, kOk_nil⟩).mono ?_
    intro e wb h
    obtain ⟨a, b, he, hb7, hq⟩ := ex2_q h hbo
    exact ⟨a, b, he, HSB.out wb hb7, Lib.hid hq⟩
  have HR1 := Lib.hid (And.intro (HI6.out.2.bg.len (i := 0) (by omega)) (HI6.out.2.bg.len (i := 1) (by omega)))
  have s8 := HSB.out w8 (Below.refl _ _)
  have HW8 := Lib.hid hw8
  have HG8 := Lib.hid hg8
  clear hel7 hkel hb7 hs7 hw8 hb8 hg8 hs8 hb68 hb28 ho8 HIT
  go_wp2_with fail
  rw [← HW8.out]
  go_cut [11, 14, 15] from 43 to 52 (fun v11 v14 v15 wx => v11 = .int .i64 0 ∧ Q39 (md x 5) R1 w8 v14 v15 wx)
  case first =>
    go_region_held3 (fun W => (W.cell? ⟨w1.heap.size, 0, none⟩ = some (.slice T 2 2) ∧ W.cell? ⟨w1.heap.size, 1, none⟩ = some (.slice F 1 1) ∧ W.cell? ⟨w1.heap.size, 2, none⟩ = some (.slice N2 1 1))) (first | exact s8 | exact sa | exact HSA.out _ | exact sb)
      (first
      | (go_at_call 12; refine HEX.out.mono ?_; rintro e wb ⟨a, b, rfl, sb, HQ⟩)
      | (go_at_call 15; refine (HDO.out 1).mono ?_; rintro e wa ⟨RA, rfl, sa, HSA, HEX⟩))
    all_goals
      clear s8 sa sb
      go_wp2_with fail
      go_meet
      exact ⟨rfl, HQ.out⟩
  case rest =>
  obtain ⟨rfl, R2, c1, c2, QA, qc, rfl, hb9, hl0, hl1, hbg9, hd1, hd2, hel9, hco9, hin9⟩ := hcut
  obtain ⟨w9, rfl⟩ : ∃ w9, w9 = wc := ⟨_, rfl⟩
  have HPU : Hid (∀ ty, ∃ va wa, (Builtin.append_ #[32, 32] ty #[.slice (some ⟨w7.heap.size, 0, none⟩) 1 1, .slice (some ⟨w9.heap.size, 0, none⟩) 1 1]).run Tryz.prog (w9.alloc (.cells #[.int .i64 2, .string ⟨#[111, 114, 100, 101, 114]⟩, .slice (some ⟨w6.heap.size, 0, none⟩) 1 4, .slice none 0 0] 51)) = .ok va wa
      ∧ ∃ WA wc, va = .slice WA 2 wc ∧ Hid (Below w.heap.size w wa ∧ InB R1 wa u10 ∧ InB R2 wa u15 ∧ Calls Tryz.prog 13 #[.slice QA 2 qc, .slice WA 2 wc] wa fun e w' => e = .returned (.bool true) ∧ Below wa.heap.size wa w')) := Lib.hid fun ty => by
    obtain ⟨wc, wa, WA, hrun, hba, hela⟩ := push_two ty w9 (d0 := ⟨2, nItem, ⟨some ⟨w6.heap.size, 0, none⟩, 4, ik (md x 5 : Nat)⟩, ⟨none, 0, []⟩⟩) (d1 := ⟨2, nOrder, ⟨some ⟨w6.heap.size, 0, none⟩, 4, ik (md x 5 : Nat)⟩, ⟨none, 0, []⟩⟩) (v := #[.int .i64 2, .string ⟨#[111, 114, 100, 101, 114]⟩, .slice (some ⟨w6.heap.size, 0, none⟩) 1 4, .slice none 0 0]) ((hb9.block _ (Own.lt HO8.out.1 _ rfl).2).trans HG8.out) rfl rfl
    have hb8a := hb9.trans (hba.mono hb9.size)
    have hk := (HCH.out wa hb8a).2
    refine ⟨_, wa, hrun, WA, wc, rfl, Lib.hid ⟨HO8.out.2.2.2.trans (hb8a.mono HO8.out.2.2.2.size), HI8.out wa hb8a, hin9.on hba, ?_⟩⟩
    refine (changesEqualK QA WA qc wc 2 [c1, c2] _ wa (hel9.on hba) hela (fun q hq => (hco9 q hq).on hba) (fun q hq => ?_) ?_ rfl (by omega)).mono fun e w' ⟨h1, n, h2⟩ => ⟨h1, by rw [h2]; exact below_drewN (Below.refl _ _) n⟩
    · simp only [List.mem_cons, List.not_mem_nil, or_false] at hq
      rcases hq with rfl | rfl
      · exact ⟨hk, kOk_nil⟩
      · exact ⟨hk, kOk_nil⟩
    · show [c1.d, c2.d] = _
      rw [hd1, hd2]
      rfl
  have hg0 := hbg9.len (i := 0) (by omega)
  have hg1 := hbg9.len (i := 1) (by omega)
  have HR2 : Hid (((R1 0).length + (R1 1).length = (R2 0).length + (R2 1).length + 2) ∧ (R2 0).length ≤ 8 ∧ (R2 1).length ≤ 8) := Lib.hid ⟨by omega, hg0, hg1⟩
  clear hb9 hl0 hl1 hbg9 hd1 hd2 hel9 hco9 hin9 hg0 hg1
  go_wp2_with (at_builtin; refine wpList_app rfl (.tmp 53) (.tmp 56) _ _ rfl rfl rfl (HPU.out _) ?_; rintro va wa ⟨WA, wc, rfl, HF⟩)
  refine HF.out.2.2.2.mono ?_
  rintro e wb ⟨rfl, hbb⟩
  have HBb := Lib.hid (And.intro (HF.out.1.trans (hbb.mono HF.out.1.size)) hbb)
  have HC1 := Lib.hid (rowCountB R2 u15 wb (HF.out.2.2.1.on hbb) (by have := HR2.out; omega) (by have := HR2.out; omega))
  have HC2 : Hid (∀ W, Below wb.heap.size wb W → Calls Tryz.prog 18 #[u10] W fun e w' => e = .returned (.int .i64 (((R1 0).length + (R1 1).length : Nat) : Int)) ∧ Below W.heap.size W w') := Lib.hid fun W hW => rowCountB R1 u10 W ((HF.out.2.1.on hbb).on hW) (by have := HR1.out; omega) (by have := HR1.out; omega)
  have hsum := HR2.out.1
  have hn2 : (R2 0).length + (R2 1).length ≤ 16 := by have := HR2.out; omega
  rw [hsum] at HC2
  generalize (R2 0).length + (R2 1).length = nn at *
  clear hbb hsum
  go_wp2_with fail
  refine HC1.out.mono ?_
  rintro e wd ⟨rfl, hbd⟩
  have HC3 := Lib.hid (HC2.out wd hbd)
  have HBd := Lib.hid (HBb.out.1.trans (hbd.mono HBb.out.1.size))
  clear hbd HC2
  go_wp2_with fail
  refine HC3.out.mono ?_
  rintro e we ⟨rfl, hbe⟩
  have HFin := Lib.hid (HBd.out.trans (hbe.mono HBd.out.size))
  clear hbe
  go_wp2_with fail
  go_ret
  exact ⟨by simp, HFin.out⟩
end Go.Proofs.YtefifkleamiabaaGreatDoor
