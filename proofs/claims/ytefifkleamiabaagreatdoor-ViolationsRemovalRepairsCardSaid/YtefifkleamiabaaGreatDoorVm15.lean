/-
  The walk of the reference's rowsOf.
  The walks of schema.CloneTable and instance.Table.
  The walk of instance.Table.
  The walk of instance.References at a foreign key of one column.
  The walks of value.Satisfies at an int or a null and a constant, and of instance.Satisfies.
  Violations in memory; the walk of violations.foreignKeys.
-/
import Derived.Test.YtefifkleamiabaaGreatDoorVm14
import Derived.Test.YtefifkleamiabaaGreatDoorVm10
namespace Go.Proofs.YtefifkleamiabaaGreatDoor
open Go.RowKit Go.Sort

theorem tabI_before {name : ByteArray} {ts : List Tbl} {i : Nat} (hn : tabI name ts = (i : Int)) : ∀ (j : Nat) (hj : j < ts.length), j < i → (ts[j].name.toList == name.toList) = false := fun j hj hji => by
  cases hb : (ts[j].name.toList == name.toList) with
  | false => rfl
  | true =>
    have hany : ts.any (fun t => t.name.toList == name.toList) = true := List.any_eq_true.2 ⟨_, List.getElem_mem hj, hb⟩
    unfold tabI fidx at hn
    rw [if_pos hany] at hn
    have hle : ts.findIdx (fun t => t.name.toList == name.toList) ≤ j := Nat.le_of_not_lt fun h => by
      have h2 := List.not_of_lt_findIdx h
      simp only [hb] at h2
      cases h2
    omega
theorem tabI_at {name : ByteArray} {ts : List Tbl} {i : Nat} (hn : tabI name ts = (i : Int)) (hi : i < ts.length) : (ts[i].name.toList == name.toList) = true := by
  unfold tabI fidx at hn
  by_cases hany : ts.any (fun t => t.name.toList == name.toList) = true
  · rw [if_pos hany] at hn
    have hii : ts.findIdx (fun t => t.name.toList == name.toList) = i := by omega
    have h := List.findIdx_getElem (xs := ts) (p := fun t => t.name.toList == name.toList) (w := by rw [hii]; exact hi)
    simpa [hii] using h
  · rw [if_neg hany] at hn
    omega

set_option maxRecDepth 100000 in
set_option maxHeartbeats 4000000 in
theorem rRowsOf (s : Sc) (A : Option Addr) (c : Nat) (rs : List RelM) (name : ByteArray) (i : Nat) (w : World) (hs : ScOk (· < w.heap.size) w s) (hin : Elems 2 RelM.cs w (· < w.heap.size) A rs) (hl : s.tabs.length ≤ 1000) (hi : i < s.tabs.length) (hir : i < rs.length) (hn : tabI name s.tabs = (i : Int)) :
    Calls Tryz.prog 48 #[s.v, .slice A rs.length c, .string name] w fun e w' => e = .returned (.slice (rs[i]'hir).A (rs[i]'hir).rows.length (rs[i]'hir).c) ∧ Below w.heap.size w w' := by
  have hlt := tabI_before hn
  have hat := tabI_at hn hi
  obtain ⟨n, hn2⟩ : ∃ n, s.tabs.length = n := ⟨_, rfl⟩
  obtain ⟨m, hm2⟩ : ∃ m, rs.length = m := ⟨_, rfl⟩
  obtain ⟨w1, hw1⟩ : ∃ w1, w1 = w.alloc (.cells #[.slice s.TA n s.tc, .slice s.FA s.fks.length s.fc, .slice s.NA s.cns.length s.nc] 27) := ⟨_, rfl⟩
  have hb1 : Below w.heap.size w w1 := by rw [hw1]; exact (Below.refl _ _).alloc (Nat.le_refl _) _
  have hg1 : w1.heap[w.heap.size]? = some (.cells #[.slice s.TA n s.tc, .slice s.FA s.fks.length s.fc, .slice s.NA s.cns.length s.nc] 27 (0, 0)) := by rw [hw1]; exact heap_alloc_new w _
  have c0 := cell_of_row _ _ 0 _ _ _ hg1
  have HT := Lib.hid hs
  have HRL : Hid (∀ W, Below w.heap.size w W → _) := Lib.hid fun W (hW : Below w.heap.size w W) => (hin.of fun g hg => ⟨hW.block g hg, Nat.lt_of_lt_of_le hg hW.size⟩ : Elems 2 RelM.cs W (· < W.heap.size) A rs).rel hir
  have HLT := Lib.hid hlt
  have HAT := Lib.hid hat
  have HN := Lib.hid hn2
  have HB1 := Lib.hid hb1
  have HW1 := Lib.hid hw1
  have hin : i < n := by omega
  have him : (i : Int) < (m : Int) := by omega
  have hn1000 : n ≤ 1000 := by omega
  unfold Sc.v Sc.cells
  rw [hn2, hm2]
  generalize (rs[i]'hir) = r at *
  obtain ⟨rn, rA, rc, rr⟩ := r
  simp only at *
  clear hs hl hn hlt hat hw1 hb1 hg1 hn2 hm2 hir
  go_enter Tryz.func48, Tryz.ntmps48
  go_upto_region 1 with fail
  rw [← HW1.out]
  go_wp2_with fail
  go_loopw [12] (fun vi wr => ∃ k : Nat, vi = .int .i64 (k : Int) ∧ k ≤ i ∧ Below w1.heap.size w1 wr) (fun vi _ => i - (intOf vi).toNat)
  case atStart => exact ⟨0, rfl, by omega, Below.refl _ _⟩
  case round =>
    obtain ⟨k, rfl, hki, hb⟩ := hrel
    obtain ⟨wo, rfl⟩ : ∃ wo, wo = wr := ⟨_, rfl⟩
    have hkt : k < s.tabs.length := by have := HN.out; omega
    have hb0 := HB1.out.trans (hb.mono HB1.out.size)
    obtain ⟨tb, toff, hTA, -, p0, p1, p2⟩ := (HT.out.on hb0).tabs.tbl hkt
    have hkn : (k : Int) < (n : Int) := by omega
    have HLK : Hid (k < i → (s.tabs[k].name.toList == name.toList) = false) := Lib.hid (HLT.out k hkt)
    have HAK : Hid (k = i → (s.tabs[k].name.toList == name.toList) = true) := Lib.hid fun h => by subst h; exact HAT.out
    generalize s.tabs[k] = t at *
    obtain ⟨w5, hw5⟩ : ∃ w5, w5 = wo.alloc (.cells #[.string t.name, .slice t.CA t.cols.length t.cc, .slice t.PA t.pk.length t.pc] 71) := ⟨_, rfl⟩
    have hb5 : Below wo.heap.size wo w5 := by rw [hw5]; exact (Below.refl _ _).alloc (Nat.le_refl _) _
    have hg5 : w5.heap[wo.heap.size]? = some (.cells #[.string t.name, .slice t.CA t.cols.length t.cc, .slice t.PA t.pk.length t.pc] 71 (0, 0)) := by rw [hw5]; exact heap_alloc_new wo _
    have t0 := cell_of_row _ _ 0 _ _ _ hg5
    obtain ⟨rb, roff, hRA, -, -, q1⟩ := HRL.out w5 (hb0.trans (hb5.mono hb0.size))
    have HF := Lib.hid (And.intro (hb.trans (hb5.mono hb.size)) (hb0.trans (hb5.mono hb0.size)))
    have HW5 := Lib.hid hw5
    clear hb hb0 hb5 hg5 hw5 HLT HAT
    rw [hTA, hRA]
    go_upto_region 4 with fail
    rw [← HW5.out]
    by_cases hlt : k < i
    · have hb := HLK.out hlt
      clear HLK HAK
      generalize t.name = nm at *
      go_wp2_with fail
      go_roundw
      case rel => exact ⟨k + 1, by go_num, by omega, HF.out.1⟩
      case measure => simp [intOf]; omega
    · have hki' : k = i := by omega
      have hb := HAK.out hki'
      subst hki'
      clear HLK HAK
      generalize t.name = nm at *
      go_wp2_with fail
      go_ret
      exact ⟨rfl, HF.out.2⟩
end Go.Proofs.YtefifkleamiabaaGreatDoor

namespace Go.Proofs.YtefifkleamiabaaGreatDoor
open Go.RowKit Go.Sort

/-- A table's copy, made behind w. -/
def TabCopy (w : World) (t : Tbl) (e : Ending) (w' : World) : Prop :=
  ∃ A c A2 c2, e = .returned (.agg #[.string t.name, .slice A t.cols.length c, .slice A2 t.pk.length c2]) ∧ TOk (fun g => w.heap.size ≤ g ∧ g < w'.heap.size) w' ⟨t.name, A, c, t.cols, A2, c2, t.pk⟩ ∧ Below w.heap.size w w'
/-- The table's box. -/
def TBx (B : Nat) (t : Tbl) (W : World) : Prop := W.cell? ⟨B, 0, none⟩ = some (.string t.name) ∧ W.cell? ⟨B, 1, none⟩ = some (.slice t.CA t.cols.length t.cc) ∧ W.cell? ⟨B, 2, none⟩ = some (.slice t.PA t.pk.length t.pc)
theorem TBx.below {B : Nat} {t : Tbl} {W W' : World} (h : TBx B t W) (hB : B < W.heap.size) (hb : Below W.heap.size W W') : TBx B t W' :=
  ⟨(hb.cell (p := ⟨B, 0, none⟩) hB).trans h.1, (hb.cell (p := ⟨B, 1, none⟩) hB).trans h.2.1, (hb.cell (p := ⟨B, 2, none⟩) hB).trans h.2.2⟩
/-- The result's box, empty as yet. -/
def RBx (B : Nat) (W : World) : Prop := W.heap[B]? = some (.cells #[.string ⟨#[]⟩, .slice none 0 0, .slice none 0 0] 71 (0, 0))
theorem RBx.cells {B : Nat} {W : World} (h : RBx B W) : W.cell? ⟨B, 0, none⟩ = some (.string ⟨#[]⟩) ∧ W.cell? ⟨B, 1, none⟩ = some (.slice none 0 0) ∧ W.cell? ⟨B, 2, none⟩ = some (.slice none 0 0) ∧ W.frozen? ⟨B, 0, none⟩ = false ∧ W.frozen? ⟨B, 1, none⟩ = false ∧ W.frozen? ⟨B, 2, none⟩ = false :=
  ⟨cell_of_row _ _ 0 _ _ _ h, cell_of_row _ _ 1 _ _ _ h, cell_of_row _ _ 2 _ _ _ h, frozen_of_row _ _ 0 _ _ h, frozen_of_row _ _ 1 _ _ h, frozen_of_row _ _ 2 _ _ h⟩
theorem ret_tab {a b c : Value} {g : Nat} {w : World} (tmps : Array Value) (hp : tmps.getD 2 undef = .pointer (some ⟨g, 0, none⟩)) (hg : w.heap[g]? = some (.cells #[a, b, c] 71 (0, 0))) :
    (results Tryz.f116 tmps).run Tryz.prog w = .ok (.agg #[a, b, c]) w :=
  results_cell_row (P := Tryz.prog) Tryz.results116 tmps w g 71 _ (0, 0) _ hp hg Tryz.underlying71 rfl (by kernel_rfl)
/-- Behind the columns' clone. -/
def CtK (w w1 : World) (t : Tbl) (B : Nat) (e : Ending) (w2 : World) : Prop :=
  ∃ A c, e = .returned (.slice A t.cols.length c) ∧ TBx B t w2 ∧ Hid (Calls Tryz.prog 131 #[.slice t.PA t.pk.length t.pc] w2 fun e w3 => ∃ A2 c2, e = .returned (.slice A2 t.pk.length c2) ∧ TBx B t w3 ∧ RBx (B + 1) w3 ∧ TOk (fun g => w1.heap.size ≤ g ∧ g < w3.heap.size) w3 ⟨t.name, A, c, t.cols, A2, c2, t.pk⟩ ∧ Below w.heap.size w w3)
theorem ctk (t : Tbl) (w w1 : World) (hb1 : Below w.heap.size w w1) (ht : TOk (· < w.heap.size) w t) (hl : t.cols.length ≤ 1000 ∧ t.pk.length ≤ 1000) (B : Nat) (hB : B + 1 < w1.heap.size) (hx : TBx B t w1) (hr : RBx (B + 1) w1) (m : Nat) :
    Calls Tryz.prog 130 #[.slice t.CA t.cols.length t.cc] (w1.drewN m) (CtK w w1 t B) := by
  have hd : Below w1.heap.size w1 (w1.drewN m) := below_drewN (Below.refl _ _) m
  have hbd := hb1.trans (hd.mono hb1.size)
  have ht1 := ht.on hbd
  refine (cloneCols t.CA _ t.cc t.cols (w1.drewN m) _ ht1.cols (fun _ h => h) rfl (by omega)).mono ?_
  rintro e w2 ⟨v, rfl, ho, hb2⟩
  obtain ⟨A, c, rfl, -, -⟩ := ho.form
  have hb12 : Below w1.heap.size w1 w2 := hd.trans (hb2.mono hd.size)
  have hb02 : Below w.heap.size w w2 := hb1.trans (hb12.mono hb1.size)
  refine ⟨A, c, rfl, hx.below (by omega) hb12, Lib.hid ?_⟩
  refine (cloneInts t.PA _ t.pc t.pk w2 _ (ht.on hb02).pk (fun _ h => h) rfl (by omega)).mono ?_
  rintro e w3 ⟨v, rfl, ho3, hb3⟩
  obtain ⟨A2, c2, rfl, -, -⟩ := ho3.form
  have hb23 : Below w2.heap.size w2 w3 := hb3
  have hb03 := hb02.trans (hb23.mono hb02.size)
  refine ⟨A2, c2, rfl, hx.below (by omega) (hb12.trans (hb23.mono hb12.size)), ((hb12.trans (hb23.mono hb12.size)).block _ hB).trans hr, ⟨?_, ?_⟩, hb03⟩
  · have he : Elems 3 Col.cs w2 (fun g => w1.heap.size ≤ g ∧ g < w2.heap.size) A t.cols := (ho.elems colLay.len rfl).more fun g hg => ⟨Nat.le_trans hd.size (Own.lt ho g hg).1, (Own.lt ho g hg).2⟩
    exact (he.keep fun g hg => hb23.block g hg.2).more fun g hg => ⟨hg.1, Nat.lt_of_lt_of_le hg.2 hb23.size⟩
  · exact (ho3.elems intLay.len rfl).more fun g hg => ⟨Nat.le_trans hb12.size (Own.lt ho3 g hg).1, (Own.lt ho3 g hg).2⟩

set_option maxRecDepth 100000 in
set_option maxHeartbeats 4000000 in
theorem cloneTab (t : Tbl) (w : World) (ht : TOk (· < w.heap.size) w t) (hl : t.cols.length ≤ 1000 ∧ t.pk.length ≤ 1000) :
    Calls Tryz.prog 116 #[t.val] w (TabCopy w t) := by
  obtain ⟨w1, hw1⟩ : ∃ w1, w1 = (w.alloc (.cells #[.string t.name, .slice t.CA t.cols.length t.cc, .slice t.PA t.pk.length t.pc] 71)).alloc (.cells #[.string ⟨#[]⟩, .slice none 0 0, .slice none 0 0] 71) := ⟨_, rfl⟩
  have hb1 : Below w.heap.size w w1 := by rw [hw1]; exact ((Below.refl _ _).alloc (Nat.le_refl _) _).alloc (le_size1 (Nat.le_refl _) _) _
  have hg1 : w1.heap[w.heap.size]? = some (.cells #[.string t.name, .slice t.CA t.cols.length t.cc, .slice t.PA t.pk.length t.pc] 71 (0, 0)) := by
    rw [hw1, Below.heap_alloc _ _ _ (by simp)]
    exact heap_alloc_new w _
  have hg2 : w1.heap[w.heap.size + 1]? = some (.cells #[.string ⟨#[]⟩, .slice none 0 0, .slice none 0 0] 71 (0, 0)) := by rw [hw1]; exact alloc2_at w _ _
  have hs1 : w1.heap.size = w.heap.size + 2 := by rw [hw1]; simp
  have s0 : TBx w.heap.size t w1 := ⟨cell_of_row _ _ 0 _ _ _ hg1, cell_of_row _ _ 1 _ _ _ hg1, cell_of_row _ _ 2 _ _ _ hg1⟩
  have HC := Lib.hid (ctk t w w1 hb1 ht hl w.heap.size (by omega) s0 hg2)
  have HW1 := Lib.hid hw1
  have HS1 := Lib.hid hs1
  unfold Tbl.val
  unfold TBx at s0
  clear ht hl hb1 hg1 hg2 hw1 hs1
  go_enter Tryz.func116, Tryz.ntmps116
  go_upto_region 1 with fail
  rw [← HW1.out]
  go_region_law (first
    | (go_simp; go_at_call 130; refine (HC.out _).mono ?_; rintro e w2 ⟨A1, c1, rfl, s2, HK2⟩; have s2 := s2; unfold TBx at s2)
    | (go_simp; go_at_call 131; refine HK2.out.mono ?_; rintro e w3 ⟨A2, c2, rfl, s3, rb3, hfin⟩; have r3 := RBx.cells rb3; unfold TBx at s3))
  all_goals
    have HF := Lib.hid (And.intro rb3 (And.intro hfin.1 (And.intro HS1.out hfin.2)))
    clear rb3 hfin
    go_wp2_with fail
    refine bodyPost_ret (ret_tab _ rfl (set3 HF.out.1)) rfl ?_
    have hS := HF.out.2.2.1
    exact ⟨_, _, _, _, rfl, ⟨HF.out.2.1.1.of fun g hg => ⟨by rw [Below.heap_setCell _ _ _ _ (by show g ≠ w.heap.size + 1; omega), Below.heap_setCell _ _ _ _ (by show g ≠ w.heap.size + 1; omega), Below.heap_setCell _ _ _ _ (by show g ≠ w.heap.size + 1; omega)], by omega, by simpa [World.setCell] using hg.2⟩, HF.out.2.1.2.of fun g hg => ⟨by rw [Below.heap_setCell _ _ _ _ (by show g ≠ w.heap.size + 1; omega), Below.heap_setCell _ _ _ _ (by show g ≠ w.heap.size + 1; omega), Below.heap_setCell _ _ _ _ (by show g ≠ w.heap.size + 1; omega)], by omega, by simpa [World.setCell] using hg.2⟩⟩,
      ((HF.out.2.2.2.setCell (p := ⟨w.heap.size + 1, 0, none⟩) (by simp) _).setCell (p := ⟨w.heap.size + 1, 1, none⟩) (by simp) _).setCell (p := ⟨w.heap.size + 1, 2, none⟩) (by simp) _⟩
end Go.Proofs.YtefifkleamiabaaGreatDoor

namespace Go.Proofs.YtefifkleamiabaaGreatDoor
open Go.RowKit Go.Sort

theorem results_ct {P : Program} {fn : Func} {p q : Tmp} {ty : TypeId} (h : fn.results = #[.cell p ty, .tmp q]) (tmps : Array Value) (w : World) (g : Nat) (t : TypeId) (cs : Array Value) (fr : Nat × Nat) (d : TypeDesc) (u : Value)
    (hp : tmps.getD p undef = .pointer (some ⟨g, 0, none⟩)) (hq : tmps.getD q undef = u) (hg : w.heap[g]? = some (.cells cs t fr))
    (hu : P.underlying ty = some d) (hd : (match d with | .struct _ | .array _ _ => true | _ => false) = true) (hi : (P.info? ty).map (·.size) = some cs.size) :
    (results fn tmps).run P w = .ok (.tuple #[.agg cs, u]) w := by
  have hp' : tmps[p]?.getD undef = .pointer (some ⟨g, 0, none⟩) := by simpa using hp
  have hq' : tmps[q]?.getD undef = u := by simpa using hq
  simp [results, h, hp', hq', asAddr, run_loadVar_row w g t ty cs fr d hg hu hd hi]

/-- A table's description and its rows, found by name. -/
def TabAns (w : World) (t : Tbl) (rows : List Row) (e : Ending) (w' : World) : Prop :=
  ∃ A c A2 c2 A3 n c3 ks, e = .returned (.tuple #[.agg #[.string t.name, .slice A t.cols.length c, .slice A2 t.pk.length c2], .slice A3 n c3]) ∧ TOk (fun g => w.heap.size ≤ g ∧ g < w'.heap.size) w' ⟨t.name, A, c, t.cols, A2, c2, t.pk⟩ ∧ RsOk (fun g => w.heap.size ≤ g ∧ g < w'.heap.size) w' A3 ks ∧ n = ks.length ∧ ks.map Key.row = rows ∧ Below w.heap.size w w'

/-- The result's box is written. -/
def setR (R : Nat) (a b c : Value) (W : World) : World := ((W.setCell ⟨R, 0, none⟩ a).setCell ⟨R, 1, none⟩ b).setCell ⟨R, 2, none⟩ c
theorem setR_off {R i : Nat} {a b c : Value} {W : World} (h : i ≠ R) : (setR R a b c W).heap[i]? = W.heap[i]? := by
  unfold setR
  rw [Below.heap_setCell _ _ _ _ h, Below.heap_setCell _ _ _ _ h, Below.heap_setCell _ _ _ _ h]
theorem setR_size {R : Nat} {a b c : Value} {W : World} : (setR R a b c W).heap.size = W.heap.size := by simp [setR, World.setCell]
theorem setR_below {R B : Nat} {a b c : Value} {w W : World} (h : Below B w W) (hR : B ≤ R) : Below B w (setR R a b c W) :=
  ((h.setCell (p := ⟨R, 0, none⟩) hR _).setCell (p := ⟨R, 1, none⟩) hR _).setCell (p := ⟨R, 2, none⟩) hR _
/-- Behind the rows' clone. -/
def TwK (w : World) (t : Tbl) (B R : Nat) (rows : List Row) (e : Ending) (w5 : World) : Prop :=
  ∃ A3 n3 c3, e = .returned (.slice A3 n3 c3) ∧ TBx B t w5 ∧ RBx R w5 ∧ Hid (∀ a b c, TOk (fun g => w.heap.size ≤ g ∧ g < (setR R a b c w5).heap.size) (setR R a b c w5) t ∧ (∃ ks, RsOk (fun g => w.heap.size ≤ g ∧ g < (setR R a b c w5).heap.size) (setR R a b c w5) A3 ks ∧ n3 = ks.length ∧ ks.map Key.row = rows) ∧ Below w.heap.size w (setR R a b c w5))
theorem twk {w w4 : World} {t : Tbl} {B R : Nat} {A : Option Addr} {c : Nat} {ks : List Key} (hb : Below w.heap.size w w4) (hr : RsOk (· < w4.heap.size) w4 A ks) (hl : ks.length ≤ 1000) (ht : TOk (fun g => R < g ∧ g < w4.heap.size) w4 t) (hbx : TBx B t w4) (hB : B < w4.heap.size) (hrb : RBx R w4) (hR : w.heap.size ≤ R ∧ R < w4.heap.size) (m : Nat) :
    Calls Tryz.prog 71 #[.slice A ks.length c] (w4.drewN m) (TwK w t B R (ks.map Key.row)) := by
  have hd : Below w4.heap.size w4 (w4.drewN m) := below_drewN (Below.refl _ _) m
  refine (relClone A c ks (w4.drewN m) (hr.on hd) hl).mono ?_
  rintro e w5 ⟨v, ks', rfl, hro⟩
  obtain ⟨A3, c3, rfl, -, -⟩ := hro.own.form
  have hb5 : Below w4.heap.size w4 w5 := hd.trans (hro.bel.mono hd.size)
  refine ⟨A3, _, c3, rfl, hbx.below hB hb5, (hb5.block R hR.2).trans hrb, Lib.hid fun a b c => ⟨?_, ⟨ks', ?_, rfl, hro.rows⟩, setR_below (hb.trans (hb5.mono hb.size)) hR.1⟩⟩
  · exact ht.of fun g hg => ⟨(setR_off (by omega)).trans (hb5.block g hg.2), by omega, by rw [setR_size]; exact Nat.lt_of_lt_of_le hg.2 hb5.size⟩
  · have h := hro.rsb
    have hs := hd.size
    exact ⟨h.el.of fun g hg => ⟨setR_off (by omega), by omega, by rw [setR_size]; exact hg.2⟩, fun x hx => (h.row x hx).of fun g hg => ⟨setR_off (by omega), by omega, by rw [setR_size]; exact hg.2⟩⟩
theorem ret_tabs {a b c v : Value} {g : Nat} {w : World} (tmps : Array Value) (hp : tmps.getD 6 undef = .pointer (some ⟨g, 0, none⟩)) (h7 : tmps.getD 7 undef = v) (hg : w.heap[g]? = some (.cells #[a, b, c] 71 (0, 0))) :
    (results Tryz.f85 tmps).run Tryz.prog w = .ok (.tuple #[.agg #[a, b, c], v]) w :=
  results_ct (P := Tryz.prog) Tryz.results85 tmps w g 71 _ (0, 0) _ _ hp h7 hg Tryz.underlying71 rfl (by kernel_rfl)

set_option maxRecDepth 100000 in
set_option maxHeartbeats 4000000 in
theorem tableW (s : Sc) (A : Option Addr) (c : Nat) (rs : List RelM) (i : Nat) (name : ByteArray) (w : World) (hs : ScOk (· < w.heap.size) w s) (hl : s.tabs.length ≤ 1000) (hi : i < s.tabs.length) (hir : i < rs.length) (hn : tabI name s.tabs = (i : Int)) (hin : InOk (· < w.heap.size) w A rs)
    (htl : s.tabs[i].cols.length ≤ 1000 ∧ s.tabs[i].pk.length ≤ 1000) (hrl : rs[i].rows.length ≤ 1000) :
    Calls Tryz.prog 85 #[s.v, .slice A rs.length c, .string name] w (TabAns w s.tabs[i] (rs[i].rows.map Key.row)) := by
  obtain ⟨w1, hw1⟩ : ∃ w1, w1 = (w.alloc (.cells s.cells 27)).alloc (.cells #[.string ⟨#[]⟩, .slice none 0 0, .slice none 0 0] 71) := ⟨_, rfl⟩
  have hb1 : Below w.heap.size w w1 := by rw [hw1]; exact ((Below.refl _ _).alloc (Nat.le_refl _) _).alloc (le_size1 (Nat.le_refl _) _) _
  have hg1 : w1.heap[w.heap.size]? = some (.cells s.cells 27 (0, 0)) := by
    rw [hw1, Below.heap_alloc _ _ _ (by simp)]
    exact heap_alloc_new w _
  have hg2 : w1.heap[w.heap.size + 1]? = some (.cells #[.string ⟨#[]⟩, .slice none 0 0, .slice none 0 0] 71 (0, 0)) := by rw [hw1]; exact alloc2_at w _ _
  have hs1 : w1.heap.size = w.heap.size + 2 := by rw [hw1]; simp
  have HBX : Hid (∀ W, Below w1.heap.size w1 W → (W.cell? ⟨w.heap.size, 0, none⟩ = some (.slice s.TA s.tabs.length s.tc) ∧ W.cell? ⟨w.heap.size, 1, none⟩ = some (.slice s.FA s.fks.length s.fc) ∧ W.cell? ⟨w.heap.size, 2, none⟩ = some (.slice s.NA s.cns.length s.nc)) ∧ RBx (w.heap.size + 1) W) := Lib.hid fun W hW => by
    have h := (hW.block w.heap.size (by omega)).trans hg1
    exact ⟨⟨cell_of_row _ _ 0 _ _ _ h, cell_of_row _ _ 1 _ _ _ h, cell_of_row _ _ 2 _ _ _ h⟩, (hW.block _ (by omega)).trans hg2⟩
  have HFT : Hid (∀ W, Below w.heap.size w W → Calls Tryz.prog 66 #[s.v, .string name] W fun e w' => e = .returned (findV (i : Int)) ∧ Below W.heap.size W w') := Lib.hid fun W hW => by
    have h := findTable s name W (hs.on hW) hl
    rw [hn] at h
    exact h
  have HCT : Hid (∀ W, Below w.heap.size w W → Calls Tryz.prog 116 #[(s.tabs[i]'hi).val] W (TabCopy W (s.tabs[i]'hi))) := Lib.hid fun W hW => cloneTab _ W ((hs.on hW).tab _ (List.getElem_mem hi)) htl
  have HTB : Hid (∀ W, Below w.heap.size w W → _) := Lib.hid fun W (hW : Below w.heap.size w W) => (hs.on hW).tabs.tbl hi
  have HRL : Hid (∀ W, Below w.heap.size w W → _) := Lib.hid fun W (hW : Below w.heap.size w W) => (hin.on hW).el.rel hir
  have HRS : Hid ((∀ W, Below w.heap.size w W → RsOk (· < W.heap.size) W (rs[i]'hir).A (rs[i]'hir).rows) ∧ (rs[i]'hir).rows.length ≤ 1000) := Lib.hid ⟨fun W hW => (hin.on hW).rel _ (List.getElem_mem hir), hrl⟩
  have HB1 := Lib.hid (And.intro hb1 hs1)
  have HW1 := Lib.hid hw1
  obtain ⟨n, hnn⟩ : ∃ n, s.tabs.length = n := ⟨_, rfl⟩
  obtain ⟨m, hmm⟩ : ∃ m, rs.length = m := ⟨_, rfl⟩
  have him : (i : Int) < (m : Int) := by omega
  have hin2 : (i : Int) < (n : Int) := by omega
  have hmi : ¬ ((m : Int) ≤ (i : Int)) := by omega
  obtain ⟨⟨x0, x1, x2⟩, -⟩ := HBX.out w1 (Below.refl _ _)
  unfold findV at HFT
  unfold Sc.v Sc.cells at HFT ⊢
  unfold Sc.cells at HW1
  rw [hnn] at HFT HBX HW1 x0
  rw [hnn, hmm]
  have hmax : max (i : Int) 0 = (i : Int) := by omega
  have hdec : decide ((0 : Int) ≤ (i : Int)) = true := by rw [decide_eq_true_eq]; omega
  rw [hmax, hdec] at HFT
  generalize (s.tabs[i]'hi) = t at *
  generalize (rs[i]'hir) = r at *
  obtain ⟨rn, rA, rc, rr⟩ := r
  simp only at *
  clear hs hl hi hir hn hin htl hrl hw1 hb1 hg1 hg2 hs1 hmm hnn hmax hdec
  go_enter Tryz.func85, Tryz.ntmps85
  go_upto_region 1 with fail
  rw [← HW1.out]
  go_wp2_with fail
  refine (HFT.out w1 HB1.out.1).mono ?_
  rintro e w2 ⟨rfl, hb2⟩
  have HB2 := Lib.hid (And.intro hb2 (HB1.out.1.trans (hb2.mono HB1.out.1.size)))
  clear hb2 x0 x1 x2
  obtain ⟨⟨x0, x1, x2⟩, -⟩ := HBX.out w2 HB2.out.1
  obtain ⟨b, off, hTA, -, p0, p1, p2⟩ := HTB.out w2 HB2.out.2
  rw [hTA] at x0
  go_wp2_with fail
  unfold Tbl.val at HCT
  refine (HCT.out w2 HB2.out.2).mono ?_
  rintro e w3 ⟨A1, c1, A2, c2, rfl, ht3, hb3⟩
  obtain ⟨w4, hw4⟩ : ∃ w4, w4 = w3.alloc (.cells #[.string t.name, .slice A1 t.cols.length c1, .slice A2 t.pk.length c2] 71) := ⟨_, rfl⟩
  have hb4 : Below w3.heap.size w3 w4 := by rw [hw4]; exact (Below.refl _ _).alloc (Nat.le_refl _) _
  have hg4 : w4.heap[w3.heap.size]? = some (.cells #[.string t.name, .slice A1 t.cols.length c1, .slice A2 t.pk.length c2] 71 (0, 0)) := by rw [hw4]; exact heap_alloc_new w3 _
  have hb24 : Below w2.heap.size w2 w4 := hb3.trans (hb4.mono hb3.size)
  have hb04 := HB2.out.2.trans (hb24.mono HB2.out.2.size)
  have hb14 := HB2.out.1.trans (hb24.mono HB2.out.1.size)
  have hs12 := HB2.out.1.size
  have hs1 := HB1.out.2
  have s4 : TBx w3.heap.size ⟨t.name, A1, c1, t.cols, A2, c2, t.pk⟩ w4 := ⟨cell_of_row _ _ 0 _ _ _ hg4, cell_of_row _ _ 1 _ _ _ hg4, cell_of_row _ _ 2 _ _ _ hg4⟩
  have rb4 := (HBX.out w4 hb14).2
  have ht4 : TOk (fun g => w.heap.size + 1 < g ∧ g < w4.heap.size) w4 ⟨t.name, A1, c1, t.cols, A2, c2, t.pk⟩ := ht3.of fun g hg => ⟨hb4.block g hg.2, by omega, Nat.lt_of_lt_of_le hg.2 hb4.size⟩
  obtain ⟨br, offr, hRA, -, -, q1⟩ := HRL.out w4 hb04
  have HCL := Lib.hid (twk (c := rc) (R := w.heap.size + 1) hb04 (HRS.out.1 w4 hb04) HRS.out.2 ht4 s4 (by rw [hw4]; simp) rb4 ⟨by omega, by have := hb14.size; omega⟩)
  have r4 := RBx.cells rb4
  have HW4 := Lib.hid hw4
  clear hb3 ht3 hb4 hg4 hb24 hb04 hb14 hs12 hs1 rb4 ht4 hw4 x0 x1 x2 p0 p1 p2
  rw [hRA]
  unfold TBx at s4
  simp only at s4
  go_upto_region 7 with fail
  rw [← HW4.out]
  go_region_law (first
    | (go_simp; go_at_call 71; refine (HCL.out _).mono ?_; rintro e w5 ⟨A3, n3, c3, rfl, s5, rb5, hfin⟩; have r5 := RBx.cells rb5; unfold TBx at s5; simp only at s5))
  all_goals
    have HF := Lib.hid (And.intro rb5 hfin)
    clear rb5 hfin
    go_wp2_with fail
    refine bodyPost_ret (ret_tabs _ rfl rfl (set3 HF.out.1)) rfl ?_
    obtain ⟨h1, ⟨ks, h2, h3, h4⟩, h5⟩ := HF.out.2.out (.string t.name) (.slice A1 t.cols.length c1) (.slice A2 t.pk.length c2)
    exact ⟨_, _, _, _, _, _, _, ks, rfl, h1, h2, h3, h4, h5⟩
end Go.Proofs.YtefifkleamiabaaGreatDoor

namespace Go.Proofs.YtefifkleamiabaaGreatDoor
open Go.RowKit Go.Sort

/-- What the walks below want of a schema, an instance and a foreign key from its second column. -/
structure RefC (s : Sc) (rs : List RelM) (fk : FkM) (i : Nat) : Prop where
  tl : s.tabs.length ≤ 1000
  il : i < s.tabs.length
  ir : i < rs.length
  fi : tabI fk.ref s.tabs = (i : Int)
  cl : s.tabs[i].cols.length ≤ 1000 ∧ s.tabs[i].pk.length ≤ 12
  rl : rs[i].rows.length ≤ 1000
  cols : fk.cols = [1]

set_option maxRecDepth 100000 in
set_option maxHeartbeats 4000000 in
theorem referencesW (s : Sc) (A : Option Addr) (c : Nat) (rs : List RelM) (fk : FkM) (i : Nat) (row : Key) (v1 : Val) (w : World) (hs : ScOk (· < w.heap.size) w s) (hin : InOk (· < w.heap.size) w A rs) (hfk : Elems 1 intCs w (· < w.heap.size) fk.A fk.cols) (hrow : KOk (· < w.heap.size) w row) (hc : RefC s rs fk i) (hr1 : row.row[1]? = some v1) :
    Calls Tryz.prog 86 #[s.v, .slice A rs.length c, fk.val, .slice row.A row.row.length row.c] w fun e w' => e = .returned (.bool (decide (v1.kind = 0) || rff (s.tabs[i]'hc.il).pk [v1] ((rs[i]'hc.ir).rows.map Key.row))) ∧ Below w.heap.size w w' := by
  have hil := hc.il
  have hir := hc.ir
  obtain ⟨w1, hw1⟩ : ∃ w1, w1 = (w.alloc (.cells s.cells 27)).alloc (.cells #[.string fk.name, .slice fk.A fk.cols.length fk.c, .string fk.ref] 73) := ⟨_, rfl⟩
  have hb1 : Below w.heap.size w w1 := by rw [hw1]; exact ((Below.refl _ _).alloc (Nat.le_refl _) _).alloc (le_size1 (Nat.le_refl _) _) _
  have hg1 : w1.heap[w.heap.size]? = some (.cells s.cells 27 (0, 0)) := by
    rw [hw1, Below.heap_alloc _ _ _ (by simp)]
    exact heap_alloc_new w _
  have hg2 : w1.heap[w.heap.size + 1]? = some (.cells #[.string fk.name, .slice fk.A fk.cols.length fk.c, .string fk.ref] 73 (0, 0)) := by rw [hw1]; exact alloc2_at w _ _
  have hs1 : w1.heap.size = w.heap.size + 2 := by rw [hw1]; simp
  have HBX : Hid (∀ W, Below w1.heap.size w1 W → (W.cell? ⟨w.heap.size, 0, none⟩ = some (.slice s.TA s.tabs.length s.tc) ∧ W.cell? ⟨w.heap.size, 1, none⟩ = some (.slice s.FA s.fks.length s.fc) ∧ W.cell? ⟨w.heap.size, 2, none⟩ = some (.slice s.NA s.cns.length s.nc)) ∧ W.cell? ⟨w.heap.size + 1, 0, none⟩ = some (.string fk.name) ∧ W.cell? ⟨w.heap.size + 1, 1, none⟩ = some (.slice fk.A fk.cols.length fk.c) ∧ W.cell? ⟨w.heap.size + 1, 2, none⟩ = some (.string fk.ref)) := Lib.hid fun W hW => by
    have h := (hW.block w.heap.size (by omega)).trans hg1
    have h2 := (hW.block (w.heap.size + 1) (by omega)).trans hg2
    exact ⟨⟨cell_of_row _ _ 0 _ _ _ h, cell_of_row _ _ 1 _ _ _ h, cell_of_row _ _ 2 _ _ _ h⟩, cell_of_row _ _ 0 _ _ _ h2, cell_of_row _ _ 1 _ _ _ h2, cell_of_row _ _ 2 _ _ _ h2⟩
  have HTW : Hid (∀ W, Below w.heap.size w W → Calls Tryz.prog 85 #[s.v, .slice A rs.length c, .string fk.ref] W (TabAns W (s.tabs[i]'hil) ((rs[i]'hir).rows.map Key.row))) := Lib.hid fun W hW => tableW s A c rs i fk.ref W (hs.on hW) hc.tl hil hir hc.fi (hin.on hW) ⟨hc.cl.1, by have := hc.cl.2; omega⟩ hc.rl
  have HC := Lib.hid hc
  have HCL : Hid ((s.tabs[i]'hil).pk.length ≤ 12 ∧ ∀ (ks : List Key) n, ks.length = n → ks.map Key.row = (rs[i]'hir).rows.map Key.row → n ≤ 1000) := Lib.hid ⟨hc.cl.2, fun ks n h h2 => by have h3 := congrArg List.length h2; rw [List.length_map, List.length_map] at h3; have := hc.rl; omega⟩
  have HROW := Lib.hid hrow
  have HR1 := Lib.hid hr1
  have HB1 := Lib.hid (And.intro hb1 hs1)
  have HW1 := Lib.hid hw1
  have HFK := Lib.hid hfk
  have hlen : fk.cols.length = 1 := by rw [hc.cols]; rfl
  obtain ⟨m, hmm⟩ : ∃ m, rs.length = m := ⟨_, rfl⟩
  obtain ⟨⟨x0, x1, x2⟩, y0, y1, y2⟩ := HBX.out w1 (Below.refl _ _)
  unfold Sc.v Sc.cells at HTW
  unfold Sc.cells at HW1
  unfold Sc.v Sc.cells FkM.val
  rw [hlen] at HW1 HBX y1 ⊢
  rw [hmm] at HTW ⊢
  generalize (s.tabs[i]'hil) = t at *
  generalize (rs[i]'hir) = r at *
  clear hs hin hfk hrow hc hr1 hw1 hb1 hg1 hg2 hs1 hmm hlen
  go_enter Tryz.func86, Tryz.ntmps86
  go_upto_region 1 with fail
  rw [← HW1.out]
  go_wp2_with fail
  refine (HTW.out w1 HB1.out.1).mono ?_
  rintro e w2 ⟨A1, c1, A2, c2, A3, n3, c3, ks, rfl, ht2, hr2, hn3, hR2, hb2⟩
  replace ht2 := ht2.more fun g hg => hg.2
  replace hr2 := hr2.more fun g hg => hg.2
  subst hn3
  obtain ⟨n3, hn3⟩ : ∃ n, ks.length = n := ⟨_, rfl⟩
  rw [hn3]
  obtain ⟨w4, hw4⟩ : ∃ w4, w4 = w2.alloc (.cells #[.string t.name, .slice A1 t.cols.length c1, .slice A2 t.pk.length c2] 71) := ⟨_, rfl⟩
  have hb4 : Below w2.heap.size w2 w4 := by rw [hw4]; exact (Below.refl _ _).alloc (Nat.le_refl _) _
  have hg4 : w4.heap[w2.heap.size]? = some (.cells #[.string t.name, .slice A1 t.cols.length c1, .slice A2 t.pk.length c2] 71 (0, 0)) := by rw [hw4]; exact heap_alloc_new w2 _
  have hs4 : w2.heap.size < w4.heap.size := by rw [hw4]; simp
  have hb14 := hb2.trans (hb4.mono hb2.size)
  have hb04 := HB1.out.1.trans (hb14.mono HB1.out.1.size)
  have HAT : Hid (∀ W, Below w4.heap.size w4 W → Below w.heap.size w W ∧ (W.cell? ⟨w2.heap.size, 0, none⟩ = some (.string t.name) ∧ W.cell? ⟨w2.heap.size, 1, none⟩ = some (.slice A1 t.cols.length c1) ∧ W.cell? ⟨w2.heap.size, 2, none⟩ = some (.slice A2 t.pk.length c2)) ∧ ∀ k4, KOk (· < W.heap.size) W k4 → k4.row = [v1] → Calls Tryz.prog 106 #[.agg #[.string t.name, .slice A1 t.cols.length c1, .slice A2 t.pk.length c2], .slice A3 n3 c3, .slice k4.A 1 k4.c] W fun e w' => ∃ i, e = .returned (.tuple #[.int .i64 i, .bool (rff t.pk [v1] (r.rows.map Key.row))]) ∧ Below W.heap.size W w') := Lib.hid fun W hW => by
    have h0 := (hW.block w2.heap.size hs4).trans hg4
    refine ⟨hb04.trans (hW.mono hb04.size), ⟨cell_of_row _ _ 0 _ _ _ h0, cell_of_row _ _ 1 _ _ _ h0, cell_of_row _ _ 2 _ _ _ h0⟩, fun k4 hk4 hrow4 => ?_⟩
    have hb24 := hb4.trans (hW.mono hb4.size)
    have h := relFind ⟨t.name, A1, c1, t.cols, A2, c2, t.pk⟩ A3 c3 ks k4 W (ht2.on hb24) (hr2.on hb24) hk4 (by rw [hn3]; exact HCL.out.2 _ _ hn3 hR2) HCL.out.1
    unfold Tbl.val at h
    simp only at h
    rw [hn3, hrow4, hR2] at h
    exact h.mono fun e w' h => ⟨_, h.1, h.2⟩
  obtain ⟨⟨x0, x1, x2⟩, y0, y1, y2⟩ := HBX.out w4 hb14
  obtain ⟨bf, offf, hFA, -, f0⟩ : ∃ b off, fk.A = some ⟨b, off, none⟩ ∧ True ∧ w4.cell? ⟨b, off, none⟩ = some (.int .i64 1) := by
    obtain ⟨b, off, e1, -, hcl⟩ := (HFK.out.on hb04).at_ (k := 0) (by rw [HC.out.cols]; decide)
    refine ⟨b, off, e1, trivial, ?_⟩
    have := hcl 0 (.int .i64 1) (by simp [HC.out.cols, intCs])
    simpa using this
  have hlr : 1 < row.row.length := (List.getElem?_eq_some_iff.1 HR1.out).1
  obtain ⟨br, offr, hRA, -, r0, r1, r2⟩ := (HROW.out.on hb04).el.val hlr
  have hv1 : row.row[1] = v1 := (List.getElem?_eq_some_iff.1 HR1.out).2
  rw [hv1] at r0 r1 r2
  have hlr' : (1 : Int) < (row.row.length : Int) := by omega
  have HW4 := Lib.hid hw4
  have HB4 := Lib.hid hb04
  obtain ⟨q, hq⟩ : ∃ q, row.row.length = q := ⟨_, rfl⟩
  rw [hq] at hlr' ⊢
  clear ht2 hr2 hR2 hb2 hw4 hb4 hg4 hs4 hb14 hb04 hn3 hlr hv1 HTW hq
  rw [hFA] at y1
  rw [hRA]
  go_upto_region 3 with fail
  rw [← HW4.out]
  go_wp2_with fail
  go_loopw [11, 27] (fun v11 vi wr => (vi = .int .i64 0 ∧ v11 = .slice none 0 0 ∧ w4 = wr) ∨ (vi = .int .i64 1 ∧ v1.kind ≠ 0 ∧ ∃ A4 c4, v11 = .slice A4 1 c4 ∧ Elems 3 Val.cs wr (· < wr.heap.size) A4 [v1] ∧ Below w4.heap.size w4 wr)) (fun _ vi _ => 1 - (intOf vi).toNat)
  case atStart => exact .inl ⟨rfl, rfl, rfl⟩
  case round =>
    rcases hrel with ⟨rfl, rfl, rfl⟩ | ⟨rfl, hk0, A4, c4, rfl, hel, hb5⟩
    · by_cases hk : v1.kind = 0
      · rw [hk] at r0
        go_wp2_with fail
        go_ret
        exact ⟨ret_bool (by rw [decide_eq_true hk]; rfl), HB4.out⟩
      · have HK := Lib.hid hk
        have hkb : (v1.kind == 0) = false := by rw [beq_eq_false_iff_ne]; exact hk
        have hqd : decide ((q : Int) ≤ 1) = false := by rw [decide_eq_false_iff_not]; omega
        have HL1 : Hid ((([] : List Val).length + 1) * 32 ≤ 140737488355328) := Lib.hid (by decide)
        have HL2 : Hid (([] : List Val).length + 1 ≤ maxLen) := Lib.hid (by decide)
        go_wp2_with (at_builtin; refine wpList_app rfl (.tmp 47) (.tmp 52) _ _ rfl rfl rfl (run_push (base := w4.heap.size) elem_val valLay _ _ _ ([] : List Val) v1 _ (Own.nil _) rfl HL1.out HL2.out (Nat.le_refl _) rfl) ?_; rintro v5 w5 ⟨ho5, hx5⟩; obtain ⟨A5, c5, rfl, -, -⟩ := ho5.form)
        have HF : Hid (Elems 3 Val.cs w5 (· < w5.heap.size) A5 [v1] ∧ Below w4.heap.size w4 w5) := Lib.hid ⟨(ho5.elems valLay.len rfl).more fun g hg => (Own.lt ho5 g hg).2, hx5.below (Nat.le_refl _) (fun g hg => by cases hg)⟩
        clear ho5 hx5
        go_roundw
        case rel => exact .inr ⟨by go_num, HK.out, A5, c5, rfl, HF.out.1, HF.out.2⟩
        case measure => simp [intOf]
    · have HK := Lib.hid hk0
      clear hk0
      obtain ⟨hbw, ⟨z0, z1, z2⟩, hfd⟩ := HAT.out wr hb5
      have HFD := Lib.hid (hfd ⟨A4, c4, [v1]⟩ ⟨hel, by show 1 ≤ 12; decide⟩ rfl)
      have HBW := Lib.hid hbw
      clear hel hb5 hbw hfd
      go_wp2_with fail
      refine HFD.out.mono ?_
      rintro e w6 ⟨j, rfl, hb6⟩
      have HF := Lib.hid (HBW.out.trans (hb6.mono HBW.out.size))
      clear hb6
      go_wp2_with fail
      go_ret
      exact ⟨ret_bool (by rw [decide_eq_false HK.out]; rfl), HF.out⟩
end Go.Proofs.YtefifkleamiabaaGreatDoor

namespace Go.Proofs.YtefifkleamiabaaGreatDoor
open Go.RowKit Go.Sort

def opOf (eq : Bool) : ByteArray := if eq = true then ⟨#[60, 61]⟩ else ⟨#[60]⟩
def iv (x : Int) : Val := ⟨1, x, ⟨#[]⟩⟩
theorem cmpV_iv (x y : Int) : cmpV (iv x) (iv y) = cmpI x y := by
  unfold cmpV iv
  rw [if_pos (by decide : cmpI 1 1 = 0)]
  by_cases h : cmpI x y = 0
  · rw [if_pos h, h]; exact (by decide : Lib.compareBytes [] [] = 0)
  · rw [if_neg h]

set_option maxRecDepth 100000 in
set_option maxHeartbeats 1000000 in
theorem satInt (eq : Bool) (x k : Int) (w : World) :
    Calls Tryz.prog 114 #[.agg #[.int .i64 1, .int .i64 x, .string ⟨#[]⟩], .string (opOf eq), .agg #[.int .i64 1, .int .i64 k, .string ⟨#[]⟩]] w fun e w' => e = .returned (.tuple #[.bool (decide (x < k) || (eq && decide (x = k))), .int .i64 0]) ∧ Below w.heap.size w w' := by
  obtain ⟨w1, hw1⟩ : ∃ w1, w1 = (w.alloc (.cells #[.int .i64 1, .int .i64 x, .string ⟨#[]⟩] 60)).alloc (.cells #[.int .i64 1, .int .i64 k, .string ⟨#[]⟩] 60) := ⟨_, rfl⟩
  have hb1 : Below w.heap.size w w1 := by rw [hw1]; exact ((Below.refl _ _).alloc (Nat.le_refl _) _).alloc (le_size1 (Nat.le_refl _) _) _
  have hg1 : w1.heap[w.heap.size]? = some (.cells #[.int .i64 1, .int .i64 x, .string ⟨#[]⟩] 60 (0, 0)) := by
    rw [hw1, Below.heap_alloc _ _ _ (by simp)]
    exact heap_alloc_new w _
  have hg2 : w1.heap[w.heap.size + 1]? = some (.cells #[.int .i64 1, .int .i64 k, .string ⟨#[]⟩] 60 (0, 0)) := by rw [hw1]; exact alloc2_at w _ _
  have x0 := cell_of_row _ _ 0 _ _ _ hg1
  have x1 := cell_of_row _ _ 1 _ _ _ hg1
  have x2 := cell_of_row _ _ 2 _ _ _ hg1
  have y0 := cell_of_row _ _ 0 _ _ _ hg2
  have y1 := cell_of_row _ _ 1 _ _ _ hg2
  have y2 := cell_of_row _ _ 2 _ _ _ hg2
  have hcv := compareVals (iv x) (iv k) w1
  rw [cmpV_iv] at hcv
  unfold iv at hcv
  have HCV := Lib.hid hcv
  have HB1 := Lib.hid hb1
  have HW1 := Lib.hid hw1
  clear hb1 hg1 hg2 hcv hw1
  have hc : (x < k ∧ cmpI x k = -1) ∨ (x = k ∧ cmpI x k = 0) ∨ (k < x ∧ cmpI x k = 1) := by unfold cmpI; by_cases h1 : x < k; (exact .inl ⟨h1, if_pos h1⟩); by_cases h2 : k < x; (exact .inr (.inr ⟨h2, by rw [if_neg h1, if_pos h2]⟩)); exact .inr (.inl ⟨by omega, by rw [if_neg h1, if_neg h2]⟩)
  obtain ⟨res, hres⟩ : ∃ r, (decide (x < k) || (eq && decide (x = k))) = r := ⟨_, rfl⟩
  rw [hres]
  cases eq
  all_goals
    first | rw [show opOf false = ⟨#[60]⟩ from rfl] | rw [show opOf true = ⟨#[60, 61]⟩ from rfl]
    rcases hc with ⟨h1, h2⟩ | ⟨h1, h2⟩ | ⟨h1, h2⟩
    all_goals
      rw [h2] at HCV
      have HR : Hid (_ = res) := Lib.hid hres
      have H1 := Lib.hid h1
      clear hres h1 h2
      go_enter Tryz.func114, Tryz.ntmps114
      go_upto_region 1 with fail
      rw [← HW1.out]
      go_wp2_with fail
      refine HCV.out.mono ?_
      rintro e w2 ⟨rfl, os, hos⟩
      have hb2 : Below w1.heap.size w1 w2 := by rw [hos]; exact below_grow w1 0 os
      clear hos
      have HF := Lib.hid (HB1.out.trans (hb2.mono HB1.out.size))
      clear hb2
      go_wp2_with fail
      go_ret2
      refine ⟨?_, HF.out⟩
      rw [← HR.out]
      have := H1.out
      first
      | (rw [decide_eq_true this]; rfl)
      | (rw [decide_eq_false (by omega), decide_eq_true this]; rfl)
      | (rw [decide_eq_false (by omega), decide_eq_false (by omega)]; rfl)

set_option maxRecDepth 100000 in
set_option maxHeartbeats 1000000 in
theorem satNil (eq : Bool) (k : Int) (w : World) :
    Calls Tryz.prog 114 #[.agg #[.int .i64 0, .int .i64 0, .string ⟨#[]⟩], .string (opOf eq), .agg #[.int .i64 1, .int .i64 k, .string ⟨#[]⟩]] w fun e w' => e = .returned (.tuple #[.bool true, .int .i64 0]) ∧ Below w.heap.size w w' := by
  have HB2 : Hid (∀ a b, Below w.heap.size w ((w.alloc a).alloc b)) := Lib.hid fun a b => ((Below.refl _ _).alloc (Nat.le_refl _) a).alloc (le_size1 (Nat.le_refl _) _) b
  cases eq
  all_goals
    first | rw [show opOf false = ⟨#[60]⟩ from rfl] | rw [show opOf true = ⟨#[60, 61]⟩ from rfl]
    go_enter Tryz.func114, Tryz.ntmps114
    go_wp2_with fail
    go_ret2
    exact ⟨rfl, HB2.out _ _⟩

/-- A constraint: the second column below a constant, or at most it. -/
def bCn (name : ByteArray) (eq : Bool) (k : Int) : Cn := ⟨name, 1, opOf eq, -1, ⟨1, k, ⟨#[]⟩⟩⟩
/-- Null, or an int. -/
def NI (v : Val) : Prop := v = ⟨0, 0, ⟨#[]⟩⟩ ∨ ∃ x, v = ⟨1, x, ⟨#[]⟩⟩
def satV (eq : Bool) (k : Int) (v : Val) : Bool := decide (v.kind = 0) || decide (v.int < k) || (eq && decide (v.int = k))

theorem satV_run (eq : Bool) (k : Int) (v : Val) (hv : NI v) (w : World) :
    Calls Tryz.prog 114 #[.agg #[.int .i64 v.kind, .int .i64 v.int, .string v.text], .string (opOf eq), .agg #[.int .i64 1, .int .i64 k, .string ⟨#[]⟩]] w fun e w' => e = .returned (.tuple #[.bool (satV eq k v), .int .i64 0]) ∧ Below w.heap.size w w' := by
  rcases hv with rfl | ⟨x, rfl⟩
  · exact satNil eq k w
  · exact satInt eq x k w

set_option maxRecDepth 100000 in
set_option maxHeartbeats 1000000 in
theorem satisfiesW (name : ByteArray) (eq : Bool) (k : Int) (row : Key) (v1 : Val) (w : World) (hrow : KOk (· < w.heap.size) w row) (hr1 : row.row[1]? = some v1) (hv : NI v1) :
    Calls Tryz.prog 87 #[.agg (bCn name eq k).cells, .slice row.A row.row.length row.c] w fun e w' => e = .returned (.bool (satV eq k v1)) ∧ Below w.heap.size w w' := by
  obtain ⟨w1, hw1⟩ : ∃ w1, w1 = w.alloc (.cells #[.string name, .int .i64 1, .string (opOf eq), .int .i64 (-1), .int .i64 1, .int .i64 k, .string ⟨#[]⟩] 62) := ⟨_, rfl⟩
  have hb1 : Below w.heap.size w w1 := by rw [hw1]; exact (Below.refl _ _).alloc (Nat.le_refl _) _
  have hg1 : w1.heap[w.heap.size]? = some (.cells #[.string name, .int .i64 1, .string (opOf eq), .int .i64 (-1), .int .i64 1, .int .i64 k, .string ⟨#[]⟩] 62 (0, 0)) := by rw [hw1]; exact heap_alloc_new w _
  have x0 := cell_of_row _ _ 0 _ _ _ hg1
  have x1 := cell_of_row _ _ 1 _ _ _ hg1
  have x2 := cell_of_row _ _ 2 _ _ _ hg1
  have x3 := cell_of_row _ _ 3 _ _ _ hg1
  have x4 := cell_of_row _ _ 4 _ _ _ hg1
  have x5 := cell_of_row _ _ 5 _ _ _ hg1
  have x6 := cell_of_row _ _ 6 _ _ _ hg1
  have hlr : 1 < row.row.length := (List.getElem?_eq_some_iff.1 hr1).1
  obtain ⟨br, offr, hRA, -, r0, r1, r2⟩ := (hrow.on hb1).el.val hlr
  have hv1 : row.row[1] = v1 := (List.getElem?_eq_some_iff.1 hr1).2
  rw [hv1] at r0 r1 r2
  obtain ⟨w2, hw2⟩ : ∃ w2, w2 = w1.alloc (.cells #[.int .i64 1, .int .i64 k, .string ⟨#[]⟩] 60) := ⟨_, rfl⟩
  have hb2 : Below w1.heap.size w1 w2 := by rw [hw2]; exact (Below.refl _ _).alloc (Nat.le_refl _) _
  have hg2 : w2.heap[w1.heap.size]? = some (.cells #[.int .i64 1, .int .i64 k, .string ⟨#[]⟩] 60 (0, 0)) := by rw [hw2]; exact heap_alloc_new w1 _
  have hs1 : w.heap.size < w1.heap.size := by rw [hw1]; simp
  have hg12 := (hb2.block _ hs1).trans hg1
  have z1 := cell_of_row _ _ 1 _ _ _ hg12
  have z2 := cell_of_row _ _ 2 _ _ _ hg12
  have z3 := cell_of_row _ _ 3 _ _ _ hg12
  have y0 := cell_of_row _ _ 0 _ _ _ hg2
  have y1 := cell_of_row _ _ 1 _ _ _ hg2
  have y2 := cell_of_row _ _ 2 _ _ _ hg2
  have hb02 := hb1.trans (hb2.mono hb1.size)
  obtain ⟨br2, offr2, hRA2, -, t0, t1, t2⟩ := (hrow.on hb02).el.val hlr
  rw [hRA] at hRA2
  injection hRA2 with hRA2
  injection hRA2 with e1 e2
  subst e1 e2
  rw [hv1] at t0 t1 t2
  have HB2 := Lib.hid hb02
  have HW2 := Lib.hid hw2
  clear hb2 hg2 hs1 hg12 hb02 hw2
  have HSV := Lib.hid (fun m => (satV_run eq k v1 hv (w2.drewN m)).mono fun e w' h => (⟨h.1, HB2.out.trans ((below_drewN (Below.refl w2.heap.size w2) m).trans (h.2.mono (below_drewN (Below.refl w2.heap.size w2) m).size) |>.mono HB2.out.size)⟩ : e = .returned (.tuple #[.bool (satV eq k v1), .int .i64 0]) ∧ Below w.heap.size w w'))
  have HB1 := Lib.hid hb1
  have HW1 := Lib.hid hw1
  obtain ⟨q, hq⟩ : ∃ q, row.row.length = q := ⟨_, rfl⟩
  have hlr' : (1 : Int) < (q : Int) := by omega
  have hlq : ¬ ((q : Int) ≤ 1) := by omega
  have hq0 : ¬ ((q : Int) ≤ -1) := by omega
  rw [hq, hRA]
  unfold bCn Cn.cells
  simp only
  clear hrow hr1 hv hw1 hb1 hg1 hlr hv1 hq
  generalize satV eq k v1 = res at *
  generalize opOf eq = op at *
  go_enter Tryz.func87, Tryz.ntmps87
  go_upto_region 1 with fail
  rw [← HW1.out]
  go_upto_region 4 with fail
  rw [← HW2.out]
  go_wp2_with fail
  go_region_law (first
    | (go_simp; go_at_call 114; refine (HSV.out _).mono ?_; rintro e w3 ⟨rfl, hb3⟩))
  all_goals
    have HF := Lib.hid hb3
    clear hb3
    cases res
    all_goals
      go_wp2_with fail
      go_ret
      exact ⟨rfl, HF.out⟩
end Go.Proofs.YtefifkleamiabaaGreatDoor

namespace Go.Proofs.YtefifkleamiabaaGreatDoor
open Go.RowKit Go.Sort

/-- A violation. -/
structure Vio where
  err : Int
  idx : Int
  key : Key
def Vio.cs (x : Vio) : List Value := [.int .i64 0, .int .i64 x.err, .int .i64 x.idx, .slice x.key.A x.key.row.length x.key.c]
theorem vioLay : Lay 4 Vio.cs := ⟨fun _ => rfl, fun x c hc => by simp [Vio.cs] at hc; rcases hc with rfl | rfl | rfl | rfl <;> rfl⟩
def Vio.d (x : Vio) : Int × Int × Row := (x.err, x.idx, x.key.row)
theorem elem_vios : ElemT Tryz.prog 54 64 4 48 := ⟨Tryz.underlying54, by
  have h : (Tryz.prog.info? 64).map (fun i => (i.zero, i.size, i.bytes)) = some (some (.agg #[.int .i64 0, .int .i64 0, .int .i64 0, .slice none 0 0]), 4, 48) := by kernel_rfl
  obtain ⟨i0, hi, hz0, hz1, hz2⟩ := info_parts h
  exact ⟨i0, _, hi, hz0, hz1, hz2, rfl⟩, by omega⟩
/-- A list of violations of the call's own. -/
structure VO (base : Nat) (w0 w : World) (v : Value) (vs : List Vio) (ds : List (Int × Int × Row)) : Prop where
  own : Own 4 Vio.cs 64 base w v vs
  dat : vs.map Vio.d = ds
  key : ∀ x ∈ vs, KOk (fun g => base ≤ g ∧ g < w.heap.size ∧ v.ownBlock ≠ some g) w x.key
  bel : Below base w0 w
theorem VO.push {base : Nat} {w0 wo wc w' : World} {v v' : Value} {vs : List Vio} {ds : List (Int × Int × Row)} {x : Vio} (h : VO base w0 wo v vs ds) (hb : Below wo.heap.size wo wc) (hk : KOk (fun g => wo.heap.size ≤ g ∧ g < wc.heap.size) wc x.key)
    (ho : Own 4 Vio.cs 64 base w' v' (vs ++ [x])) (hx : Ext wc v w' v') (hB : base ≤ wo.heap.size) : VO base w0 w' v' (vs ++ [x]) (ds ++ [x.d]) := by
  have hvl : ∀ g, v.ownBlock = some g → base ≤ g ∧ g < wo.heap.size := Own.lt h.own
  have hsz := hx.size
  have hbs := hb.size
  have hne : ∀ g, wo.heap.size ≤ g → v.ownBlock ≠ some g := fun g hg e => by have := (hvl g e).2; omega
  refine ⟨ho, by rw [List.map_append, h.dat]; rfl, fun k hm => ?_, (h.bel.trans (hb.mono hB)).trans (hx.below (by omega) fun g hg => (hvl g hg).1)⟩
  rcases List.mem_append.1 hm with hm | hm
  · have h1 := (h.key k hm).keep (Keeps.of_below hb fun _ h => h.2.1)
    refine (h1.keep (hx.keeps fun g hg => ⟨by omega, fun e => hg.2.2 e.symm⟩)).more fun g hg => ⟨hg.1, by omega, hx.ne hg.2.2 (by omega)⟩
  · rw [List.mem_singleton.1 hm]
    exact (hk.keep (hx.keeps fun g hg => ⟨hg.2, fun e => hne g hg.1 e.symm⟩)).more fun g hg => ⟨by omega, by omega, hx.ne (hne g hg.1) hg.2⟩
theorem VO.below {base : Nat} {w0 w w' : World} {v : Value} {vs : List Vio} {ds : List (Int × Int × Row)} (h : VO base w0 w v vs ds) (hb : Below w.heap.size w w') (hB : base ≤ w.heap.size) : VO base w0 w' v vs ds :=
  ⟨h.own.below hb, h.dat, fun k hk => ((h.key k hk).keep (Keeps.of_below hb fun _ h => h.2.1)).more fun _ hg => ⟨hg.1, Nat.lt_of_lt_of_le hg.2.1 hb.size, hg.2.2⟩, h.bel.trans (hb.mono hB)⟩

/-- The violations of the first rows of a list. -/
def vioR (err i : Int) (Q : Row → Bool) (rows : List Row) : List (Int × Int × Row) := (rows.filter fun r => !Q r).map fun r => (err, i, keyOf [0] r)
theorem vioR_succ (err i : Int) (Q : Row → Bool) (rows : List Row) (j : Nat) (hj : j < rows.length) : vioR err i Q (rows.take (j + 1)) = vioR err i Q (rows.take j) ++ (if Q rows[j] = true then [] else [(err, i, keyOf [0] rows[j])]) := by
  unfold vioR
  rw [List.take_succ_eq_append_getElem hj, List.filter_append, List.map_append]
  congr 1
  cases h : Q rows[j] <;> simp [h]
/-- The violations of n lists of rows. -/
def vioD (err : Int) (Q : Nat → Row → Bool) (rows : Nat → List Row) (n : Nat) : List (Int × Int × Row) := (List.range n).flatMap fun (i : Nat) => vioR err (i : Int) (Q i) (rows i)
theorem vioD_succ (err : Int) (Q : Nat → Row → Bool) (rows : Nat → List Row) (n : Nat) : vioD err Q rows (n + 1) = vioD err Q rows n ++ vioR err (n : Int) (Q n) (rows n) := by
  unfold vioD
  rw [List.range_succ, List.flatMap_append]
  simp

/-- What the walk of a list of foreign keys or constraints calls. -/
structure VioH (w : World) (inst sv : Value) (n : Nat) (name : Nat → ByteArray) (fid : FuncId) (args : Nat → Value → Array Value) (tt : Nat → Tbl) (Q : Nat → Row → Bool) (rows : Nat → List Row) : Prop where
  n8 : n ≤ 8
  len : ∀ i, i < n → (rows i).length ≤ 24
  pk : ∀ i, i < n → (tt i).pk = [0]
  tab : ∀ i, i < n → ∀ W, Below w.heap.size w W → Calls Tryz.prog 85 #[sv, inst, .string (name i)] W (TabAns W (tt i) (rows i))
  tst : ∀ i, i < n → ∀ W, Below w.heap.size w W → ∀ k : Key, KOk (· < W.heap.size) W k → k.row ∈ rows i → Calls Tryz.prog fid (args i (.slice k.A k.row.length k.c)) W fun e w' => e = .returned (.bool (Q i k.row)) ∧ Below W.heap.size W w'

/-- Behind Key: the append of a violation. -/
def FvK (B : Nat) (w0 wi : World) (v0 v3 : Value) (err i : Int) (ds : List (Int × Int × Row)) (L : Nat) (e : Ending) (w2 : World) : Prop :=
  ∃ A2 c2, e = .returned (.slice A2 1 c2) ∧ Hid (∀ ty, ∃ v4 w4, (Builtin.append_ #[54, 54] ty #[v3, .slice (some ⟨w2.heap.size, 0, none⟩) 1 1]).run Tryz.prog (w2.alloc (.cells #[.int .i64 0, .int .i64 err, .int .i64 i, .slice A2 1 c2] 64)) = .ok v4 w4 ∧ ∃ vs', VO B w0 w4 v4 vs' ds ∧ vs'.length = L ∧ Ext wi v0 w4 v4)
theorem fvk {B : Nat} {w0 wi wo W : World} {v0 v3 : Value} {vs : List Vio} {ds : List (Int × Int × Row)} (h : VO B w0 wo v3 vs ds) (hB : B ≤ wo.heap.size) (hE : Ext wi v0 wo v3) (hW : Below wo.heap.size wo W) {t : Tbl} {k : Key} (ht : TOk (· < W.heap.size) W t) (hk : KOk (· < W.heap.size) W k) (hpk : t.pk = [0]) (hl : vs.length ≤ 1000) (err i : Int) :
    Calls Tryz.prog 70 #[t.val, .slice k.A k.row.length k.c] W (FvK B w0 wi v0 v3 err i (ds ++ [(err, i, keyOf [0] k.row)]) (vs.length + 1)) := by
  refine (relKey t k.A k.c k.row W ht hk.el (by rw [hpk]; decide)).mono ?_
  rintro e w2 ⟨v2, rfl, ho2, hb2⟩
  rw [hpk] at ho2
  obtain ⟨A2, c2, rfl, -, -⟩ := ho2.form
  have hbo : Below wo.heap.size wo w2 := hW.trans (hb2.mono hW.size)
  refine ⟨A2, c2, rfl, Lib.hid fun ty => ?_⟩
  obtain ⟨v4, w4, hrun, ho4, hx4⟩ := run_push elem_vios vioLay ty w2 v3 vs (⟨err, i, ⟨A2, c2, keyOf [0] k.row⟩⟩ : Vio) #[.int .i64 0, .int .i64 err, .int .i64 i, .slice A2 1 c2] (h.own.below hbo) rfl (by omega) (by unfold maxLen; omega) (Nat.le_trans hB hbo.size) rfl
  exact ⟨v4, w4, hrun, _, h.push hbo (x := ⟨err, i, ⟨A2, c2, keyOf [0] k.row⟩⟩) ⟨(ho2.elems valLay.len rfl).more fun g hg => ⟨Nat.le_trans hW.size (Own.lt ho2 g hg).1, (Own.lt ho2 g hg).2⟩, by show 1 ≤ 12; decide⟩ ho4 hx4 hB, by simp, (hE.then_below hbo).trans hx4⟩

set_option maxRecDepth 100000 in
set_option maxHeartbeats 8000000 in
theorem foreignKeysW (s : Sc) (inst : Value) (tt : Nat → Tbl) (Q : Nat → Row → Bool) (rows : Nat → List Row) (w : World) (hs : ScOk (· < w.heap.size) w s)
    (H : VioH w inst s.v s.fks.length (fun i => (s.fks.map FkM.name).getD i ⟨#[]⟩) 86 (fun i v => #[s.v, inst, (s.fks.map FkM.val).getD i undef, v]) tt Q rows) :
    Calls Tryz.prog 46 #[s.v, inst] w fun e w' => ∃ A n c vs, e = .returned (.slice A n c) ∧ VO w.heap.size w w' (.slice A n c) vs (vioD 10 Q rows s.fks.length) := by
  obtain ⟨n, hn⟩ : ∃ n, s.fks.length = n := ⟨_, rfl⟩
  obtain ⟨w1, hw1⟩ : ∃ w1, w1 = w.alloc (.cells s.cells 27) := ⟨_, rfl⟩
  have hb1 : Below w.heap.size w w1 := by rw [hw1]; exact (Below.refl _ _).alloc (Nat.le_refl _) _
  have hg1 : w1.heap[w.heap.size]? = some (.cells s.cells 27 (0, 0)) := by rw [hw1]; exact heap_alloc_new w _
  have hs1 : w.heap.size < w1.heap.size := by rw [hw1]; simp
  have HBX : Hid (∀ W, Below w1.heap.size w1 W → W.cell? ⟨w.heap.size, 0, none⟩ = some (.slice s.TA s.tabs.length s.tc) ∧ W.cell? ⟨w.heap.size, 1, none⟩ = some (.slice s.FA s.fks.length s.fc) ∧ W.cell? ⟨w.heap.size, 2, none⟩ = some (.slice s.NA s.cns.length s.nc)) := Lib.hid fun W hW => by
    have h := (hW.block w.heap.size hs1).trans hg1
    exact ⟨cell_of_row _ _ 0 _ _ _ h, cell_of_row _ _ 1 _ _ _ h, cell_of_row _ _ 2 _ _ _ h⟩
  have HSC := Lib.hid hs
  have HH := Lib.hid H
  have HB1 := Lib.hid (And.intro hb1 hs1)
  have HW1 := Lib.hid hw1
  have HN := Lib.hid hn
  have hn8 : n ≤ 8 := by have := H.n8; omega
  obtain ⟨x0, x1, x2⟩ := HBX.out w1 (Below.refl _ _)
  unfold Sc.cells at HW1
  unfold Sc.v Sc.cells at HH ⊢
  rw [hn] at HBX HW1 HH x1 ⊢
  clear hs H hb1 hg1 hs1 hw1 hn
  go_enter Tryz.func46, Tryz.ntmps46
  go_upto_region 1 with fail
  rw [← HW1.out]
  go_wp2_with fail
  go_loopw [5, 15] (fun v5 vi wr => ∃ (i : Nat) (vs : List Vio), vi = .int .i64 (i : Int) ∧ i ≤ n ∧ VO w1.heap.size w1 wr v5 vs (vioD 10 Q rows i) ∧ vs.length ≤ i * 24) (fun _ vi _ => n - (intOf vi).toNat)
  case atStart => exact ⟨0, [], rfl, by omega, ⟨Own.nil _, rfl, (fun k hk => by cases hk), Below.refl _ _⟩, Nat.zero_le _⟩
  case round =>
    obtain ⟨i, vs, rfl, hin, hV, hvl⟩ := hrel
    obtain ⟨wo, rfl⟩ : ∃ wo, wo = wr := ⟨_, rfl⟩
    obtain ⟨v0, rfl⟩ : ∃ v0, v0 = u5 := ⟨_, rfl⟩
    by_cases hlt : i < n
    · have hif : i < s.fks.length := by have := HN.out; omega
      have hb0o : Below w.heap.size w wo := HB1.out.1.trans (hV.bel.mono HB1.out.1.size)
      obtain ⟨x0, x1, x2⟩ := HBX.out wo hV.bel
      obtain ⟨fb, foff, hFA, -, f0, f1, f2⟩ := (HSC.out.on hb0o).fks.fkm hif
      have HM : Hid ((s.fks.map FkM.name).getD i ⟨#[]⟩ = s.fks[i].name ∧ (s.fks.map FkM.val).getD i undef = s.fks[i].val) := Lib.hid ⟨by simp [List.getD_eq_getElem?_getD, List.getElem?_eq_getElem hif], by simp [List.getD_eq_getElem?_getD, List.getElem?_eq_getElem hif]⟩
      have HL24 := Lib.hid (HH.out.len i hlt)
      have hlt' : (i : Int) < (n : Int) := by omega
      generalize s.fks[i] = fk at *
      obtain ⟨w2, hw2⟩ : ∃ w2, w2 = wo.alloc (.cells #[.string fk.name, .slice fk.A fk.cols.length fk.c, .string fk.ref] 73) := ⟨_, rfl⟩
      have hb2 : Below wo.heap.size wo w2 := by rw [hw2]; exact (Below.refl _ _).alloc (Nat.le_refl _) _
      have hg2 : w2.heap[wo.heap.size]? = some (.cells #[.string fk.name, .slice fk.A fk.cols.length fk.c, .string fk.ref] 73 (0, 0)) := by rw [hw2]; exact heap_alloc_new wo _
      have hs2 : wo.heap.size < w2.heap.size := by rw [hw2]; simp
      have HTW := Lib.hid (HH.out.tab i hlt w2 (hb0o.trans (hb2.mono hb0o.size)))
      obtain ⟨y0, y1, y2⟩ := HBX.out w2 (hV.bel.trans (hb2.mono hV.bel.size))
      have g0 := cell_of_row _ _ 0 _ _ _ hg2
      have g1 := cell_of_row _ _ 1 _ _ _ hg2
      have g2 := cell_of_row _ _ 2 _ _ _ hg2
      have HV := Lib.hid (And.intro hV (And.intro hvl hb0o))
      have HB2 := Lib.hid (And.intro hb2 (And.intro hg2 hs2))
      have HW2 := Lib.hid hw2
      simp only [HM.out.1] at HTW
      clear hV hvl hb0o hb2 hg2 hs2 hw2
      rw [hFA] at HTW HH HBX y1 ⊢
      clear hFA
      go_upto_region 5 with fail
      rw [← HW2.out]
      go_wp2_with fail
      refine HTW.out.mono ?_
      rintro e w3 ⟨A1, c1, A2, c2, A3, n3, c3, ks, rfl, ht3, hr3, hn3, hR3, hb3⟩
      subst hn3
      obtain ⟨n3, hn3⟩ : ∃ n, ks.length = n := ⟨_, rfl⟩
      rw [hn3]
      obtain ⟨w4, hw4⟩ : ∃ w4, w4 = w3.alloc (.cells #[.string (tt i).name, .slice A1 (tt i).cols.length c1, .slice A2 (tt i).pk.length c2] 71) := ⟨_, rfl⟩
      have hb4 : Below w3.heap.size w3 w4 := by rw [hw4]; exact (Below.refl _ _).alloc (Nat.le_refl _) _
      have hg4 : w4.heap[w3.heap.size]? = some (.cells #[.string (tt i).name, .slice A1 (tt i).cols.length c1, .slice A2 (tt i).pk.length c2] 71 (0, 0)) := by rw [hw4]; exact heap_alloc_new w3 _
      have hs4 : w3.heap.size < w4.heap.size := by rw [hw4]; simp
      have hb24 := hb3.trans (hb4.mono hb3.size)
      have hbo4 : Below wo.heap.size wo w4 := HB2.out.1.trans (hb24.mono HB2.out.1.size)
      have hnR : n3 = (rows i).length := by rw [← hR3, List.length_map, hn3]
      -- what holds in every world of the inner loop
      have HIN : Hid (∀ W v, Ext w4 v0 W v → (W.cell? ⟨wo.heap.size, 0, none⟩ = some (.string fk.name) ∧ W.cell? ⟨wo.heap.size, 1, none⟩ = some (.slice fk.A fk.cols.length fk.c) ∧ W.cell? ⟨wo.heap.size, 2, none⟩ = some (.string fk.ref)) ∧ (W.cell? ⟨w3.heap.size, 0, none⟩ = some (.string (tt i).name) ∧ W.cell? ⟨w3.heap.size, 1, none⟩ = some (.slice A1 (tt i).cols.length c1) ∧ W.cell? ⟨w3.heap.size, 2, none⟩ = some (.slice A2 (tt i).pk.length c2)) ∧ RsOk (· < W.heap.size) W A3 ks ∧ TOk (· < W.heap.size) W ⟨(tt i).name, A1, c1, (tt i).cols, A2, c2, (tt i).pk⟩) := Lib.hid fun W v hE => by
        have hv0 : ∀ g, v0.ownBlock = some g → g < wo.heap.size := fun g hg => (Own.lt HV.out.1.own g hg).2
        have hso := HB2.out.1.size
        have hs24 := hb24.size
        have hk : Keeps (fun g => wo.heap.size ≤ g ∧ g < w4.heap.size) w4 W := hE.keeps fun g hg => ⟨hg.2, fun e => by have := hv0 g e.symm; omega⟩
        have h1 : W.heap[wo.heap.size]? = _ := (hk wo.heap.size ⟨Nat.le_refl _, Nat.lt_of_lt_of_le HB2.out.2.2 hs24⟩).trans ((hb24.block _ HB2.out.2.2).trans HB2.out.2.1)
        have h2 : W.heap[w3.heap.size]? = _ := (hk w3.heap.size ⟨Nat.le_trans hso hb3.size, hs4⟩).trans hg4
        have hsz := hE.size
        exact ⟨⟨cell_of_row _ _ 0 _ _ _ h1, cell_of_row _ _ 1 _ _ _ h1, cell_of_row _ _ 2 _ _ _ h1⟩, ⟨cell_of_row _ _ 0 _ _ _ h2, cell_of_row _ _ 1 _ _ _ h2, cell_of_row _ _ 2 _ _ _ h2⟩,
          ⟨hr3.el.of fun g hg => ⟨(hk g ⟨by omega, by omega⟩).trans (hb4.block g hg.2), by omega⟩, fun x hx => (hr3.row x hx).of fun g hg => ⟨(hk g ⟨by omega, by omega⟩).trans (hb4.block g hg.2), by omega⟩⟩,
          ht3.of fun g hg => ⟨(hk g ⟨by omega, by omega⟩).trans (hb4.block g hg.2), by omega⟩⟩
      have hn24 : n3 ≤ 24 := by have := HL24.out; omega
      have HR3 := Lib.hid (And.intro hR3 (And.intro hn3 hnR))
      have HB4 := Lib.hid hbo4
      have HW4 := Lib.hid hw4
      clear ht3 hr3 hn3 hR3 hb3 hw4 hb4 hg4 hs4 hb24 hbo4 hnR HTW x0 x1 x2 f0 f1 f2 y0 y1 y2 g0 g1 g2
      go_upto_region 6 with fail
      rw [← HW4.out]
      go_wp2_with fail
      have hV4 := HV.out.1.below HB4.out HV.out.1.bel.size
      go_loopw [5, 30] (fun v5 vj wr => ∃ (j : Nat) (vs : List Vio), vj = .int .i64 (j : Int) ∧ j ≤ n3 ∧ VO w1.heap.size w1 wr v5 vs (vioD 10 Q rows i ++ vioR 10 (i : Int) (Q i) ((rows i).take j)) ∧ vs.length ≤ i * 24 + j ∧ Ext w4 v0 wr v5) (fun _ vj _ => n3 - (intOf vj).toNat)
      case atStart => exact ⟨0, vs, rfl, by omega, by simpa [vioR] using hV4, HV.out.2.1, Ext.refl _ _⟩
      case round =>
        clear hV4
        obtain ⟨j, vs2, rfl, hjn, hV2, hvl2, hE2⟩ := hrel
        obtain ⟨wq, rfl⟩ : ∃ wq, wq = wr := ⟨_, rfl⟩
        obtain ⟨v3, rfl⟩ : ∃ v3, v3 = u5 := ⟨_, rfl⟩
        by_cases hlj : j < n3
        · have hki : j < ks.length := by have := HR3.out.2.1; omega
          have hlj' : (j : Int) < (n3 : Int) := by omega
          obtain ⟨⟨f0, f1, f2⟩, ⟨t0, t1, t2⟩, hrs, htk⟩ := HIN.out wq v3 hE2
          obtain ⟨lb, loff, hA3, -, q0⟩ := hrs.el.key hki
          have hb1q : w1.heap.size ≤ wq.heap.size := hV2.bel.size
          have hb0q : Below w.heap.size w wq := HB1.out.1.trans (hV2.bel.mono HB1.out.1.size)
          obtain ⟨x0, x1, x2⟩ := HBX.out wq hV2.bel
          have hmem : ks[j].row ∈ rows i := by rw [← HR3.out.1]; exact List.mem_map_of_mem (List.getElem_mem hki)
          have HRF := Lib.hid (HH.out.tst i hlt wq hb0q ks[j] (hrs.row _ (List.getElem_mem hki)) hmem)
          have hkr := hrs.row _ (List.getElem_mem hki)
          have HFV : Hid (∀ W, Below wq.heap.size wq W → _) := Lib.hid fun W (hW : Below wq.heap.size wq W) => fvk hV2 hb1q hE2 hW (htk.on hW) (hkr.on hW) (HH.out.pk i hlt) (by have := HL24.out; have := HH.out.n8; have := HR3.out.2.2; omega) 10 (i : Int)
          have HSUC : Hid (vioR 10 (i : Int) (Q i) ((rows i).take (j + 1)) = vioR 10 (i : Int) (Q i) ((rows i).take j) ++ (if Q i ks[j].row = true then [] else [(10, (i : Int), keyOf [0] ks[j].row)])) := Lib.hid (by
            have hjl : j < (rows i).length := by have := HR3.out.2.2; omega
            have h : (rows i)[j] = ks[j].row := by simp [← HR3.out.1]
            rw [vioR_succ _ _ _ _ j hjl, h])
          have HV2 := Lib.hid (And.intro hV2 (And.intro hvl2 (And.intro hE2 hb1q)))
          have HAF : Hid (∀ W, Below wq.heap.size wq W → (W.cell? ⟨w3.heap.size, 0, none⟩ = some (.string (tt i).name) ∧ W.cell? ⟨w3.heap.size, 1, none⟩ = some (.slice A1 (tt i).cols.length c1) ∧ W.cell? ⟨w3.heap.size, 2, none⟩ = some (.slice A2 (tt i).pk.length c2))) := Lib.hid fun W hW => (HIN.out W v3 (hE2.then_below hW)).2.1
          simp only [HM.out.2] at HRF
          unfold FkM.val at HRF
          unfold Tbl.val at HFV
          clear hV2 hvl2 hE2 hrs htk hb1q hb0q hmem hkr
          generalize ks[j] = q at *
          obtain ⟨qA, qc, qr⟩ := q
          simp only at *
          rw [hA3]
          go_wp2_with fail
          refine HRF.out.mono ?_
          rintro e w5 ⟨rfl, hb5⟩
          have HB5 := Lib.hid hb5
          clear hb5 f0 f1 f2 t0 t1 t2 x0 x1 x2 q0
          obtain ⟨t0, t1, t2⟩ := HAF.out w5 HB5.out
          cases hq : Q i qr with
          | true =>
            rw [hq, if_pos rfl, List.append_nil] at HSUC
            have HQ := Lib.hid hq
            clear hq
            go_wp2_with fail
            go_roundw
            case rel => exact ⟨j + 1, vs2, by go_num, by omega, by rw [HSUC.out]; exact HV2.out.1.below HB5.out HV2.out.2.2.2, by have := HV2.out.2.1; omega, HV2.out.2.2.1.then_below HB5.out⟩
            case measure => simp [intOf]; omega
          | false =>
            rw [hq, if_neg (by decide)] at HSUC
            have HQ := Lib.hid hq
            clear hq
            go_wp2_with fail
            refine (HFV.out w5 HB5.out).mono ?_
            rintro e w6 ⟨A6, c6, rfl, HAP⟩
            go_wp2_with (at_builtin; refine wpList_app rfl (.tmp 40) (.tmp 46) _ _ rfl rfl rfl (HAP.out _) ?_; rintro v7 w7 ⟨vs7, hV7, hl7, hE7⟩)
            have HF := Lib.hid (And.intro hV7 (And.intro hl7 hE7))
            clear hV7 hl7 hE7
            go_roundw
            case rel => exact ⟨j + 1, vs7, by go_num, by omega, by rw [HSUC.out, ← List.append_assoc]; exact HF.out.1, by have := HV2.out.2.1; have := HF.out.2.1; omega, HF.out.2.2⟩
            case measure => simp [intOf]; omega
        · have hj : j = n3 := by omega
          have HEND : Hid (VO w1.heap.size w1 wq v3 vs2 (vioD 10 Q rows (i + 1)) ∧ vs2.length ≤ (i + 1) * 24) := Lib.hid (by
            rw [vioD_succ]
            have h1 := HR3.out.2.2
            have h2 := HL24.out
            rw [List.take_of_length_le (by omega)] at hV2
            exact ⟨hV2, by omega⟩)
          clear hV2 hvl2 hE2
          go_wp2_with fail
          go_roundw
          case rel => exact ⟨i + 1, vs2, by go_num, by omega, HEND.out.1, HEND.out.2⟩
          case measure => simp [intOf]; omega
    · have hi : i = n := by omega
      subst hi
      obtain ⟨A9, c9, rfl, -, -⟩ := hV.own.form
      have HF : Hid (VO w.heap.size w wo (.slice A9 vs.length c9) vs (vioD 10 Q rows i)) := Lib.hid ⟨hV.own.mono HB1.out.1.size, hV.dat, fun k hk => (hV.key k hk).more fun g hg => ⟨Nat.le_trans HB1.out.1.size hg.1, hg.2⟩, HB1.out.1.trans (hV.bel.mono HB1.out.1.size)⟩
      clear hV hvl
      go_wp2_with fail
      go_ret
      exact ⟨_, _, _, vs, rfl, HF.out⟩
end Go.Proofs.YtefifkleamiabaaGreatDoor
