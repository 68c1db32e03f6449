/-
  The walk of secondary.Build.
-/
import Derived.Test.YtakbabkcidioaaaYq
namespace Go.Proofs.Ytakbabkcidioaaa
open Go.RowKit Go.Sort

/-- The index under way, in its variable at block b. -/
structure BIn (b lo base : Nat) (w0 w : World) (t : Tbl) (cols : List Int) (d : XD) (x : Ix) : Prop where
  box : w.heap[b]? = some (.cells x.cells 30 (0, 0))
  ok : IOk (fun g => lo ≤ g ∧ g < w.heap.size ∧ g ≠ b) w x
  data : x.xd = d
  cols : x.cols = cols
  tc : x.t.cols = t.cols
  pk : x.t.pk = t.pk
  xcap : x.cols.length ≤ x.xc
  bel : Below base w0 w
def BRel (b lo base : Nat) (w0 : World) (t : Tbl) (cols : List Int) (d : XD) (w : World) : Prop := ∃ x, BIn b lo base w0 w t cols d x
/-- New's answer laid into the variable. -/
theorem BIn.start {b lo base : Nat} {w0 w1 : World} {t : Tbl} {cols : List Int} {x : Ix} (hl : lo ≤ w1.heap.size) (hb : b = w1.heap.size) (ho : IOk (fun g => lo ≤ g ∧ g < w1.heap.size) w1 x) (hd : x.xd = []) (hc : x.cols = cols) (htc : x.t.cols = t.cols) (hpk : x.t.pk = t.pk) (hx : x.cols.length ≤ x.xc) (hbe : Below base w0 w1) (hbb : base ≤ lo) :
    BIn b lo base w0 (w1.alloc (.cells x.cells 30)) t cols [] x := by
  have hb1 : Below w1.heap.size w1 (w1.alloc (.cells x.cells 30)) := (Below.refl _ _).alloc (Nat.le_refl _) _
  refine ⟨by rw [hb]; exact heap_alloc_new w1 _, ?_, hd, hc, htc, hpk, hx, hbe.alloc (Nat.le_trans hbb hl) _⟩
  exact (ho.keep (Keeps.of_below hb1 fun _ h => h.2)).more fun g hg => ⟨hg.1, by have := hb1.size; omega, by omega⟩
/-- Insert's answer laid into the variable. -/
theorem BIn.next {b lo base : Nat} {w0 w w' : World} {t : Tbl} {cols : List Int} {d d' : XD} {x y : Ix} (h : BIn b lo base w0 w t cols d x) (hb : Below w.heap.size w w') (ho : IOk (fun g => w.heap.size ≤ g ∧ g < w'.heap.size) w' y) (hd : y.xd = d') (hc : y.cols = x.cols) (htc : y.t.cols = x.t.cols) (hpk : y.t.pk = x.t.pk) (hx : y.cols.length ≤ y.xc) (hlb : lo ≤ w.heap.size) (hbs : base ≤ b) :
    BIn b lo base w0 (put5 w' b y) t cols d' y := by
  have hlt : b < w.heap.size := (Array.getElem?_eq_some_iff.1 h.box).1
  refine ⟨put5_at ((hb.block b hlt).trans h.box) rfl, ?_, hd, hc.trans h.cols, htc.trans h.tc, hpk.trans h.pk, hx, put5_below (h.bel.trans (hb.mono (by omega))) hbs⟩
  exact (ho.put5 (x := y) (g := b) (fun h => by omega)).more fun g hg => ⟨by omega, by rw [put5_size]; exact hg.2, by omega⟩

set_option maxRecDepth 100000 in
set_option maxHeartbeats 4000000 in
theorem buildW (t : Tbl) (B : Option Addr) (d : Nat) (cols : List Int) (A : Option Addr) (c : Nat) (rows : List Key) (w : World) (ht : TOk (· < w.heap.size) w t) (hy : Elems 1 intCs w (· < w.heap.size) B cols) (hd : cols.length ≤ d) (hT : TabOk t) (hC : ColsOk t cols) (hr : Elems 1 Key.cs w (· < w.heap.size) A rows) (hrk : ∀ k ∈ rows, Elems 3 Val.cs w (· < w.heap.size) k.A k.row) (hg : ∀ r ∈ rows.map Key.row, RGood t cols r) (hk : ((rows.map Key.row).map (keyOf t.pk)).Nodup) (hl : rows.length ≤ 24) (hp12 : t.pk.length ≤ 12) (hc12 : cols.length ≤ 12) :
    Calls Try.prog 8 #[t.val, .slice B cols.length d, .slice A rows.length c] w (NewPost w t cols (bldX t.pk cols (rows.map Key.row))) := by
  obtain ⟨W0, hW0⟩ : ∃ W0, W0 = (w.alloc (.cells #[.string t.name, .slice t.CA t.cols.length t.cc, .slice t.PA t.pk.length t.pc] 27)).alloc (.cells #[.string ⟨#[]⟩, .slice none 0 0, .slice none 0 0, .slice none 0 0, .slice none 0 0] 30) := ⟨_, rfl⟩
  have hbW : Below w.heap.size w W0 := by rw [hW0]; exact ((Below.refl _ _).alloc (Nat.le_refl _) _).alloc (le_size1 (Nat.le_refl _) _) _
  have hg0 : W0.heap[w.heap.size]? = some (.cells #[.string t.name, .slice t.CA t.cols.length t.cc, .slice t.PA t.pk.length t.pc] 27 (0, 0)) := by rw [hW0, Below.heap_alloc _ _ _ (by simp)]; exact heap_alloc_new w _
  have hg1 : W0.heap[w.heap.size + 1]? = some (.cells #[.string ⟨#[]⟩, .slice none 0 0, .slice none 0 0, .slice none 0 0, .slice none 0 0] 30 (0, 0)) := by rw [hW0]; exact alloc2_at w _ _
  have hsz : w.heap.size + 2 = W0.heap.size := by rw [hW0]; simp
  have HX0 : Hid (W0.cell? ⟨w.heap.size, 0, none⟩ = some (.string t.name) ∧ W0.cell? ⟨w.heap.size, 1, none⟩ = some (.slice t.CA t.cols.length t.cc) ∧ W0.cell? ⟨w.heap.size, 2, none⟩ = some (.slice t.PA t.pk.length t.pc)) := Lib.hid (by
    refine ⟨?_, ?_, ?_⟩ <;> (rw [cell_of_row _ _ _ _ _ (0, 0) hg0]; rfl))
  have HNW := Lib.hid (newW t B d cols W0 (ht.on hbW) (hy.on hbW) hd hT hC)
  have HROW := Lib.hid fun (W : World) (hW : Below W0.heap.size W0 W) => (hr.on hbW).on hW
  have HDK := Lib.hid (bldX_ok hg hk (by rw [List.length_map]; exact hl))
  have HINS := Lib.hid fun (W : World) (x : Ix) (k : Nat) (hki : k < rows.length) (b : Nat) (hin : BIn b W0.heap.size W0.heap.size W0 W t cols (bldX t.pk cols ((rows.map Key.row).take k)) x) => insertW x rows[k].A rows[k].c rows[k].row W (hin.ok.more fun g hg => hg.2.1)
    (xval_of (hT.of hin.tc hin.pk) (by rw [hin.cols]; exact hC.of hin.tc) hin.xcap (by rw [hin.data, hin.cols]; exact (HDK.out k (by rw [List.length_map]; omega)).of hin.tc hin.pk)) (((hrk _ (List.getElem_mem hki)).on hbW).on hin.bel) ((hg _ (List.mem_map_of_mem (List.getElem_mem hki))).row.of hin.tc) (by rw [hin.pk]; exact hp12) (by rw [hin.cols]; exact hc12)
    (fun e he q hq ee => by
      have hm : (e.vals.row, q.row) ∈ flatX x.xd := mem_flatX.2 ⟨e.xe, List.mem_map_of_mem he, rfl, List.mem_map_of_mem hq⟩
      rw [hin.data] at hm
      obtain ⟨r, hr', he'⟩ := (mem_bldX _ _ _ _).1 hm
      obtain ⟨j, hj, rfl⟩ := List.getElem_of_mem hr'
      rw [List.length_take] at hj
      have h2 := List.pairwise_iff_getElem.1 (List.nodup_iff_pairwise_ne.1 hk) j k (by simp; omega) (by simpa using hki) (by omega)
      simp only [List.getElem_map] at h2
      rw [hin.pk] at ee
      have h3 := congrArg Prod.snd he'
      simp only [List.getElem_take, List.getElem_map] at h3
      exact h2 (h3.symm.trans ee))
  have HW := Lib.hid hW0
  have HG := Lib.hid (And.intro hbW (And.intro hg1 hsz))
  obtain ⟨n, hn⟩ : ∃ n, rows.length = n := ⟨_, rfl⟩
  have hn24 : n ≤ 24 := by omega
  have HN := Lib.hid hn
  have HTC := Lib.hid (And.intro hT (And.intro hC hk))
  rw [hn]
  clear ht hy hd hT hC hW0 hbW hg0 hg1 hsz hr hrk hg hk hl HDK hn hp12 hc12
  obtain ⟨t0, ht0⟩ : ∃ t0, t0 = t := ⟨_, rfl⟩
  have HT0 := Lib.hid ht0
  rw [← ht0] at HINS HNW HTC ⊢
  clear ht0
  obtain ⟨name, CA, cc, tc, PA, pc, pk⟩ := t
  rw [HT0.out] at HNW
  rw [show t0.val = (⟨name, CA, cc, tc, PA, pc, pk⟩ : Tbl).val by rw [HT0.out]]
  unfold Tbl.val at HNW ⊢
  simp only at HNW HX0 HW ⊢
  go_enter Try.func8, Try.ntmps8
  go_upto_region 1 with fail
  rw [← HW.out]
  obtain ⟨x0, x1, x2⟩ := HX0.out
  go_wp2_with fail
  refine HNW.out.mono ?_
  rintro e w1 ⟨x, rfl, hxo, hxd, hxc, hxt, hxp, hxx, hxb⟩
  clear x0 x1 x2 HX0 HNW
  have HS : Hid (BRel w1.heap.size W0.heap.size W0.heap.size W0 t0 cols [] (w1.alloc (.cells x.cells 30))) := Lib.hid ⟨x, BIn.start hxb.size rfl hxo hxd hxc (hxt.trans (by rw [HT0.out])) (hxp.trans (by rw [HT0.out])) hxx hxb (Nat.le_refl _)⟩
  have HSZ : Hid (W0.heap.size ≤ w1.heap.size) := Lib.hid hxb.size
  clear hxo hxd hxc hxt hxp hxx hxb
  obtain ⟨⟨n', CA', cc', tc', PA', pc', pk'⟩, XA', xc', cols', EA', ec', ents'⟩ := x
  unfold Ix.val Ix.cells
  unfold Ix.cells at HS
  simp only at HS ⊢
  go_upto_region 6 with fail
  go_wp2_with fail
  go_loopw [28] (fun vi wr => ∃ k : Nat, vi = .int .i64 (k : Int) ∧ k ≤ n ∧ BRel w1.heap.size W0.heap.size W0.heap.size W0 t0 cols (bldX t0.pk cols ((rows.map Key.row).take k)) wr) (fun vi _ => n - (intOf vi).toNat)
  case atStart => exact ⟨0, rfl, by omega, HS.out⟩
  case round =>
    obtain ⟨k, rfl, hkn, x, hin⟩ := hrel
    by_cases hlt : k < n
    · have hki : k < rows.length := by have := HN.out; omega
      obtain ⟨b, off, hA, -, e0⟩ := (HROW.out wr hin.bel).key hki
      have HI := Lib.hid (HINS.out wr x k hki _ hin)
      obtain ⟨z0, z1, z2, z3, z4⟩ := Ix.box hin.box rfl
      have hkn' : (k : Int) < (n : Int) := by omega
      have HIN := Lib.hid hin
      have HF : Hid (∀ w' y, (Below wr.heap.size wr w' ∧ IOk (fun g => wr.heap.size ≤ g ∧ g < w'.heap.size) w' y ∧ y.xd = insX (keyOf x.cols rows[k].row) (keyOf x.t.pk rows[k].row) x.xd ∧ y.cols = x.cols ∧ y.t.cols = x.t.cols ∧ y.t.pk = x.t.pk ∧ y.cols.length ≤ y.xc) → BRel w1.heap.size W0.heap.size W0.heap.size W0 t0 cols (bldX t0.pk cols ((rows.map Key.row).take (k + 1))) (put5 w' w1.heap.size y)) := Lib.hid fun w' y ⟨h1, h2, h3, h4, h5, h6, h7⟩ => by
        have hlt : w1.heap.size < wr.heap.size := (Array.getElem?_eq_some_iff.1 HIN.out.box).1
        refine ⟨y, HIN.out.next h1 h2 (h3.trans ?_) h4 h5 h6 h7 ?_ ?_⟩
        · rw [List.take_succ_eq_append_getElem (by rw [List.length_map]; exact hki), bldX_snoc, HIN.out.data, HIN.out.cols, HIN.out.pk, List.getElem_map]
        · have := HSZ.out; omega
        · exact HSZ.out
      have HBX : Hid (∀ w', Below wr.heap.size wr w' → w'.heap[w1.heap.size]? = some (.cells x.cells 30 (0, 0))) := Lib.hid fun w' hb => (hb.block _ (Array.getElem?_eq_some_iff.1 hin.box).1).trans hin.box
      rw [hA]
      clear hin hA HIN
      generalize rows[k] = q at *
      obtain ⟨⟨n2, CA2, cc2, tc2, PA2, pc2, pk2⟩, XA2, xc2, cols2, EA2, ec2, ents2⟩ := x
      unfold Ix.val Ix.cells at HI
      unfold Ix.cells at HBX
      simp only at HI HBX HF z0 z1 z2 z3 z4
      go_wp2_with fail
      refine HI.out.mono ?_
      rintro e w2 ⟨y, rfl, hyo, hyd, hyc, hyt, hyp, hyx, hyb⟩
      have HR := Lib.hid (HF.out w2 y ⟨hyb, hyo, hyd, hyc, hyt, hyp, hyx⟩)
      have hgx := HBX.out w2 hyb
      clear z0 z1 z2 z3 z4 hyo hyd hyc hyt hyp hyx hyb HF HBX HI
      obtain ⟨z0, z1, z2, z3, z4⟩ := Ix.box (x := ⟨⟨n2, CA2, cc2, tc2, PA2, pc2, pk2⟩, XA2, xc2, cols2, EA2, ec2, ents2⟩) hgx rfl
      have f0 := frozen_of_row _ _ 0 _ _ hgx
      have f1 := frozen_of_row _ _ 1 _ _ hgx
      have f2 := frozen_of_row _ _ 2 _ _ hgx
      have f3 := frozen_of_row _ _ 3 _ _ hgx
      have f4 := frozen_of_row _ _ 4 _ _ hgx
      clear hgx
      obtain ⟨⟨n3, CA3, cc3, tc3, PA3, pc3, pk3⟩, XA3, xc3, cols3, EA3, ec3, ents3⟩ := y
      unfold Ix.val Ix.cells
      unfold put5 at HR
      simp only at HR z0 z1 z2 z3 z4 ⊢
      go_wp2_with fail
      go_roundw
      case rel => exact ⟨k + 1, by go_num, by omega, HR.out⟩
      case measure => simp [intOf]; omega
    · have hkn' : k = n := by omega
      subst hkn'
      obtain ⟨z0, z1, z2, z3, z4⟩ := Ix.box hin.box rfl
      have hbb := hin.bel
      have hg1 := (hbb.block (w.heap.size + 1) (by have := HG.out.2.2; omega)).trans HG.out.2.1
      have n0 := cell_of_row _ _ 0 _ _ _ hg1
      have n1 := cell_of_row _ _ 1 _ _ _ hg1
      have n2 := cell_of_row _ _ 2 _ _ _ hg1
      have n3 := cell_of_row _ _ 3 _ _ _ hg1
      have n4 := cell_of_row _ _ 4 _ _ _ hg1
      have f0 := frozen_of_row _ _ 0 _ _ hg1
      have f1 := frozen_of_row _ _ 1 _ _ hg1
      have f2 := frozen_of_row _ _ 2 _ _ hg1
      have f3 := frozen_of_row _ _ 3 _ _ hg1
      have f4 := frozen_of_row _ _ 4 _ _ hg1
      have HF : Hid (NewPost w t0 cols (bldX t0.pk cols (rows.map Key.row)) (.returned (.tuple #[x.val, .int .i64 0])) (put5 wr (w.heap.size + 1) x) ∧ (put5 wr (w.heap.size + 1) x).heap[w.heap.size + 1]? = some (.cells x.cells 30 (0, 0))) := Lib.hid (by
        have hs2 := HG.out.2.2
        refine ⟨⟨x, rfl, (hin.ok.put5 (x := x) (g := w.heap.size + 1) (fun h => by omega)).more (fun g hg => ⟨by omega, by rw [put5_size]; exact hg.2.1⟩), ?_, hin.cols, hin.tc, hin.pk, hin.xcap, put5_below (HG.out.1.trans (hbb.mono HG.out.1.size)) (Nat.le_succ _)⟩, put5_at hg1 rfl⟩
        rw [hin.data, List.take_of_length_le (by rw [List.length_map]; exact Nat.le_of_eq HN.out)])
      clear hin hbb hg1
      obtain ⟨⟨n3, CA3, cc3, tc3, PA3, pc3, pk3⟩, XA3, xc3, cols3, EA3, ec3, ents3⟩ := x
      unfold Ix.val Ix.cells at HF
      unfold put5 at HF
      simp only at HF z0 z1 z2 z3 z4 ⊢
      go_wp2_with fail
      refine bodyPost_ret (ret_build (x := ⟨⟨n3, CA3, cc3, tc3, PA3, pc3, pk3⟩, XA3, xc3, cols3, EA3, ec3, ents3⟩) _ rfl rfl HF.out.2) rfl ?_
      exact HF.out.1
end Go.Proofs.Ytakbabkcidioaaa
