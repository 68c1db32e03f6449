/-
  The walks of secondary.New and Build.
-/
import Derived.Test.YtakbabkcidioaaaYf
import Derived.Test.YtakbabkcidioaaaYp
namespace Go.Proofs.Ytakbabkcidioaaa
open Go.RowKit Go.Sort

def NewPost (w : World) (t : Tbl) (cols : List Int) (D : XD) (e : Ending) (w' : World) : Prop := ∃ x', e = .returned (.tuple #[x'.val, .int .i64 0]) ∧ IOk (fun g => w.heap.size ≤ g ∧ g < w'.heap.size) w' x' ∧ x'.xd = D ∧ x'.cols = cols ∧ x'.t.cols = t.cols ∧ x'.t.pk = t.pk ∧ x'.cols.length ≤ x'.xc ∧ Below w.heap.size w w'
theorem ret_new {x : Ix} {g : Nat} {w : World} (tmps : Array Value) (hp : tmps.getD 4 undef = .pointer (some ⟨g, 0, none⟩)) (h5 : tmps.getD 5 undef = .int .i64 0) (hg : w.heap[g]? = some (.cells x.cells 30 (0, 0))) :
    (results Try.f20 tmps).run Try.prog w = .ok (.tuple #[x.val, .int .i64 0]) w :=
  results_cell_tmp (P := Try.prog) Try.results20 tmps w g 30 _ (0, 0) _ _ hp h5 hg Try.underlying30 rfl (by kernel_rfl)
theorem ret_build {x : Ix} {g : Nat} {w : World} (tmps : Array Value) (hp : tmps.getD 6 undef = .pointer (some ⟨g, 0, none⟩)) (h5 : tmps.getD 7 undef = .int .i64 0) (hg : w.heap[g]? = some (.cells x.cells 30 (0, 0))) :
    (results Try.f8 tmps).run Try.prog w = .ok (.tuple #[x.val, .int .i64 0]) w :=
  results_cell_tmp (P := Try.prog) Try.results8 tmps w g 30 _ (0, 0) _ _ hp h5 hg Try.underlying30 rfl (by kernel_rfl)
/-- An index laid over the cells of a variable. -/
def put5 (w : World) (g : Nat) (x : Ix) : World := ((((w.setCell ⟨g, 0, none⟩ (.string x.t.name)).setCell ⟨g, 1, none⟩ (.slice x.t.CA x.t.cols.length x.t.cc)).setCell ⟨g, 2, none⟩ (.slice x.t.PA x.t.pk.length x.t.pc)).setCell ⟨g, 3, none⟩ (.slice x.XA x.cols.length x.xc)).setCell ⟨g, 4, none⟩ (.slice x.EA x.ents.length x.ec)
theorem put5_size (w : World) (g : Nat) (x : Ix) : (put5 w g x).heap.size = w.heap.size := by
  unfold put5
  simp only [setCell_size]
theorem put5_at {w : World} {g : Nat} {x : Ix} {cs : Array Value} (h : w.heap[g]? = some (.cells cs 30 (0, 0))) (hs : cs.size = 5) : (put5 w g x).heap[g]? = some (.cells x.cells 30 (0, 0)) := by
  unfold put5
  rw [heap_setCell_at (heap_setCell_at (heap_setCell_at (heap_setCell_at (heap_setCell_at h _) _) _) _)]
  match cs, hs with
  | ⟨[a, b, c, d, e]⟩, _ => rfl
theorem put5_off {w : World} {g k : Nat} {x : Ix} (h : k ≠ g) : (put5 w g x).heap[k]? = w.heap[k]? := by
  unfold put5
  rw [heap_setCell_off (p := ⟨g, 4, none⟩) h, heap_setCell_off (p := ⟨g, 3, none⟩) h, heap_setCell_off (p := ⟨g, 2, none⟩) h, heap_setCell_off (p := ⟨g, 1, none⟩) h, heap_setCell_off (p := ⟨g, 0, none⟩) h]
theorem put5_below {base : Nat} {w w' : World} {g : Nat} {x : Ix} (hb : Below base w w') (hg : base ≤ g) : Below base w (put5 w' g x) :=
  ((((hb.setCell (p := ⟨g, 0, none⟩) hg _).setCell (p := ⟨g, 1, none⟩) hg _).setCell (p := ⟨g, 2, none⟩) hg _).setCell (p := ⟨g, 3, none⟩) hg _).setCell (p := ⟨g, 4, none⟩) hg _
theorem IOk.put5 {S : Nat → Prop} {w : World} {g : Nat} {x y : Ix} (h : IOk S w y) (hg : ¬ S g) : IOk S (put5 w g x) y := h.keep fun _ hk => put5_off fun e => hg (e ▸ hk)

set_option maxRecDepth 100000 in
set_option maxHeartbeats 4000000 in
theorem newW (t : Tbl) (B : Option Addr) (d : Nat) (cols : List Int) (w : World) (ht : TOk (· < w.heap.size) w t) (hy : Elems 1 intCs w (· < w.heap.size) B cols) (hd : cols.length ≤ d) (hT : TabOk t) (hC : ColsOk t cols) :
    Calls Try.prog 20 #[t.val, .slice B cols.length d] w (NewPost w t cols []) := by
  obtain ⟨W0, hW0⟩ : ∃ W0, W0 = (w.alloc (.cells #[.string t.name, .slice t.CA t.cols.length t.cc, .slice t.PA t.pk.length t.pc] 27)).alloc (.cells #[.string ⟨#[]⟩, .slice none 0 0, .slice none 0 0, .slice none 0 0, .slice none 0 0] 30) := ⟨_, rfl⟩
  have hbW : Below w.heap.size w W0 := by rw [hW0]; exact ((Below.refl _ _).alloc (Nat.le_refl _) _).alloc (le_size1 (Nat.le_refl _) _) _
  have hg0 : W0.heap[w.heap.size]? = some (.cells #[.string t.name, .slice t.CA t.cols.length t.cc, .slice t.PA t.pk.length t.pc] 27 (0, 0)) := by rw [hW0, Below.heap_alloc _ _ _ (by simp)]; exact heap_alloc_new w _
  have hg1 : W0.heap[w.heap.size + 1]? = some (.cells #[.string ⟨#[]⟩, .slice none 0 0, .slice none 0 0, .slice none 0 0, .slice none 0 0] 30 (0, 0)) := by rw [hW0]; exact alloc2_at w _ _
  have hsz : w.heap.size + 2 = W0.heap.size := by rw [hW0]; simp
  have HBX : Hid (∀ W, Below W0.heap.size W0 W → W.cell? ⟨w.heap.size, 0, none⟩ = some (.string t.name) ∧ W.cell? ⟨w.heap.size, 1, none⟩ = some (.slice t.CA t.cols.length t.cc) ∧ W.cell? ⟨w.heap.size, 2, none⟩ = some (.slice t.PA t.pk.length t.pc)) := Lib.hid fun W hW => by
    have h := (hW.block _ (by omega)).trans hg0
    refine ⟨?_, ?_, ?_⟩ <;> (rw [cell_of_row _ _ _ _ _ (0, 0) h]; rfl)
  have HCT := Lib.hid (checkTable t B d cols W0 (ht.on hbW) (hy.on hbW) hd hT hC)
  have HCL := Lib.hid fun (W : World) (hW : Below W0.heap.size W0 W) => cloneIx ⟨t, B, d, cols, none, 0, []⟩ W ⟨(ht.on hbW).on hW, (hy.on hbW).on hW, Elems.nil _ _ _, fun e he => (by cases he)⟩ ⟨Nat.zero_le _, fun e he => (by cases he), hC.pos.2, by have := hT.ncols; show t.cols.length ≤ 1000; omega, hT.npk.2⟩
  have HW := Lib.hid hW0
  have HG := Lib.hid (And.intro hbW (And.intro hg1 hsz))
  clear ht hy hd hT hC hW0 hbW hg0 hg1 hsz
  obtain ⟨name, CA, cc, tc, PA, pc, pk⟩ := t
  unfold Tbl.val
  simp only [Tbl.val, Ix.val, Ix.cells] at HBX HCT HCL HW ⊢
  go_enter Try.func20, Try.ntmps20
  go_upto_region 1 with fail
  rw [← HW.out]
  obtain ⟨x0, x1, x2⟩ := HBX.out W0 (Below.refl _ _)
  go_wp2_with fail
  refine HCT.out.mono ?_
  rintro e w1 ⟨rfl, hb1⟩
  clear x0 x1 x2 HCT
  obtain ⟨x0, x1, x2⟩ := HBX.out w1 hb1
  have HCL1 := Lib.hid (HCL.out w1 hb1)
  have HB1 := Lib.hid hb1
  clear hb1 HCL
  go_wp2_with fail
  refine HCL1.out.mono ?_
  rintro e w2 ⟨y, R, rfl, hown, hlo, hlike, hb2⟩
  clear x0 x1 x2 HCL1
  have hb02 : Below W0.heap.size W0 w2 := HB1.out.trans (hb2.mono HB1.out.size)
  have hsz2 := HG.out.2.2
  have hg1 := (hb02.block (w.heap.size + 1) (by omega)).trans HG.out.2.1
  have n0 := cell_of_row _ _ 0 _ _ _ hg1
  have n1 := cell_of_row _ _ 1 _ _ _ hg1
  have n2 := cell_of_row _ _ 2 _ _ _ hg1
  have n3 := cell_of_row _ _ 3 _ _ _ hg1
  have n4 := cell_of_row _ _ 4 _ _ _ hg1
  have f0 := frozen_of_row _ _ 0 _ _ hg1
  have f1 := frozen_of_row _ _ 1 _ _ hg1
  have f2 := frozen_of_row _ _ 2 _ _ hg1
  have f3 := frozen_of_row _ _ 3 _ _ hg1
  have f4 := frozen_of_row _ _ 4 _ _ hg1
  have HF : Hid (NewPost w ⟨name, CA, cc, tc, PA, pc, pk⟩ cols [] (.returned (.tuple #[y.val, .int .i64 0])) (put5 w2 (w.heap.size + 1) y) ∧ (put5 w2 (w.heap.size + 1) y).heap[w.heap.size + 1]? = some (.cells y.cells 30 (0, 0))) := Lib.hid (by
    have hS : ¬ (w1.heap.size ≤ w.heap.size + 1 ∧ w.heap.size + 1 < w2.heap.size) := fun h => by have := HB1.out.size; omega
    refine ⟨⟨y, rfl, ((hown.okLo hlo).put5 (x := y) hS).more (fun g hg => ⟨by have := HB1.out.size; omega, by rw [put5_size]; exact hg.2⟩), hlike.xd, hlike.cols, hlike.tc, hlike.pk, hlike.xcap, put5_below (HG.out.1.trans (hb02.mono HG.out.1.size)) (Nat.le_succ _)⟩, put5_at hg1 rfl⟩)
  clear hown hlo hlike hb2 hb02 hg1
  obtain ⟨⟨n', CA', cc', tc', PA', pc', pk'⟩, XA', xc', cols', EA', ec', ents'⟩ := y
  unfold Ix.val Ix.cells
  unfold put5 at HF
  simp only at HF ⊢
  go_wp2_with fail
  refine bodyPost_ret (ret_new _ rfl rfl HF.out.2) rfl ?_
  exact HF.out.1
end Go.Proofs.Ytakbabkcidioaaa
