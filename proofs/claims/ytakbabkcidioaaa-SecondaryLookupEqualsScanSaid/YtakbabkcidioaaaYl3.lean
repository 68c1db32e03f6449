/-
  The walk of Lookup and of the law SecondaryRangeSplits.
-/
import Derived.Test.YtakbabkcidioaaaYlq
import Derived.Test.YtakbabkcidioaaaYl1
namespace Go.Proofs.Ytakbabkcidioaaa
open Go.RowKit Go.Sort

set_option maxRecDepth 100000 in
theorem lookupW (x : Ix) (A : Option Addr) (c : Nat) (v : Row) (w : World) (hx : IOk (· < w.heap.size) w x) (hv : XVal x) (h1 : Elems 3 Val.cs w (· < w.heap.size) A v) (hvv : VOk x.t x.cols v) (hcl : x.cols.length ≤ 12) :
    Calls Try.prog 13 #[x.val, .slice A v.length c] w (LkPost w v v x.xd) := by
  obtain ⟨W1, hW1⟩ : ∃ W1, W1 = w.alloc (.cells x.cells 30) := ⟨_, rfl⟩
  have hb1 : Below w.heap.size w W1 := by rw [hW1]; exact (Below.refl _ _).alloc (Nat.le_refl _) _
  have hg0 : W1.heap[w.heap.size]? = some (.cells x.cells 30 (0, 0)) := by rw [hW1]; exact heap_alloc_new w _
  have HL := Lib.hid (lookupRangeW x A c v A c v W1 (hx.on hb1) hv (h1.on hb1) (h1.on hb1) hvv hvv hcl)
  obtain ⟨x0, x1, x2, x3, x4⟩ := Ix.box (w' := W1) hg0 rfl
  have HW1 := Lib.hid hW1
  have HB1 := Lib.hid hb1
  clear hx hv h1 hvv hcl hW1 hb1 hg0
  obtain ⟨nl, hnl⟩ : ∃ nl, v.length = nl := ⟨_, rfl⟩
  rw [hnl] at HL ⊢
  clear hnl
  obtain ⟨D, hD⟩ : ∃ D, D = x.xd := ⟨_, rfl⟩
  rw [← hD] at HL ⊢
  clear hD
  obtain ⟨⟨name, CA, cc, tc, PA, pc, pk⟩, XA, xc, cols, EA, ec, ents⟩ := x
  unfold Ix.val
  unfold Ix.cells at HW1 ⊢
  simp only [Ix.val, Ix.cells] at HL HW1 x0 x1 x2 x3 x4 ⊢
  go_enter Try.func13, Try.ntmps13
  go_upto_region 1 with fail
  rw [← HW1.out]
  go_wp2_with fail
  refine HL.out.mono ?_
  rintro e w2 ⟨u, ks, rfl, ho, hr, hk, hb⟩
  have HF : Hid (LkPost w v v D (.returned (.tuple #[u, .int .i64 0])) w2) := Lib.hid ⟨u, ks, rfl, ho.mono HB1.out.size, hr, hk, HB1.out.trans (hb.mono HB1.out.size)⟩
  clear ho hr hk hb
  go_wp2_with fail
  go_ret2
  exact HF.out
end Go.Proofs.Ytakbabkcidioaaa
