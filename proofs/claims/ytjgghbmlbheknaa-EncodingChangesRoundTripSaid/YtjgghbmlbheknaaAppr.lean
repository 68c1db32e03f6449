/-
  The walk of encoding.appendRow.
-/
import Derived.Test.YtjgghbmlbheknaaEncw
import Derived.Deep.RegionHeld3
import Derived.Deep.DrawnRows
namespace Go.Proofs.Ytjgghbmlbheknaa
open Go.RowKit

theorem info_u8 : (Try.prog.info? 5).map (fun i => (i.zero, i.size, i.bytes)) = some (some (.int .u8 0), 1, 1) := by kernel_rfl

theorem byte_0 : (#[Value.int .u8 0] : Array Value).toList = byteCs 0 := rfl
theorem byte_1 : (#[Value.int .u8 1] : Array Value).toList = byteCs 1 := rfl
theorem byte_2 : (#[Value.int .u8 2] : Array Value).toList = byteCs 2 := rfl
theorem byte_3 : (#[Value.int .u8 3] : Array Value).toList = byteCs 3 := rfl

set_option maxRecDepth 100000 in
set_option maxHeartbeats 400000 in
theorem appendRow (base : Nat) (v : Value) (xs : List UInt8) (A : Option Addr) (c : Nat) (r : List Val) (w : World) (S : Nat → Prop)
    (hown : Buf base w v xs) (hB : base ≤ w.heap.size) (hr : Elems 3 Val.cs w S A r) (hS : ∀ k, S k → k < w.heap.size ∧ some k ≠ v.ownBlock) (hv : rErr r = 0) (hs : Small (xs.length + (encR r).length)) :
    Calls Try.prog 24 #[v, .slice A r.length c] w fun e w' => ∃ v', e = .returned v' ∧ Buf base w' v' (xs ++ encR r) ∧ Ext w v w' v' := by
  obtain ⟨hl12, hval⟩ := rErr_zero hv
  have hs1 : Small (xs.length + 1) := hs.le (by simp only [encR, List.length_cons]; omega)
  have HS := Lib.hid hs
  have HV := Lib.hid hval
  clear hs hval hv
  go_enter Try.func24, Try.ntmps24
  go_wp2_with (at_builtin; (refine wpList_app rfl (.tmp 7) (.tmp 11) _ _ rfl rfl rfl (run_push elem_u8 byteLay _ w v xs (UInt8.ofNat r.length) _ hown (byte_lo _ (by omega)) hs1.bytes hs1.maxLen hB rfl) ?_; rintro v1 w1 ⟨ho1, hx1⟩))
  go_loopw [0, 15] (fun dst i wr => ∃ (k : Nat) (ys : List UInt8), k ≤ r.length ∧ i = .int .i64 k ∧ Buf base wr dst ys ∧ ys ++ (r.drop k).flatMap encV = xs ++ encR r ∧ Ext w v wr dst) (fun _ i _ => r.length - (intOf i).toNat)
  case atStart => exact ⟨0, _, by omega, rfl, ho1, by simp [encR], hx1⟩
  case round =>
    obtain ⟨k, ys, hk, rfl, ho, he, hx⟩ := hrel
    have hBr : base ≤ wr.heap.size := Nat.le_trans hB hx.size
    have hsy : Small ys.length := HS.out.le (by have := congrArg List.length he; simp only [List.length_append] at this ⊢; omega)
    by_cases hlt : k < r.length
    · rw [List.drop_eq_getElem_cons hlt, List.flatMap_cons] at he
      have hx0 : r[k].err = 0 := HV.out _ (List.getElem_mem hlt)
      obtain ⟨b, off, rfl, hbs, c0, c1, c2⟩ := (hr.keep (hx.keeps hS)).val hlt
      have hsk : Small (ys.length + (encV r[k]).length) := HS.out.le (by have := congrArg List.length he; simp only [List.length_append] at this ⊢; omega)
      have hb : b < wr.heap.size := by have := (hS b hbs).1; have := hx.size; omega
      generalize r[k] = x at *
      obtain ⟨kd, n, s⟩ := x
      have hne : u0.ownBlock ≠ some wr.heap.size := fun e => by have := (ho.lt _ e).2; omega
      have HE := Lib.hid he
      have HX := Lib.hid hsk
      have HY := Lib.hid hsy
      clear he hsk hsy HS HV hown hr ho1 hx1 hs1
      simp only at c0 c1 c2
      rcases valid_cases hx0 with ⟨h1, h2, h3⟩ | ⟨h1, h2, h3, h4⟩ | ⟨h1, h2, h3⟩ | ⟨h1, h2, h3⟩
      · simp only at h1 h2 h3
        subst h1
        subst h2
        have hs1 : Small (ys.length + 1) := HX.out.le (by simp [encV, encP])
        go_wp2_with (at_builtin; (refine wpList_app rfl (.tmp 19) (.tmp 23) _ _ rfl rfl rfl (run_push elem_u8 byteLay _ _ u0 ys 0 _ (ho.alloc _) byte_0 hs1.bytes hs1.maxLen (le_size1 hBr _) (size1 _ _)) ?_; rintro v2 w2 ⟨ho2, hx2⟩; have f0 := hx2.old_cell (g := wr.heap.size) (i := 0) (World.cell?_alloc_new _ _ _ _) hne))
        go_roundw
        case rel => exact ⟨k + 1, _, by omega, by go_num, ho2, by rw [← HE.out]; simp [encV, encP], (hx.alloc _).trans hx2⟩
        case measure => simp [intOf]; omega
      · simp only at h1 h2 h3 h4
        subst h1
        have hs1 : Small (ys.length + 1) := HX.out.le (by simp [encV, encP])
        have hs2 : Small ((ys ++ [1]).length + (encU (zig n)).length) := HX.out.le (by simp [encV, encP]; omega)
        have hz := zig_u64 h2 h3
        have HZ := Lib.hid hs2
        clear hs2
        go_wp2_with (first
          | (at_builtin; (refine wpList_app rfl (.tmp 19) (.tmp 23) _ _ rfl rfl rfl (run_push elem_u8 byteLay _ _ u0 ys 1 _ (ho.alloc _) byte_1 hs1.bytes hs1.maxLen (le_size1 hBr _) (size1 _ _)) ?_; rintro v2 w2 ⟨ho2, hx2⟩; have f0 := hx2.old_cell (g := wr.heap.size) (i := 0) (World.cell?_alloc_new _ _ _ _) hne; have f1 := hx2.old_cell (g := wr.heap.size) (i := 1) (World.cell?_alloc_new _ _ _ _) hne))
          | (go_at_call 33; rw [zig_walk n h2 h3]; (refine (appendUvarint base v2 _ _ hz w2 ho2 (hx2.base1 hBr) HZ.out).mono ?_; rintro e w3 ⟨v3, rfl, ho3, hx3⟩)))
        go_roundw
        case rel => exact ⟨k + 1, _, by omega, by go_num, ho3, by rw [← HE.out]; simp [encV, encP], ((hx.alloc _).trans hx2).trans hx3⟩
        case measure => simp [intOf]; omega
      · simp only at h1 h2 h3
        subst h1
        have hs1 : Small (ys.length + 1) := HX.out.le (by simp [encV, encP])
        have hs2 : Small ((ys ++ [2]).length + 1) := HX.out.le (by simp [encV, encP])
        have hn : (#[Value.int .u8 n] : Array Value).toList = byteCs (UInt8.ofNat n.toNat) := by
          rcases h2 with rfl | rfl <;> rfl
        have hn0 : 0 ≤ n := by omega
        have hn1 : n ≤ 255 := by omega
        clear h2
        go_wp2_with (first
          | (at_builtin; (refine wpList_app rfl (.tmp 19) (.tmp 23) _ _ rfl rfl rfl (run_push elem_u8 byteLay _ _ u0 ys 2 _ (ho.alloc _) byte_2 hs1.bytes hs1.maxLen (le_size1 hBr _) (size1 _ _)) ?_; rintro v2 w2 ⟨ho2, hx2⟩; have f0 := hx2.old_cell (g := wr.heap.size) (i := 0) (World.cell?_alloc_new _ _ _ _) hne; have f1 := hx2.old_cell (g := wr.heap.size) (i := 1) (World.cell?_alloc_new _ _ _ _) hne))
          | (at_builtin; (refine wpList_app rfl (.tmp 42) (.tmp 46) _ _ rfl rfl rfl (run_push elem_u8 byteLay _ _ v2 (ys ++ [2]) (UInt8.ofNat n.toNat) _ ho2 hn hs2.bytes hs2.maxLen (hx2.base1 hBr) rfl) ?_; rintro v3 w3 ⟨ho3, hx3⟩)))
        go_roundw
        case rel => exact ⟨k + 1, _, by omega, by go_num, ho3, by rw [← HE.out]; simp [encV, encP], ((hx.alloc _).trans hx2).trans hx3⟩
        case measure => simp [intOf]; omega
      · simp only at h1 h2 h3
        subst h1
        have hs1 : Small (ys.length + 1) := HX.out.le (by simp [encV, encP])
        have hs2 : Small ((ys ++ [3]).length + 1) := HX.out.le (by simp [encV, encP]; omega)
        have hs3 : (((ys ++ [3]) ++ [UInt8.ofNat s.size]).length + s.size) ≤ 140737488355328 := (by have h := HX.out; unfold Small at h; simp [encV, encP] at h ⊢; have : s.data.size = s.size := rfl; omega)
        have HZ := Lib.hid hs3
        clear hs3
        have hws : IntKind.u8.wrap (s.size : Int) = s.size := by simp only [IntKind.wrap_u8]; omega
        go_wp2_with (at_builtin; (refine wpList_app rfl (.tmp 19) (.tmp 23) _ _ rfl rfl rfl (run_push elem_u8 byteLay _ _ u0 ys 3 _ (ho.alloc _) byte_3 hs1.bytes hs1.maxLen (le_size1 hBr _) (size1 _ _)) ?_; rintro v2 w2 ⟨ho2, hx2⟩; have f0 := hx2.old_cell (g := wr.heap.size) (i := 0) (World.cell?_alloc_new _ _ _ _) hne; have f2 := hx2.old_cell (g := wr.heap.size) (i := 2) (World.cell?_alloc_new _ _ _ _) hne))
        have hb2 : base ≤ ((w2.alloc (.cells #[.int .u8 (s.size : Int)] 5)).drew).heap.size := by have := hx2.size; simp at this ⊢; omega
        have hbs2 := byte_lo s.size (by omega)
        have hb3 : base ≤ w2.heap.size := by have := hx2.size; simp at this; omega
        have hlt2 : wr.heap.size < w2.heap.size := by have := hx2.size; simp at this; omega
        have hne2 : v2.ownBlock ≠ some wr.heap.size := hx2.ne hne (by simp)
        go_region_held3 (fun w' => w'.cell? ⟨wr.heap.size, 2, none⟩ = some (.string s)) (go_keep)
          (first
            | (refine step_app (by rfl) (.tmp 56) (.tmp 58) _ _ (by rfl) (by rfl) (by rfl) (run_pushStr Try.underlying24 Try.underlying9 info_u8 _ _ v3 ((ys ++ [3]) ++ [UInt8.ofNat s.size]) s ho3 HZ.out (Nat.le_trans hb3 hx3.size)) ?_; rintro v4 w4 ⟨ho4, hx4⟩; have f4 := hx4.old_cell f3 hne3)
            | (refine step_app (by rfl) (.tmp 50) (.tmp 55) _ _ (by rfl) (by rfl) (by rfl) (run_push_at elem_u8 byteLay _ w2 v2 (ys ++ [3]) (UInt8.ofNat s.size) ((Ext.refl w2 v2).alloc _).drew (ho2.alloc _).drew (heap_alloc_new w2 _) hbs2 hs2.bytes hs2.maxLen hb2) ?_; rintro v3 w3 ⟨ho3, hx3⟩; have f3 := hx3.old_cell f2 hne2; have hne3 := hx3.ne hne2 hlt2))
        go_wp2_with fail
        go_roundw
        case rel => exact ⟨k + 1, _, by omega, by go_num, ho4, by rw [← HE.out]; simp [encV, encP], (((hx.alloc _).trans hx2).trans hx3).trans hx4⟩
        case measure => simp [intOf]; omega
    · go_wp2_with fail
      go_ret
      exact ⟨_, rfl, by rw [List.drop_eq_nil_of_le (by omega)] at he; rw [← he]; simpa using ho, hx⟩
end Go.Proofs.Ytjgghbmlbheknaa
