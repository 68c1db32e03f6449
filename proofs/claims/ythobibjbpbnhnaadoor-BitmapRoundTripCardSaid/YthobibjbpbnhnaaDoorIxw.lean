/-
  The walk of bitmap.Indices.
-/
import Derived.Test.YthobibjbpbnhnaaDoorTz
import Derived.Test.YthobibjbpbnhnaaDoorChk
namespace Go.Proofs.YthobibjbpbnhnaaDoor
open Go.RowKit

/-- What Indices leaves. -/
def IxPost (w : World) (xs : List Nat) (e : Ending) (w' : World) : Prop := ∃ v, e = .returned (.tuple #[v, .int .i64 0]) ∧ Nats w.heap.size w' v xs ∧ Below w.heap.size w w'

set_option maxRecDepth 100000 in
set_option maxHeartbeats 1000000 in
theorem indices (n : Nat) (A : Option Addr) (c : Nat) (gs : List Nat) (w : World) (hx : Elems 1 intCs w (· < w.heap.size) A (comp gs)) (hG : Good n gs) (hn : n ≤ 100000) (hn1 : 1 ≤ n) (hT : Tab w) :
    Calls Tryd.prog 6 #[.agg #[.int .i64 n, .slice A (comp gs).length c]] w (IxPost w (ixs gs gs.length)) := by
  have hgl := hG.len
  have hgc := gc_le hn
  have hg4 : gs.length ≤ 4000 := by omega
  have HLE := Lib.hid hG.le
  have hx1 := (hx.keep (w' := w.alloc (.cells #[.int .i64 n, .slice A (comp gs).length c] 25)) fun k hk => Below.heap_alloc _ _ _ hk).more (S' := (· < (w.alloc (.cells #[.int .i64 n, .slice A (comp gs).length c] 25)).heap.size)) fun k hk => Nat.lt_of_lt_of_le hk (le_size1 (Nat.le_refl _) _)
  have HCH := Lib.hid (checkB n A c gs _ hx1 hG hn hn1)
  have HEX := Lib.hid fun W h => expand n A c gs W h hG hn hn1
  have HX := Lib.hid hx
  have HT := Lib.hid hT
  clear hx1 hx hG hgl hgc hT
  generalize comp gs = ws at *
  go_enter Tryd.func6, Tryd.ntmps6
  go_wp2_with fail
  refine HCH.out.mono ?_
  rintro e w1 ⟨rfl, hb1⟩
  have hB1 := (hb1.block w.heap.size (by rw [size1]; omega)).trans (heap_alloc_new w (.cells #[.int .i64 n, .slice A ws.length c] 25))
  have b0' := cell_of_row _ _ 0 _ _ _ hB1
  have b1' := cell_of_row _ _ 1 _ _ _ hB1
  have hb01 : Below w.heap.size w w1 := ((Below.refl _ _).alloc (Nat.le_refl _) _).trans (hb1.mono (le_size1 (Nat.le_refl _) _))
  clear hb1 hB1 HCH
  go_wp2_with fail
  refine (HEX.out _ ((HX.out.keep (Keeps.of_below hb01 fun _ h => h)).more fun k (hk : k < w.heap.size) => Nat.lt_of_lt_of_le hk hb01.size)).mono ?_
  rintro e w2 ⟨vx, rfl, hox, hb2⟩
  have hb02 := hb01.trans (hb2.mono hb01.size)
  obtain ⟨Ax, nx, cx, rfl, hnx⟩ := hox.form'
  subst hnx
  have HEL := Lib.hid ((hox.elems natLay.len rfl).more (S' := (· < w2.heap.size)) fun k hk => (hox.lt k hk).2)
  have HB := Lib.hid hb02
  clear hox hb01 hb2 hb02 b0' b1' HEX HX
  go_wp2_with fail
  go_loopw [7, 22] (fun v i wr => ∃ k : Nat, k ≤ gs.length ∧ i = .int .i64 k ∧ Nats w2.heap.size wr v (ixs gs k) ∧ Below w2.heap.size w2 wr) (fun _ i _ => gs.length - (intOf i).toNat)
  case atStart => exact ⟨0, by omega, rfl, Own.nil _, Below.refl _ _⟩
  case round =>
    obtain ⟨k, hk, rfl, hok, hbk⟩ := hrel
    by_cases hlt : k < gs.length
    · obtain ⟨b, off, rfl, hbs, c0⟩ := (HEL.out.keep (Keeps.of_below hbk fun _ h => h)).nat hlt
      have hT : ixs gs (k + 1) = ixs gs k ++ gIdx k gs[k] := by rw [ixs_succ, List.getD_eq_getElem?_getD, List.getElem?_eq_getElem hlt]; rfl
      have hgle := HLE.out _ (List.getElem_mem hlt)
      have hlen := ixs_len gs (k + 1)
      rw [hT] at hlen
      have HOK := Lib.hid hok
      have HBK := Lib.hid hbk
      have HT1 := Lib.hid hT
      have HLEN : Hid ((ixs gs k ++ gIdx k gs[k]).length ≤ 200000) := Lib.hid (by omega)
      clear hok hbk hT hlen
      generalize gs[k]'hlt = g0 at *
      generalize ixs gs k = d0 at *
      obtain ⟨wo, rfl⟩ : ∃ wo, wo = wr := ⟨_, rfl⟩
      go_wp2_with fail
      go_loopw [7, 9] (fun v t wi => ∃ (d : List Nat) (g : Nat), t = .int .i64 g ∧ g ≤ 2147483647 ∧ d ++ gIdx k g = d0 ++ gIdx k g0 ∧ Nats w2.heap.size wi v d ∧ Below w2.heap.size w2 wi) (fun _ t _ => (intOf t).toNat)
      case atStart => exact ⟨d0, g0, rfl, hgle, rfl, HOK.out, HBK.out⟩
      case round =>
        obtain ⟨d, g, rfl, hg, hd, hok, hbk⟩ := hrel
        have HD := Lib.hid hd
        have HOK := Lib.hid hok
        have HBK := Lib.hid hbk
        by_cases hg0 : g = 0
        · clear hd hok hbk
          subst hg0
          go_wp2_with fail
          go_roundw
          case rel => exact ⟨k + 1, by omega, by go_num, by rw [HT1.out, ← HD.out, gIdx_zero, List.append_nil]; exact HOK.out, HBK.out⟩
          case measure => simp [intOf]; omega
        · obtain ⟨ht, hlow⟩ := low_spec hg0 (by omega)
          have hgp : decide ((0 : Int) < (g : Int)) = true := decide_eq_true (by omega)
          have hcv : IntKind.u64.wrap (g : Int) = (g : Int) := wrap_u64_small (by omega)
          have hdl := congrArg List.length hd
          have hll := HLEN.out
          rw [← hd] at hll
          rw [hlow k, List.length_append, List.length_cons] at hll
          have H1 : Hid ((d.length + 1) * 8 ≤ 140737488355328) := Lib.hid (by omega)
          have H2 : Hid (d.length + 1 ≤ maxLen) := Lib.hid (by unfold maxLen; omega)
          have HTZ := Lib.hid fun W (h : Tab W) => tz64 g W (by omega) hg0 h
          have HTW := Lib.hid ((HT.out.keep HB.out HT.out.lt).keep hbk (Nat.lt_of_lt_of_le HT.out.lt HB.out.size))
          obtain ⟨q, hq⟩ : ∃ q, q = g - 1 := ⟨_, rfl⟩
          have hgq : (g : Int) - 1 = (q : Int) := by omega
          have hand : bits .and .i64 (g : Int) (q : Int) = ((g &&& q : Nat) : Int) := bits_and hg (by omega)
          have HG0 := Lib.hid hg0
          have HQ := Lib.hid hq
          have HLO := Lib.hid (hlow k)
          have hsz := hbk.size
          have hk4 : k ≤ 4000 := by omega
          clear hd hok hbk hdl hll hlow hq hg0
          generalize Lib.ctz 64 g = t at *
          have HN : Hid ((#[Value.int .i64 ((k : Int) * 31 + (t : Int))] : Array Value).toList = natCs (31 * k + t)) := Lib.hid (by
            show [Value.int .i64 ((k : Int) * 31 + (t : Int))] = [Value.int .i64 ((31 * k + t : Nat) : Int)]
            rw [show (k : Int) * 31 + (t : Int) = ((31 * k + t : Nat) : Int) by omega])
          go_wp2_with fail
          refine (HTZ.out wr HTW.out).mono ?_
          rintro e w3 ⟨rfl, rfl⟩
          go_wp2_with (at_builtin; refine wpList_app rfl (.tmp 33) (.tmp 40) _ _ rfl rfl rfl (run_push elem_ints natLay _ _ u7 d (31 * k + t) _ HOK.out HN.out H1.out H2.out hsz rfl) ?_; rintro v1 w4 ⟨ho1, hx1⟩)
          go_roundw
          case rel =>
            have hne : ∀ b, u7.ownBlock = some b → w2.heap.size ≤ b := fun b hb => (HOK.out.lt b hb).1
            refine ⟨d ++ [31 * k + t], g &&& q, rfl, Nat.le_trans (Nat.and_le_left) hg, ?_, ho1, HBK.out.trans (hx1.below (base := w2.heap.size) hsz hne)⟩
            rw [List.append_assoc, ← HD.out, HLO.out, HQ.out]
            rfl
          case measure =>
            have h1 := low_lt HG0.out
            rw [← HQ.out] at h1
            simp [intOf]
            omega
    · have hkl : k = gs.length := by omega
      subst hkl
      go_wp2_with fail
      go_ret2
      exact ⟨_, rfl, hok.mono HB.out.size, HB.out.trans (hbk.mono HB.out.size)⟩

end Go.Proofs.YthobibjbpbnhnaaDoor
