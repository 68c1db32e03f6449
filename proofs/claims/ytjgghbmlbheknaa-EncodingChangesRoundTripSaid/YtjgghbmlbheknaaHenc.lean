/-
  The walk of EncodeChanges.
-/
import Derived.Test.YtjgghbmlbheknaaHchk
import Derived.Test.YtjgghbmlbheknaaIenc
namespace Go.Proofs.Ytjgghbmlbheknaa
open Go.RowKit

set_option maxRecDepth 100000 in
set_option maxHeartbeats 1000000 in
theorem encodeChgs_no (A : Option Addr) (c : Nat) (ts : List Ch) (cs : List Chg) (w : World) (h : ChgsH w (· < w.heap.size) A ts cs) (hl : cs.length ≤ maxLen) (he : chgsErr cs ≠ 0) :
    Calls Try.prog 20 #[.slice A cs.length c] w fun e w' => e = .returned (.tuple #[.slice none 0 0, .int .i64 (chgsErr cs)]) ∧ Below w.heap.size w w' := by
  have hz : (chgsErr cs != 0) = true := by simp [he]
  have HC := Lib.hid (checkChanges A c ts cs w h hl)
  clear he
  go_enter Try.func20, Try.ntmps20
  go_wp2_with fail
  refine HC.out.mono ?_
  rintro e w1 ⟨rfl, hb1⟩
  go_wp2_with fail
  go_ret2
  exact ⟨rfl, hb1⟩

/-- What EncodeChanges leaves where the changes are valid. -/
def EncCPost (w : World) (cs : List Chg) (e : Ending) (w' : World) : Prop :=
  ∃ v, e = .returned (.tuple #[v, .int .i64 0]) ∧ Buf w.heap.size w' v (encCs cs) ∧ Below w.heap.size w w'

set_option maxRecDepth 100000 in
set_option maxHeartbeats 4000000 in
theorem encodeChgs_ok (A : Option Addr) (c : Nat) (ts : List Ch) (cs : List Chg) (w : World) (h : ChgsH w (· < w.heap.size) A ts cs) (hl : cs.length ≤ maxLen) (he : chgsErr cs = 0) :
    Calls Try.prog 20 #[.slice A cs.length c] w (EncCPost w cs) := by
  have HC := Lib.hid (checkChanges A c ts cs w h hl)
  rw [he] at HC
  obtain ⟨hn6, hval⟩ := chgsErr_zero he
  have hlen := encCs_len he
  have HH := Lib.hid h
  have HV := Lib.hid hval
  have HL := Lib.hid hlen
  have y1 : ((cs.length : Nat) : Int) % 256 = (cs.length : Int) := by omega
  have y2 : IntKind.u8.wrap (cs.length : Int) = (cs.length : Int) := by rw [IntKind.wrap_u8]; omega
  have HEI : Hid (encCs cs = UInt8.ofNat cs.length :: cs.flatMap encC) := Lib.hid rfl
  clear h hval hlen he
  go_enter Try.func20, Try.ntmps20
  go_wp2_with fail
  refine HC.out.mono ?_
  rintro e w1 ⟨rfl, hb1⟩
  have HB0 := Lib.hid ((lit1_u8 w1 cs.length (by omega)).mono hb1.size)
  have HB1 := Lib.hid (hb1.alloc hb1.size (.cells #[.int .u8 (cs.length : Int)] 5))
  clear hb1 HC
  go_wp2_with fail
  go_loopw [5, 19] (fun v i wr => ∃ (k : Nat) (ys : List UInt8), k ≤ cs.length ∧ i = .int .i64 k ∧ Buf w.heap.size wr v ys ∧ ys ++ (cs.drop k).flatMap encC = encCs cs ∧ Below w.heap.size w wr) (fun _ i _ => cs.length - (intOf i).toNat)
  case atStart => exact ⟨0, _, by omega, rfl, HB0.out, by rw [HEI.out]; rfl, HB1.out⟩
  case round =>
    obtain ⟨k, ys, hk, rfl, ho, he, hbk⟩ := hrel
    clear HB0 HB1
    by_cases hlt : k < cs.length
    · obtain ⟨b, off, t, rfl, hbs, c0, c1, c2, c3, hch⟩ := (HH.out.keep (Keeps.of_below hbk fun _ h => h)).at_ hlt
      rw [List.drop_eq_getElem_cons hlt, List.flatMap_cons] at he
      have hx0 := HV.out _ (List.getElem_mem hlt)
      obtain ⟨hsh, hnm, hro, hrn⟩ := chgErr_zero hx0
      have h12 := nameOk_size hnm
      obtain ⟨x, hx2⟩ : ∃ x, x = cs[k] := ⟨_, rfl⟩
      rw [← hx2] at c0 c1 c2 c3 hch he hsh hro hrn h12
      have hrl : encC x = UInt8.ofNat x.kind.toNat :: (encS x.name ++ encR x.row) := rfl
      have hrw : x.row = if x.kind = 1 then x.new else x.old := rfl
      have hk12 : x.kind = 1 ∨ x.kind = 2 := hsh.elim (fun h => .inl h.1) (fun h => .inr h.1)
      rw [hrl] at he
      obtain ⟨kd, nm, old, new⟩ := x
      obtain ⟨tk, tn, ⟨A2, n2, d2⟩, ⟨A3, n3, d3⟩⟩ := t
      simp only at c0 c1 c2 c3 h12 hro hrn hrw hk12 he
      generalize hrow : Chg.row ⟨kd, nm, old, new⟩ = row at *
      have hll := HL.out
      rw [← he] at hll
      have hsl := encS_len nm
      have hs0 : Small (ys.length + 1) := by unfold Small; simp at hll ⊢; omega
      have hs1 : Small ((ys ++ [UInt8.ofNat kd.toNat]).length + (encS nm).length) := by unfold Small; simp at hll ⊢; omega
      have hs2 : Small ((ys ++ UInt8.ofNat kd.toNat :: encS nm).length + (encR row).length) := by unfold Small; simp at hll ⊢; omega
      have H3 := Lib.hid hs0.bytes
      have H4 := Lib.hid hs0.maxLen
      have HE := Lib.hid he
      have HBK := Lib.hid hbk
      have HRW2 := Lib.hid (hch.keep (w' := w) fun j hj => (hbk.block j hj).symm).old
      have HRW3 := Lib.hid (hch.keep (w' := w) fun j hj => (hbk.block j hj).symm).new
      have HRO := Lib.hid hro
      have HRN := Lib.hid hrn
      have HRW := Lib.hid hrw
      have HO := Lib.hid ho
      have hsz := hbk.size
      have hws : IntKind.u8.wrap kd = kd := by rw [IntKind.wrap_u8]; omega
      have hbs3 : (#[Value.int .u8 kd] : Array Value).toList = byteCs (UInt8.ofNat kd.toNat) := by
        have := byte_lo kd.toNat (by omega)
        rwa [show ((kd.toNat : Nat) : Int) = kd by omega] at this
      have HKB := Lib.hid hbs3
      have hneB : u5.ownBlock ≠ some wr.heap.size := fun e => by have := (ho.lt _ e).2; omega
      have HS1 := Lib.hid hs1
      have HS2 := Lib.hid hs2
      simp only at HRW2 HRW3
      clear he hbk hch hx2 hrl hll hs0 hs1 hs2 hsl hro hrn hrw ho hbs hnm hsh hx0 hrow hbs3
      obtain ⟨wo, rfl⟩ : ∃ wo, wo = wr := ⟨_, rfl⟩
      have hszB : w.heap.size ≤ ((wo.alloc (.cells #[.int .i64 kd, .string nm, .slice A2 old.length d2, .slice A3 new.length d3] 71)).drew).heap.size := le_size1 hsz _
      have g1 : (((wo.alloc (.cells #[.int .i64 kd, .string nm, .slice A2 old.length d2, .slice A3 new.length d3] 71)).drew).alloc (.cells #[.int .u8 kd] 5)).cell? ⟨wo.heap.size, 1, none⟩ = some (.string nm) :=
        (World.cell?_of_block (a := ⟨wo.heap.size, 1, none⟩) (Below.heap_alloc _ _ wo.heap.size (by show wo.heap.size < (wo.alloc (.cells #[.int .i64 kd, .string nm, .slice A2 old.length d2, .slice A3 new.length d3] 71)).heap.size; rw [size1]; omega))).trans (World.cell?_alloc_new wo _ _ _)
      have HBa : Hid (Below w.heap.size w ((wo.alloc (.cells #[.int .i64 kd, .string nm, .slice A2 old.length d2, .slice A3 new.length d3] 71)).drew)) := Lib.hid (HBK.out.alloc hsz _).drew
      have HLa : Hid (wo.heap.size < ((wo.alloc (.cells #[.int .i64 kd, .string nm, .slice A2 old.length d2, .slice A3 new.length d3] 71)).drew).heap.size) := Lib.hid (by show wo.heap.size < (wo.alloc (.cells #[.int .i64 kd, .string nm, .slice A2 old.length d2, .slice A3 new.length d3] 71)).heap.size; rw [size1]; omega)
      have HRa : Hid (((wo.alloc (.cells #[.int .i64 kd, .string nm, .slice A2 old.length d2, .slice A3 new.length d3] 71)).drew).heap[wo.heap.size]? = some (.cells #[.int .i64 kd, .string nm, .slice A2 old.length d2, .slice A3 new.length d3] 71 (0, 0))) := Lib.hid (heap_alloc_new wo _)
      have HNE : Hid (some wo.heap.size ≠ u5.ownBlock) := Lib.hid fun e => hneB e.symm
      have HOL := Lib.hid fun g hg => (HO.out.lt g hg).1
      go_upto_region 8 with fail
      go_cut [5] from 23 to 31 (fun v wx => Buf w.heap.size wx v (ys ++ UInt8.ofNat kd.toNat :: encS nm) ∧ Below w.heap.size w wx ∧ wx.heap[wo.heap.size]? = some (.cells #[.int .i64 kd, .string nm, .slice A2 old.length d2, .slice A3 new.length d3] 71 (0, 0)))
      case first =>
        have f0 : (wo.alloc (.cells #[.int .i64 kd, .string nm, .slice A2 old.length d2, .slice A3 new.length d3] 71)).cell? ⟨wo.heap.size, 0, none⟩ = some (.int .i64 kd) := World.cell?_alloc_new _ _ _ _
        have f1 : (wo.alloc (.cells #[.int .i64 kd, .string nm, .slice A2 old.length d2, .slice A3 new.length d3] 71)).cell? ⟨wo.heap.size, 1, none⟩ = some (.string nm) := World.cell?_alloc_new _ _ _ _
        go_region_law (first
            | (refine step_app (by rfl) (.tmp 23) (.tmp 27) _ _ (by rfl) (by rfl) (by rfl) (run_push elem_u8 byteLay _ _ u5 ys (UInt8.ofNat kd.toNat) _ (HO.out.alloc _).drew HKB.out H3.out H4.out hszB (size1 wo _)) ?_; rintro v1 w1 ⟨ho1, hx1⟩; have f2 := hx1.old_cell (g := wo.heap.size) (i := 1) f1 hneB)
            | (go_simp; go_at_call 28; (refine (appendString w.heap.size v1 (ys ++ [UInt8.ofNat kd.toNat]) nm _ ho1 (Nat.le_trans hszB hx1.size) HS1.out h12).mono ?_); rintro e w2 ⟨v2, rfl, ho2, hx2⟩))
        all_goals
          go_wp2_with fail
          go_meet
          exact ⟨by have := ho2; rwa [List.append_assoc] at this, HBa.out.trans ((hx1.trans hx2).below (base := w.heap.size) hszB HOL.out), ((hx1.trans hx2).grown.block wo.heap.size HLa.out HNE.out).trans HRa.out⟩
      case rest =>
        obtain ⟨ho3, hb3, hrow⟩ := hcut
        obtain ⟨w4, rfl⟩ := own_wld ho3
        have d0 := cell_of_row _ wo.heap.size 0 _ _ _ hrow
        have d2' := cell_of_row _ wo.heap.size 2 _ _ _ hrow
        have d3' := cell_of_row _ wo.heap.size 3 _ _ _ hrow
        have HO3 := Lib.hid ho3
        have HB3 := Lib.hid hb3
        have HLT := Lib.hid fun g hg => (ho3.lt g hg).1
        clear ho3 hb3 hrow HBa HRa HLa HNE HOL g1 hszB hneB HO c0 c1 c2 c3
        by_cases k1 : kd = 1
        · subst k1
          have hrn : row = new := by have := HRW.out; rwa [if_pos rfl] at this
          subst hrn
          have HAR := Lib.hid (appendRow w.heap.size _ _ A3 d3 row w4 (· < w.heap.size) HO3.out HB3.out.size (HRW3.out.el.keep (Keeps.of_below HB3.out fun _ h => h)) (fun j hj => ⟨Nat.lt_of_lt_of_le hj HB3.out.size, fun e => by have := HLT.out _ e.symm; omega⟩) HRN.out HS2.out)
          go_wp2_with fail
          refine HAR.out.mono ?_
          rintro e w5 ⟨v5, rfl, ho5, hx5⟩
          have HX5 := Lib.hid (HB3.out.trans (hx5.below (base := w.heap.size) HB3.out.size HLT.out))
          have HO5 := Lib.hid ho5
          clear ho5 hx5 HAR HO3
          go_wp2_with fail
          go_roundw
          case rel => exact ⟨k + 1, _, by omega, by go_num, HO5.out, by rw [← HE.out]; simp, HX5.out⟩
          case measure => simp [intOf]; omega
        · have k2 : kd = 2 := by omega
          subst k2
          have hrn : row = old := by have := HRW.out; rwa [if_neg (by omega)] at this
          subst hrn
          have HAR := Lib.hid (appendRow w.heap.size _ _ A2 d2 row w4 (· < w.heap.size) HO3.out HB3.out.size (HRW2.out.el.keep (Keeps.of_below HB3.out fun _ h => h)) (fun j hj => ⟨Nat.lt_of_lt_of_le hj HB3.out.size, fun e => by have := HLT.out _ e.symm; omega⟩) HRO.out HS2.out)
          go_wp2_with fail
          refine HAR.out.mono ?_
          rintro e w5 ⟨v5, rfl, ho5, hx5⟩
          have HX5 := Lib.hid (HB3.out.trans (hx5.below (base := w.heap.size) HB3.out.size HLT.out))
          have HO5 := Lib.hid ho5
          clear ho5 hx5 HAR HO3
          go_wp2_with fail
          go_roundw
          case rel => exact ⟨k + 1, _, by omega, by go_num, HO5.out, by rw [← HE.out]; simp, HX5.out⟩
          case measure => simp [intOf]; omega
    · have hkl : k = cs.length := by omega
      subst hkl
      rw [List.drop_length] at he
      have he0 : ys = encCs cs := by rw [← he]; simp
      subst he0
      go_wp2_with fail
      go_ret2
      exact ⟨_, rfl, ho, hbk⟩

end Go.Proofs.Ytjgghbmlbheknaa
