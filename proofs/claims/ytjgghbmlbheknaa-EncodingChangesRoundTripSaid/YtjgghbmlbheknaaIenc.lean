/-
  The walks of appendString, EncodeInstance.
-/
import Derived.Test.YtjgghbmlbheknaaIchk
import Derived.Deep.Cut
import Derived.Deep.CutRange
import Derived.Deep.RegionLaw
namespace Go.Proofs.Ytjgghbmlbheknaa
open Go.RowKit

theorem str_u8 : (Try.prog.info? 5).map (fun i => (i.zero, i.size, i.bytes)) = some (some (.int .u8 0), 1, 1) := by kernel_rfl

set_option maxRecDepth 100000 in
set_option maxHeartbeats 400000 in
theorem appendString (base : Nat) (v : Value) (xs : List UInt8) (s : ByteArray) (w : World) (hown : Buf base w v xs) (hB : base ≤ w.heap.size) (hs : Small (xs.length + (encS s).length)) (h12 : s.size ≤ 12) :
    Calls Try.prog 28 #[v, .string s] w fun e w' => ∃ v', e = .returned v' ∧ Buf base w' v' (xs ++ encS s) ∧ Ext w v w' v' := by
  have hl := encS_len s
  have hs1 : Small (xs.length + 1) := hs.le (by omega)
  have H1 := Lib.hid hs1.bytes
  have H2 := Lib.hid hs1.maxLen
  have HU : Hid ((#[Value.int .u8 ((s.size : Nat) : Int)] : Array Value).toList = byteCs (UInt8.ofNat s.size)) := Lib.hid (byte_lo s.size (by omega))
  have HL : Hid ((xs ++ [UInt8.ofNat s.size]).length + s.size ≤ 140737488355328) := Lib.hid (by unfold Small at hs; simp; omega)
  have HE : Hid (xs ++ encS s = (xs ++ [UInt8.ofNat s.size]) ++ s.data.toList) := Lib.hid (by unfold encS; simp)
  clear hs hs1 hl
  go_enter Try.func28, Try.ntmps28
  go_wp2_with (first
    | (at_builtin; refine wpList_app rfl (.tmp 5) (.tmp 9) _ _ rfl rfl rfl (run_push elem_u8 byteLay _ w v xs (UInt8.ofNat s.size) _ hown HU.out H1.out H2.out hB rfl) ?_; rintro v1 w1 ⟨ho1, hx1⟩)
    | (at_builtin; refine wpList_app rfl (.tmp 10) (.tmp 11) _ _ rfl rfl rfl (run_pushStr Try.underlying24 Try.underlying9 str_u8 _ w1 v1 (xs ++ [UInt8.ofNat s.size]) s ho1 HL.out (Nat.le_trans hB hx1.size)) ?_; rintro v2 w2 ⟨ho2, hx2⟩))
  go_ret
  exact ⟨_, rfl, by rw [HE.out]; exact ho2, hx1.trans hx2⟩

set_option maxRecDepth 100000 in
set_option maxHeartbeats 1000000 in
theorem encodeInst_no (A : Option Addr) (c : Nat) (ts : List Th) (is : List Rel) (w : World) (h : InstH w (· < w.heap.size) A ts is) (hl : is.length ≤ maxLen) (he : instErr is ≠ 0) :
    Calls Try.prog 16 #[.slice A is.length c] w fun e w' => e = .returned (.tuple #[.slice none 0 0, .int .i64 (instErr is)]) ∧ Below w.heap.size w w' := by
  have hz : (instErr is != 0) = true := by simp [he]
  have HC := Lib.hid (checkInstance A c ts is w h hl)
  clear he
  go_enter Try.func16, Try.ntmps16
  go_wp2_with fail
  refine HC.out.mono ?_
  rintro e w1 ⟨rfl, hb1⟩
  go_wp2_with fail
  go_ret2
  exact ⟨rfl, hb1⟩

theorem lit1_u8 (W : World) (n : Nat) (h : n < 128) : Buf W.heap.size (W.alloc (.cells #[.int .u8 (n : Int)] 5)) (.slice (some ⟨W.heap.size, 0, none⟩) 1 1) [UInt8.ofNat n] := by
  have := World.ownsRow_lit (base := W.heap.size) (e := 5) (size := 1) W #[.int .u8 (n : Int)] 1 (Nat.le_refl _) (by unfold maxLen; omega) (by simp)
  rw [byte_lo n h] at this
  exact this

theorem own_wld {α : Type} {sz : Nat} {cs : α → List Value} {e : TypeId} {base : Nat} {w : World} {v : Value} {xs : List α} (_ : Own sz cs e base w v xs) : ∃ wx, wx = w := ⟨_, rfl⟩
/-- What EncodeInstance leaves where the instance is valid. -/
def EncIPost (w : World) (is : List Rel) (e : Ending) (w' : World) : Prop :=
  ∃ v, e = .returned (.tuple #[v, .int .i64 0]) ∧ Buf w.heap.size w' v (encI is) ∧ Below w.heap.size w w'

set_option maxRecDepth 100000 in
set_option maxHeartbeats 4000000 in
theorem encodeInst_ok (A : Option Addr) (c : Nat) (ts : List Th) (is : List Rel) (w : World) (h : InstH w (· < w.heap.size) A ts is) (hl : is.length ≤ maxLen) (he : instErr is = 0) :
    Calls Try.prog 16 #[.slice A is.length c] w (EncIPost w is) := by
  have HC := Lib.hid (checkInstance A c ts is w h hl)
  rw [he] at HC
  obtain ⟨hn6, hval⟩ := instErr_zero he
  have hlen := encI_len he
  have HH := Lib.hid h
  have HV := Lib.hid hval
  have HL := Lib.hid hlen
  have y1 : ((is.length : Nat) : Int) % 256 = (is.length : Int) := by omega
  have y2 : IntKind.u8.wrap (is.length : Int) = (is.length : Int) := by rw [IntKind.wrap_u8]; omega
  have HEI : Hid (encI is = UInt8.ofNat is.length :: is.flatMap encRel) := Lib.hid rfl
  clear h hval hlen he
  go_enter Try.func16, Try.ntmps16
  go_wp2_with fail
  refine HC.out.mono ?_
  rintro e w1 ⟨rfl, hb1⟩
  have HB0 := Lib.hid ((lit1_u8 w1 is.length (by omega)).mono hb1.size)
  have HB1 := Lib.hid (hb1.alloc hb1.size (.cells #[.int .u8 (is.length : Int)] 5))
  clear hb1 HC
  go_wp2_with fail
  go_loopw [5, 21] (fun v i wr => ∃ (k : Nat) (ys : List UInt8), k ≤ is.length ∧ i = .int .i64 k ∧ Buf w.heap.size wr v ys ∧ ys ++ (is.drop k).flatMap encRel = encI is ∧ Below w.heap.size w wr) (fun _ i _ => is.length - (intOf i).toNat)
  case atStart => exact ⟨0, _, by omega, rfl, HB0.out, by rw [HEI.out]; rfl, HB1.out⟩
  case round =>
    obtain ⟨k, ys, hk, rfl, ho, he, hbk⟩ := hrel
    clear HB0 HB1
    by_cases hlt : k < is.length
    · obtain ⟨b, off, t, rfl, hbs, c0, c1, hrel⟩ := (HH.out.keep (Keeps.of_below hbk fun _ h => h)).at_ hlt
      rw [List.drop_eq_getElem_cons hlt, List.flatMap_cons] at he
      obtain ⟨hnm, h24, hrows⟩ := relErr_zero (HV.out _ (List.getElem_mem hlt))
      have h12 := nameOk_size hnm
      obtain ⟨x, hx2⟩ : ∃ x, x = is[k] := ⟨_, rfl⟩
      rw [← hx2] at c0 c1 hrel he hrows h24 h12
      have hrl : encRel x = encS x.name ++ encRows x.rows := rfl
      have hrr : encRows x.rows = UInt8.ofNat x.rows.length :: x.rows.flatMap encR := rfl
      obtain ⟨nm, rows⟩ := x
      obtain ⟨tn, TA, tm, TC⟩ := t
      simp only at c0 c1 hrows h24 h12 hrl hrr
      rw [hrl, hrr] at he
      have hll := HL.out
      rw [← he] at hll
      have hsl := encS_len nm
      have hs1 : Small (ys.length + (encS nm).length) := by unfold Small; simp at hll; omega
      have hs2 : Small ((ys ++ encS nm).length + 1) := by unfold Small; simp at hll ⊢; omega
      have H3 := Lib.hid hs2.bytes
      have H4 := Lib.hid hs2.maxLen
      have HE := Lib.hid he
      have HBK := Lib.hid hbk
      have HRW := Lib.hid (hrel.keep (w' := w) fun j hj => (hbk.block j hj).symm).rows
      have HRR := Lib.hid hrows
      have HO := Lib.hid ho
      have hsz := hbk.size
      have hws : IntKind.u8.wrap (rows.length : Int) = rows.length := by rw [IntKind.wrap_u8]; omega
      have hbs3 := byte_lo rows.length (by omega)
      have hne : u5.ownBlock ≠ some wr.heap.size := fun e => by have := (ho.lt _ e).2; omega
      have HS1 := Lib.hid hs1
      clear he hbk hrel hx2 hrl hrr hll hs1 hs2 hsl hrows ho hbs hnm
      obtain ⟨wo, rfl⟩ : ∃ wo, wo = wr := ⟨_, rfl⟩
      have hszB : w.heap.size ≤ ((wo.alloc (.cells #[.string nm, .slice TA rows.length TC] 64)).drew).heap.size := le_size1 hsz _
      have hneB : u5.ownBlock ≠ some wo.heap.size := hne
      have hszB2 : w.heap.size ≤ (((wo.alloc (.cells #[.string nm, .slice TA rows.length TC] 64)).drew).alloc (.cells #[.int .u8 (rows.length : Int)] 5)).heap.size := le_size1 hszB _
      have g0 : (((wo.alloc (.cells #[.string nm, .slice TA rows.length TC] 64)).drew).alloc (.cells #[.int .u8 (rows.length : Int)] 5)).cell? ⟨wo.heap.size, 0, none⟩ = some (.string nm) :=
        (World.cell?_of_block (a := ⟨wo.heap.size, 0, none⟩) (Below.heap_alloc _ _ wo.heap.size (by show wo.heap.size < (wo.alloc (.cells #[.string nm, .slice TA rows.length TC] 64)).heap.size; rw [size1]; omega))).trans (World.cell?_alloc_new wo _ _ _)
      have g1 : (((wo.alloc (.cells #[.string nm, .slice TA rows.length TC] 64)).drew).alloc (.cells #[.int .u8 (rows.length : Int)] 5)).cell? ⟨wo.heap.size, 1, none⟩ = some (.slice TA rows.length TC) :=
        (World.cell?_of_block (a := ⟨wo.heap.size, 1, none⟩) (Below.heap_alloc _ _ wo.heap.size (by show wo.heap.size < (wo.alloc (.cells #[.string nm, .slice TA rows.length TC] 64)).heap.size; rw [size1]; omega))).trans (World.cell?_alloc_new wo _ _ _)
      have hsl2 : wo.heap.size + 1 < (((wo.alloc (.cells #[.string nm, .slice TA rows.length TC] 64)).drew).alloc (.cells #[.int .u8 (rows.length : Int)] 5)).heap.size := by rw [size1]; show _ < (wo.alloc _).heap.size + 1; rw [size1]; omega
      have hnw2 : (((wo.alloc (.cells #[.string nm, .slice TA rows.length TC] 64)).drew).alloc (.cells #[.int .u8 (rows.length : Int)] 5)).heap[wo.heap.size + 1]? = some (.cells #[.int .u8 (rows.length : Int)] 5 (0, 0)) := by
        have := heap_alloc_new ((wo.alloc (.cells #[.string nm, .slice TA rows.length TC] 64)).drew) (.cells #[.int .u8 (rows.length : Int)] 5)
        have e : ((wo.alloc (.cells #[.string nm, .slice TA rows.length TC] 64)).drew).heap.size = wo.heap.size + 1 := size1 wo _
        rwa [e] at this
      have hneC : some (wo.heap.size + 1) ≠ u5.ownBlock := fun e => by have := (HO.out.lt _ e.symm).2; omega
      have HBa : Hid (Below w.heap.size w ((wo.alloc (.cells #[.string nm, .slice TA rows.length TC] 64)).drew)) := Lib.hid (HBK.out.alloc hsz _).drew
      have HBb : Hid (Below w.heap.size w (((wo.alloc (.cells #[.string nm, .slice TA rows.length TC] 64)).drew).alloc (.cells #[.int .u8 (rows.length : Int)] 5))) := Lib.hid ((HBK.out.alloc hsz _).drew.alloc hszB _)
      have HLa : Hid (wo.heap.size < ((wo.alloc (.cells #[.string nm, .slice TA rows.length TC] 64)).drew).heap.size) := Lib.hid (by show wo.heap.size < (wo.alloc (.cells #[.string nm, .slice TA rows.length TC] 64)).heap.size; rw [size1]; omega)
      have HLb : Hid (wo.heap.size < (((wo.alloc (.cells #[.string nm, .slice TA rows.length TC] 64)).drew).alloc (.cells #[.int .u8 (rows.length : Int)] 5)).heap.size) := Lib.hid (Nat.lt_of_lt_of_le HLa.out (le_size1 (Nat.le_refl _) _))
      have HRa : Hid (((wo.alloc (.cells #[.string nm, .slice TA rows.length TC] 64)).drew).heap[wo.heap.size]? = some (.cells #[.string nm, .slice TA rows.length TC] 64 (0, 0))) := Lib.hid (heap_alloc_new wo _)
      have HRb : Hid ((((wo.alloc (.cells #[.string nm, .slice TA rows.length TC] 64)).drew).alloc (.cells #[.int .u8 (rows.length : Int)] 5)).heap[wo.heap.size]? = some (.cells #[.string nm, .slice TA rows.length TC] 64 (0, 0))) := Lib.hid ((Below.heap_alloc _ _ _ HLa.out).trans HRa.out)
      have HNE : Hid (some wo.heap.size ≠ u5.ownBlock) := Lib.hid fun e => hne e.symm
      have HOL := Lib.hid fun g hg => (HO.out.lt g hg).1
      go_upto_region 8 with fail
      go_cut [5] from 25 to 35 (fun v wx => Buf w.heap.size wx v (ys ++ (encS nm ++ [UInt8.ofNat rows.length])) ∧ Below w.heap.size w wx ∧ wx.heap[wo.heap.size]? = some (.cells #[.string nm, .slice TA rows.length TC] 64 (0, 0)))
      case first =>
        have f0 : (wo.alloc (.cells #[.string nm, .slice TA rows.length TC] 64)).cell? ⟨wo.heap.size, 0, none⟩ = some (.string nm) := World.cell?_alloc_new _ _ _ _
        have f1 : (wo.alloc (.cells #[.string nm, .slice TA rows.length TC] 64)).cell? ⟨wo.heap.size, 1, none⟩ = some (.slice TA rows.length TC) := World.cell?_alloc_new _ _ _ _
        go_region_law (first
            | (refine step_app (by rfl) (.tmp 28) (.tmp 33) _ _ (by rfl) (by rfl) (by rfl) (run_push elem_u8 byteLay _ w2 v1 (ys ++ encS nm) (UInt8.ofNat rows.length) _ ho1 hbs3 H3.out H4.out (Nat.le_trans hszB hx1.size) rfl) ?_; rintro v3 w3 ⟨ho3, hx3⟩)
            | (refine step_app (by rfl) (.tmp 28) (.tmp 33) _ _ (by rfl) (by rfl) (by rfl) (run_push_at elem_u8 byteLay _ w2 v1 (ys ++ encS nm) (UInt8.ofNat rows.length) (Ext.refl w2 v1) ho1 (h8.trans hnw2) hbs3 H3.out H4.out (Nat.le_trans hszB2 hx1.size)) ?_; rintro v3 w3 ⟨ho3, hx3⟩)
            | (go_simp; go_at_call 28; (refine (appendString w.heap.size u5 ys nm _ (HO.out.alloc _).drew hszB HS1.out h12).mono ?_); rintro e w2 ⟨v1, rfl, ho1, hx1⟩; have f2 := hx1.old_cell (g := wo.heap.size) (i := 0) f0 hneB; have f3 := hx1.old_cell (g := wo.heap.size) (i := 1) f1 hneB)
            | (go_simp; go_at_call 28; (refine (appendString w.heap.size u5 ys nm _ ((HO.out.alloc _).drew.alloc _) hszB2 HS1.out h12).mono ?_); rintro e w2 ⟨v1, rfl, ho1, hx1⟩; have f2 := hx1.old_cell (g := wo.heap.size) (i := 0) g0 hneB; have f3 := hx1.old_cell (g := wo.heap.size) (i := 1) g1 hneB; have h8 := hx1.grown.block (wo.heap.size + 1) hsl2 hneC))
        all_goals
          go_wp2_with fail
          go_meet
          first
            | exact ⟨by rw [← List.append_assoc]; exact ho3, HBa.out.trans ((hx1.trans hx3).below (base := w.heap.size) hszB HOL.out), ((hx1.trans hx3).grown.block wo.heap.size HLa.out HNE.out).trans HRa.out⟩
            | exact ⟨by rw [← List.append_assoc]; exact ho3, HBb.out.trans ((hx1.trans hx3).below (base := w.heap.size) hszB2 HOL.out), ((hx1.trans hx3).grown.block wo.heap.size HLb.out HNE.out).trans HRb.out⟩
      case rest =>
        obtain ⟨ho3, hb3, hrow⟩ := hcut
        obtain ⟨w4, rfl⟩ := own_wld ho3
        have d1 := cell_of_row _ wo.heap.size 1 _ _ _ hrow
        have HO3 := Lib.hid ho3
        have HB3 := Lib.hid hb3
        clear ho3 hb3 hrow HBa HBb HRa HRb HLa HLb HNE HOL g0 g1 hsl2 hnw2 hneC hszB hszB2 hneB hne hbs3 HO c0 c1
        go_wp2_with fail
        go_loopw [5, 38] (fun v i wi => ∃ (k2 : Nat) (zs : List UInt8), k2 ≤ rows.length ∧ i = .int .i64 k2 ∧ Buf w.heap.size wi v zs ∧ zs ++ ((rows.drop k2).flatMap encR ++ (is.drop (k + 1)).flatMap encRel) = encI is ∧ Below w.heap.size w wi) (fun _ i _ => rows.length - (intOf i).toNat)
        case atStart => exact ⟨0, _, by omega, rfl, HO3.out, by rw [← HE.out]; simp, HB3.out⟩
        case round =>
          obtain ⟨k2, zs, hk2, rfl, ho, he, hbw⟩ := hrel
          clear HO3 HB3 d1
          by_cases hlt2 : k2 < rows.length
          · obtain ⟨hs, hrs⟩ := HRW.out
            obtain ⟨b2, off2, h2, rfl, hbs2, d0, hrow⟩ := (hrs.keep (Keeps.of_below hbw fun _ h => h)).at_ hlt2
            rw [List.drop_eq_getElem_cons hlt2, List.flatMap_cons, List.append_assoc] at he
            have hll := HL.out
            rw [← he] at hll
            have hsm : Small (zs.length + (encR rows[k2]).length) := by unfold Small; simp at hll; omega
            have HAR := Lib.hid (appendRow w.heap.size _ zs h2.A h2.c rows[k2] _ (· < w.heap.size) ho hbw.size hrow.el (fun j hj => ⟨Nat.lt_of_lt_of_le hj hbw.size, fun e => by have := (ho.lt _ e.symm).1; omega⟩) (HRR.out _ (List.getElem_mem hlt2)) hsm)
            have HE2 := Lib.hid he
            have HBW := Lib.hid hbw
            have HOL := Lib.hid fun g hg => (ho.lt g hg).1
            clear hrs hrow he hll hsm ho hbw hbs2
            generalize rows[k2]'hlt2 = r2 at *
            go_wp2_with fail
            refine HAR.out.mono ?_
            rintro e w5 ⟨v5, rfl, ho5, hx5⟩
            have HX5 := Lib.hid (HBW.out.trans (hx5.below (base := w.heap.size) HBW.out.size HOL.out))
            have HO5 := Lib.hid ho5
            clear ho5 hx5
            go_wp2_with fail
            go_roundw
            case rel => exact ⟨k2 + 1, _, by omega, by go_num, HO5.out, by rw [← HE2.out]; simp, HX5.out⟩
            case measure => simp [intOf]; omega
          · have hkl : k2 = rows.length := by omega
            subst hkl
            rw [List.drop_length] at he
            have HE2 := Lib.hid he
            have HO5 := Lib.hid ho
            clear he ho
            go_wp2_with fail
            go_roundw
            case rel => exact ⟨k + 1, zs, by omega, by go_num, HO5.out, by rw [← HE2.out]; simp, hbw⟩
            case measure => simp [intOf]; omega
    · have hkl : k = is.length := by omega
      subst hkl
      rw [List.drop_length] at he
      have he0 : ys = encI is := by rw [← he]; simp
      subst he0
      go_wp2_with fail
      go_ret2
      exact ⟨_, rfl, ho, hbk⟩

end Go.Proofs.Ytjgghbmlbheknaa
