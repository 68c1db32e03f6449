/-
  The walk of DecodeChanges, where its input is the encoding of valid changes.
-/
import Derived.Test.YtjgghbmlbheknaaHenc
import Derived.Test.YtjgghbmlbheknaaIdec
namespace Go.Proofs.Ytjgghbmlbheknaa
open Go.RowKit

/-- What DecodeChanges leaves where it accepts. -/
def DecCPost (w : World) (cs : List Chg) (e : Ending) (w' : World) : Prop :=
  ∃ A c ts, e = .returned (.tuple #[.slice A cs.length c, .int .i64 0]) ∧ ChgsH w' (· < w'.heap.size) A ts cs ∧ Below w.heap.size w w'

theorem dec_byte_k (g : Nat) (S : Nat → Prop) (n : Nat) (kb : Int) (hk : (n : Int) = kb) (hn : n < 256) (rest : List UInt8) (w : World) (h : Dec w g S (UInt8.ofNat n :: rest, false)) :
    Calls Try.prog 30 #[.pointer (some ⟨g, 0, none⟩)] w fun e w' => e = .returned (.int .u8 kb) ∧ Dec w' g S (rest, false) ∧ Only w g w' := by
  subst hk
  exact dec_byte_lit g S n hn rest w h

/-- A block that is neither the decoder's nor the one under hand. -/
theorem blk_only {w w' : World} {g P : Nat} {o : Obj} (h : w.heap[P]? = some o) (ho : Only w g w') (hne : P ≠ g) : w'.heap[P]? = some o :=
  (ho.block P (Array.getElem?_eq_some_iff.1 h).1 (fun e => by injection e with e; exact hne e)).trans h
theorem blk_set {w : World} {P i : Nat} {cs : Array Value} {t : TypeId} (u : Value) (h : w.heap[P]? = some (.cells cs t (0, 0))) : (w.setCell ⟨P, i, none⟩ u).heap[P]? = some (.cells (cs.setIfInBounds i u) t (0, 0)) :=
  heap_setCell_same w P i cs t u h

theorem row_nil (w : World) (S : Nat → Prop) : RowH w S ⟨none, 0, 0⟩ [] := ⟨rfl, Nat.zero_le _, Elems.nil _ _ _⟩

set_option maxRecDepth 100000 in
set_option maxHeartbeats 4000000 in
theorem decodeChgs_ok (A : Option Addr) (c : Nat) (is : List Chg) (he : chgsErr is = 0) (w : World) (hx : Elems 1 byteCs w (· < w.heap.size) A (encCs is)) (hlc : (encCs is).length ≤ c) (hc : c ≤ maxLen) :
    Calls Try.prog 22 #[.slice A (encCs is).length c] w (DecCPost w is) := by
  have hlen := encCs_len he
  obtain ⟨hn6, hval⟩ := chgsErr_zero he
  have h' : ¬ (65536 : Int) < ((encCs is).length : Int) := by omega
  have hD : Dec (w.alloc (.cells #[.slice A (encCs is).length c, .bool false] 59)) w.heap.size (· < w.heap.size) (encCs is, false) :=
    ⟨⟨A, c, heap_alloc_new w _, hlc, hc, hx.keep fun k hk => Below.heap_alloc w _ k hk⟩, fun k hk => by omega⟩
  have HX := Lib.hid hx
  have HE := Lib.hid he
  have HV := Lib.hid hval
  have HD := Lib.hid (dec_byte_lit w.heap.size (· < w.heap.size) is.length (by omega) (is.flatMap encC) _ hD)
  have HB0 : Hid (Below w.heap.size w (w.alloc (.cells #[.slice A (encCs is).length c, .bool false] 59))) := Lib.hid ((Below.refl _ _).alloc (Nat.le_refl _) _)
  have hsz0 : w.heap.size + 1 ≤ (w.alloc (.cells #[.slice A (encCs is).length c, .bool false] 59)).heap.size := by simp
  have HS0 := Lib.hid hsz0
  have HLC := Lib.hid hlc
  have HC := Lib.hid hc
  have HN6 := Lib.hid hn6
  clear hx he hval hD hlen hlc hc hsz0
  generalize hL : (encCs is).length = L at *
  have HL := Lib.hid hL
  clear hL
  go_enter Try.func22, Try.ntmps22
  go_wp2_with fail
  refine HD.out.mono ?_
  rintro e w1 ⟨rfl, hd1, ho1⟩
  have HD1 := Lib.hid hd1
  have HB1 : Hid (Below w.heap.size w w1) := Lib.hid (HB0.out.trans ⟨ho1.os, ho1.tape, ho1.output, ho1.size, fun k hk => ho1.block k (by have := HS0.out; omega) (fun e => by injection e with e; omega)⟩)
  have HS1 : Hid (w.heap.size + 1 ≤ w1.heap.size) := Lib.hid (Nat.le_trans HS0.out ho1.size)
  clear hd1 ho1 HD HB0
  go_wp2_with fail
  go_loopw [5, 6] (fun v n wr => ∃ (k : Nat) (ts : List Ch), k ≤ is.length ∧ n = .int .u8 ((is.length - k : Nat) : Int) ∧ DC w wr v ts (is.take k) ∧ Dec wr w.heap.size (· < w.heap.size) ((is.drop k).flatMap encC, false) ∧ w.heap.size + 1 ≤ wr.heap.size) (fun _ n _ => (intOf n).toNat)
  case atStart => exact ⟨0, [], by omega, rfl, DC.first w w1 HB1.out, HD1.out, HS1.out⟩
  case round =>
    obtain ⟨k, ts, hk, rfl, hdi, hdec, hsz⟩ := hrel
    have hgg := hdec.lt
    obtain ⟨⟨A0, c0, hg0, _, _, _⟩, _⟩ := id hdec
    have b1 : wr.cell? ⟨w.heap.size, 1, none⟩ = some (.bool false) := cells_of_blk hg0 1
    clear hg0
    have HDI := Lib.hid hdi
    clear hdi HD1 HB1 HS1
    by_cases hlt : k < is.length
    · obtain ⟨m, hm⟩ : ∃ m, is.length - k = m + 1 := ⟨is.length - k - 1, by omega⟩
      have hm6 : m + 1 ≤ 24 := by have := HN6.out; omega
      have HM := Lib.hid (show is.length - (k + 1) = m by omega)
      rw [hm]
      have HIS := Lib.hid (List.take_append_getElem hlt)
      rw [List.drop_eq_getElem_cons hlt, List.flatMap_cons] at hdec
      obtain ⟨hsh, hnm, hro, hrn⟩ := chgErr_zero (HV.out _ (List.getElem_mem hlt))
      have h12 := nameOk_size hnm
      obtain ⟨x, hx2⟩ : ∃ x, x = is[k] := ⟨_, rfl⟩
      rw [← hx2] at hdec hsh hro hrn h12 HIS
      obtain ⟨kd, nm, old, new⟩ := x
      have hts : ts.length ≤ 24 := by rw [HDI.out.len, List.length_take]; have := HN6.out; omega
      have H5 : Hid ((ts.length + 1) * 72 ≤ 140737488355328) := Lib.hid (by omega)
      have H6 : Hid (ts.length + 1 ≤ maxLen) := Lib.hid (by unfold maxLen; omega)
      have hws : IntKind.i64.wrap (nm.size : Int) = nm.size := by rw [IntKind.wrap_i64]; simp only at h12; omega
      have hS0 : Hid (∀ k, k < w.heap.size → k < wr.heap.size) := Lib.hid fun k hk => by omega
      simp only at hsh hro hrn h12
      have h255 : nm.size ≤ 255 := by omega
      have h256 : nm.size < 256 := by omega
      clear hx2 hnm hm hk hts
      generalize hrest : (is.drop (k + 1)).flatMap encC = restI at *
      have HREST := Lib.hid hrest
      clear hrest HX HE HV
      obtain ⟨wo, rfl⟩ : ∃ wo, wo = wr := ⟨_, rfl⟩
      rcases hsh with ⟨rfl, h0⟩ | ⟨rfl, h0⟩
      · have hnil : old = [] := List.eq_nil_of_length_eq_zero h0
        subst hnil
        have hrl : encC ⟨1, nm, [], new⟩ = UInt8.ofNat 1 :: UInt8.ofNat nm.size :: (nm.data.toList ++ encR new) := rfl
        rw [hrl] at hdec
        simp only [List.cons_append, List.append_assoc] at hdec
        have hlnew : new.length ≤ maxLen := by have := rErr_zero hrn; unfold maxLen; omega
        have HRR := Lib.hid hrn
        have HLR := Lib.hid hlnew
        have HDC := Lib.hid (dec_byte_k _ _ 1 1 rfl (by omega) _ _ hdec)
        clear hdec hrl h0 hro hrn hlnew
        go_wp2_with fail
        refine HDC.out.mono ?_
        rintro e w2 ⟨rfl, hd2, ho2⟩
        have hgP : w.heap.size < w2.heap.size := Nat.lt_of_lt_of_le hgg ho2.size
        have hSP : Hid (∀ k, k < w.heap.size → k < w2.heap.size) := Lib.hid fun k hk => Nat.lt_trans hk hgP
        have hd2a := hd2.alloc hSP.out (.cells #[.int .i64 1, .string ByteArray.empty, .slice none 0 0, .slice none 0 0] 71)
        have HDS := Lib.hid (dec_byte_lit _ _ nm.size h256 _ _ hd2a)
        have HO2 := Lib.hid ho2
        have hblk0 := heap_alloc_new w2 (.cells #[.int .i64 1, .string ByteArray.empty, .slice none 0 0, .slice none 0 0] 71)
        have hoa : Only w2 w.heap.size (w2.alloc (.cells #[.int .i64 1, .string ByteArray.empty, .slice none 0 0, .slice none 0 0] 71)) := Only.alloc (World.grownBy.refl _ _) _
        have HB2 := Lib.hid hblk0
        have HOA := Lib.hid hoa
        clear hd2 hd2a HDC b1 ho2 hblk0 hoa
        go_wp2_with fail
        refine HDS.out.mono ?_
        rintro e w3 ⟨rfl, hd3, ho3⟩
        have HDT := Lib.hid (dec_string_lit _ _ nm h255 _ _ hd3)
        have HB3 := Lib.hid (blk_only HB2.out ho3 (Nat.ne_of_gt hgP))
        have HO3 := Lib.hid (HOA.out.trans ho3)
        clear hd3 ho3 HDS HB2 HOA
        go_wp2_with fail
        refine HDT.out.mono ?_
        rintro e w4 ⟨rfl, hd4, ho4⟩
        have hb4 := blk_only HB3.out ho4 (Nat.ne_of_gt hgP)
        have p0 : w4.cell? ⟨w2.heap.size, 0, none⟩ = some (.int .i64 1) := cells_of_blk hb4 0
        have p1 : w4.cell? ⟨w2.heap.size, 1, none⟩ = some (.string ByteArray.empty) := cells_of_blk hb4 1
        have f1 := frozen_of_blk hb4 1
        have HO4 := Lib.hid (Only.store (HO3.out.trans ho4) (p := ⟨w2.heap.size, 1, none⟩) (Nat.le_refl _) (.string nm))
        have hb5 : (w4.setCell ⟨w2.heap.size, 1, none⟩ (.string nm)).heap[w2.heap.size]? = some (.cells #[.int .i64 1, .string nm, .slice none 0 0, .slice none 0 0] 71 (0, 0)) := blk_set (i := 1) (.string nm) hb4
        have hd5 := hd4.store (p := ⟨w2.heap.size, 1, none⟩) (by show w.heap.size ≠ w2.heap.size; omega) (fun k hk => Nat.ne_of_lt (hSP.out k hk)) (.string nm)
        have hsz5 : w2.heap.size < (w4.setCell ⟨w2.heap.size, 1, none⟩ (.string nm)).heap.size := (Array.getElem?_eq_some_iff.1 hb5).1
        have HDR := Lib.hid (dec_row_lit _ _ new HRR.out _ _ hd5 (fun k hk => Nat.lt_trans (hSP.out k hk) hsz5))
        have HB5 := Lib.hid hb5
        have HZ5 := Lib.hid hsz5
        clear hd4 ho4 hd5 hb4 hb5 hsz5 HDT HB3 HO3
        go_wp2_with fail
        refine HDR.out.mono ?_
        rintro e w6 ⟨A6, c6, rfl, how6, hd6, ho6⟩
        have hb6 := blk_only HB5.out ho6 (Nat.ne_of_gt hgP)
        have q0 : w6.cell? ⟨w2.heap.size, 0, none⟩ = some (.int .i64 1) := cells_of_blk hb6 0
        have q1 : w6.cell? ⟨w2.heap.size, 1, none⟩ = some (.string nm) := cells_of_blk hb6 1
        have q2 : w6.cell? ⟨w2.heap.size, 2, none⟩ = some (.slice none 0 0) := cells_of_blk hb6 2
        have q3 : w6.cell? ⟨w2.heap.size, 3, none⟩ = some (.slice none 0 0) := cells_of_blk hb6 3
        have f2 := frozen_of_blk hb6 2
        have f3 := frozen_of_blk hb6 3
        have HO7 := Lib.hid (Only.store (HO4.out.trans ho6) (p := ⟨w2.heap.size, 3, none⟩) (Nat.le_refl _) (.slice A6 new.length c6))
        have hown := (HDI.out.only HO2.out).only HO7.out |>.own
        have hrow : RowH (w6.setCell ⟨w2.heap.size, 3, none⟩ (.slice A6 new.length c6)) (fun k => (Value.slice A6 new.length c6).ownBlock = some k) ⟨A6, new.length, c6⟩ new :=
          ⟨rfl, HLR.out, (how6.elems valLay.len rfl).keep fun k hk => Below.heap_setCell _ _ _ _ (by have := (how6.lt k hk).1; have := HZ5.out; show k ≠ w2.heap.size; omega)⟩
        have hU : ∀ k, (Value.slice A6 new.length c6).ownBlock = some k → w2.heap.size ≤ k ∧ k < (w6.setCell ⟨w2.heap.size, 3, none⟩ (.slice A6 new.length c6)).heap.size := fun k hk => by have := how6.lt k hk; have := HZ5.out; rw [sizeSet]; omega
        have hd7 := hd6.store (p := ⟨w2.heap.size, 3, none⟩) (by show w.heap.size ≠ w2.heap.size; omega) (fun k hk => Nat.ne_of_lt (hSP.out k hk)) (.slice A6 new.length c6)
        have hsz7 : w.heap.size + 1 ≤ (w6.setCell ⟨w2.heap.size, 3, none⟩ (.slice A6 new.length c6)).heap.size := Nat.le_trans hgP HO7.out.size
        have HST := Lib.hid fun v' w' (hx : Ext _ _ w' v') ho => (HDI.out.only HO2.out).step HO7.out (x := ⟨1, nm, [], new⟩) (t := ⟨1, nm, ⟨none, 0, 0⟩, ⟨A6, new.length, c6⟩⟩) hgP ⟨rfl, rfl, by unfold maxLen; show nm.size ≤ _; omega, row_nil _ _, hrow⟩ hU hx ho
        have HOW := Lib.hid hown
        have HD7 := Lib.hid hd7
        clear hown hrow hU hd6 hd7 how6 ho6 HO4 HDR hb6
        go_wp2_with (at_builtin; refine wpList_app rfl (.tmp 48) (.tmp 50) _ _ rfl rfl rfl (run_push elem_ch chLay _ (w6.setCell ⟨w2.heap.size, 3, none⟩ (.slice A6 new.length c6)) u5 ts ⟨1, nm, ⟨none, 0, 0⟩, ⟨A6, new.length, c6⟩⟩ _ HOW.out rfl H5.out H6.out hsz7 (sizeSet _ _ _)) ?_; rintro v8 w8 ⟨ho8, hx8⟩)
        go_roundw
        case rel => exact ⟨k + 1, _, hlt, by rw [HM.out], by have := HST.out _ _ hx8 ho8; rwa [HIS.out] at this, by rw [HREST.out]; exact HD7.out.ext hx8 (base := w.heap.size + 1) hsz7 (fun b hb => (HOW.out.lt b hb).1) (Nat.lt_succ_self _) (fun k hk => Nat.lt_succ_of_lt hk), Nat.le_trans hsz7 hx8.size⟩
        case measure => simp [intOf]
      · have hnil : new = [] := List.eq_nil_of_length_eq_zero h0
        subst hnil
        have hrl : encC ⟨2, nm, old, []⟩ = UInt8.ofNat 2 :: UInt8.ofNat nm.size :: (nm.data.toList ++ encR old) := rfl
        rw [hrl] at hdec
        simp only [List.cons_append, List.append_assoc] at hdec
        have hlold : old.length ≤ maxLen := by have := rErr_zero hro; unfold maxLen; omega
        have HRR := Lib.hid hro
        have HLR := Lib.hid hlold
        have HDC := Lib.hid (dec_byte_k _ _ 2 2 rfl (by omega) _ _ hdec)
        clear hdec hrl h0 hro hrn hlold
        go_wp2_with fail
        refine HDC.out.mono ?_
        rintro e w2 ⟨rfl, hd2, ho2⟩
        have hgP : w.heap.size < w2.heap.size := Nat.lt_of_lt_of_le hgg ho2.size
        have hSP : Hid (∀ k, k < w.heap.size → k < w2.heap.size) := Lib.hid fun k hk => Nat.lt_trans hk hgP
        have hd2a := hd2.alloc hSP.out (.cells #[.int .i64 2, .string ByteArray.empty, .slice none 0 0, .slice none 0 0] 71)
        have HDS := Lib.hid (dec_byte_lit _ _ nm.size h256 _ _ hd2a)
        have HO2 := Lib.hid ho2
        have hblk0 := heap_alloc_new w2 (.cells #[.int .i64 2, .string ByteArray.empty, .slice none 0 0, .slice none 0 0] 71)
        have hoa : Only w2 w.heap.size (w2.alloc (.cells #[.int .i64 2, .string ByteArray.empty, .slice none 0 0, .slice none 0 0] 71)) := Only.alloc (World.grownBy.refl _ _) _
        have HB2 := Lib.hid hblk0
        have HOA := Lib.hid hoa
        clear hd2 hd2a HDC b1 ho2 hblk0 hoa
        go_wp2_with fail
        refine HDS.out.mono ?_
        rintro e w3 ⟨rfl, hd3, ho3⟩
        have HDT := Lib.hid (dec_string_lit _ _ nm h255 _ _ hd3)
        have HB3 := Lib.hid (blk_only HB2.out ho3 (Nat.ne_of_gt hgP))
        have HO3 := Lib.hid (HOA.out.trans ho3)
        clear hd3 ho3 HDS HB2 HOA
        go_wp2_with fail
        refine HDT.out.mono ?_
        rintro e w4 ⟨rfl, hd4, ho4⟩
        have hb4 := blk_only HB3.out ho4 (Nat.ne_of_gt hgP)
        have p0 : w4.cell? ⟨w2.heap.size, 0, none⟩ = some (.int .i64 2) := cells_of_blk hb4 0
        have p1 : w4.cell? ⟨w2.heap.size, 1, none⟩ = some (.string ByteArray.empty) := cells_of_blk hb4 1
        have f1 := frozen_of_blk hb4 1
        have HO4 := Lib.hid (Only.store (HO3.out.trans ho4) (p := ⟨w2.heap.size, 1, none⟩) (Nat.le_refl _) (.string nm))
        have hb5 : (w4.setCell ⟨w2.heap.size, 1, none⟩ (.string nm)).heap[w2.heap.size]? = some (.cells #[.int .i64 2, .string nm, .slice none 0 0, .slice none 0 0] 71 (0, 0)) := blk_set (i := 1) (.string nm) hb4
        have hd5 := hd4.store (p := ⟨w2.heap.size, 1, none⟩) (by show w.heap.size ≠ w2.heap.size; omega) (fun k hk => Nat.ne_of_lt (hSP.out k hk)) (.string nm)
        have hsz5 : w2.heap.size < (w4.setCell ⟨w2.heap.size, 1, none⟩ (.string nm)).heap.size := (Array.getElem?_eq_some_iff.1 hb5).1
        have HDR := Lib.hid (dec_row_lit _ _ old HRR.out _ _ hd5 (fun k hk => Nat.lt_trans (hSP.out k hk) hsz5))
        have HB5 := Lib.hid hb5
        have HZ5 := Lib.hid hsz5
        clear hd4 ho4 hd5 hb4 hb5 hsz5 HDT HB3 HO3
        go_wp2_with fail
        refine HDR.out.mono ?_
        rintro e w6 ⟨A6, c6, rfl, how6, hd6, ho6⟩
        have hb6 := blk_only HB5.out ho6 (Nat.ne_of_gt hgP)
        have q0 : w6.cell? ⟨w2.heap.size, 0, none⟩ = some (.int .i64 2) := cells_of_blk hb6 0
        have q1 : w6.cell? ⟨w2.heap.size, 1, none⟩ = some (.string nm) := cells_of_blk hb6 1
        have q2 : w6.cell? ⟨w2.heap.size, 2, none⟩ = some (.slice none 0 0) := cells_of_blk hb6 2
        have q3 : w6.cell? ⟨w2.heap.size, 3, none⟩ = some (.slice none 0 0) := cells_of_blk hb6 3
        have f2 := frozen_of_blk hb6 2
        have f3 := frozen_of_blk hb6 3
        have HO7 := Lib.hid (Only.store (HO4.out.trans ho6) (p := ⟨w2.heap.size, 2, none⟩) (Nat.le_refl _) (.slice A6 old.length c6))
        have hown := (HDI.out.only HO2.out).only HO7.out |>.own
        have hrow : RowH (w6.setCell ⟨w2.heap.size, 2, none⟩ (.slice A6 old.length c6)) (fun k => (Value.slice A6 old.length c6).ownBlock = some k) ⟨A6, old.length, c6⟩ old :=
          ⟨rfl, HLR.out, (how6.elems valLay.len rfl).keep fun k hk => Below.heap_setCell _ _ _ _ (by have := (how6.lt k hk).1; have := HZ5.out; show k ≠ w2.heap.size; omega)⟩
        have hU : ∀ k, (Value.slice A6 old.length c6).ownBlock = some k → w2.heap.size ≤ k ∧ k < (w6.setCell ⟨w2.heap.size, 2, none⟩ (.slice A6 old.length c6)).heap.size := fun k hk => by have := how6.lt k hk; have := HZ5.out; rw [sizeSet]; omega
        have hd7 := hd6.store (p := ⟨w2.heap.size, 2, none⟩) (by show w.heap.size ≠ w2.heap.size; omega) (fun k hk => Nat.ne_of_lt (hSP.out k hk)) (.slice A6 old.length c6)
        have hsz7 : w.heap.size + 1 ≤ (w6.setCell ⟨w2.heap.size, 2, none⟩ (.slice A6 old.length c6)).heap.size := Nat.le_trans hgP HO7.out.size
        have HST := Lib.hid fun v' w' (hx : Ext _ _ w' v') ho => (HDI.out.only HO2.out).step HO7.out (x := ⟨2, nm, old, []⟩) (t := ⟨2, nm, ⟨A6, old.length, c6⟩, ⟨none, 0, 0⟩⟩) hgP ⟨rfl, rfl, by unfold maxLen; show nm.size ≤ _; omega, hrow, row_nil _ _⟩ hU hx ho
        have HOW := Lib.hid hown
        have HD7 := Lib.hid hd7
        clear hown hrow hU hd6 hd7 how6 ho6 HO4 HDR hb6
        go_wp2_with (at_builtin; refine wpList_app rfl (.tmp 48) (.tmp 50) _ _ rfl rfl rfl (run_push elem_ch chLay _ (w6.setCell ⟨w2.heap.size, 2, none⟩ (.slice A6 old.length c6)) u5 ts ⟨2, nm, ⟨A6, old.length, c6⟩, ⟨none, 0, 0⟩⟩ _ HOW.out rfl H5.out H6.out hsz7 (sizeSet _ _ _)) ?_; rintro v8 w8 ⟨ho8, hx8⟩)
        go_roundw
        case rel => exact ⟨k + 1, _, hlt, by rw [HM.out], by have := HST.out _ _ hx8 ho8; rwa [HIS.out] at this, by rw [HREST.out]; exact HD7.out.ext hx8 (base := w.heap.size + 1) hsz7 (fun b hb => (HOW.out.lt b hb).1) (Nat.lt_succ_self _) (fun k hk => Nat.lt_succ_of_lt hk), Nat.le_trans hsz7 hx8.size⟩
        case measure => simp [intOf]
    · have hkl : k = is.length := by omega
      subst hkl
      rw [List.drop_length] at hdec
      simp only [List.flatMap_nil, Nat.sub_self, List.take_length] at hdec HDI ⊢
      obtain ⟨A1, c1, rfl, hin⟩ := HDI.out.inst
      have hL := HL.out
      subst hL
      have HCE := Lib.hid (encodeChgs_ok A1 c1 ts is wr hin (by have := HN6.out; unfold maxLen; omega) HE.out)
      have HIN := Lib.hid hin
      have HBW := Lib.hid HDI.out.below
      have HDC := Lib.hid hdec
      clear hin hdec HDI HV HS0
      go_wp2_with fail
      refine HCE.out.mono ?_
      rintro e w2 ⟨v2, rfl, ho2, hb2⟩
      obtain ⟨A2, c2, rfl, _, _⟩ := ho2.form
      have hd2 := HDC.out.below hb2 hgg (fun k hk => by omega)
      have hx2 := HX.out.keep (Keeps.of_below (HBW.out.trans (hb2.mono HBW.out.size)) fun _ h => h)
      have hcan := dec_canonical w.heap.size _ _ _ ([], false) A A2 c c2 (encCs is) (encCs is) 0 w2 hd2 hx2 (ho2.elems byteLay.len rfl)
      have hct : canonB false [] 0 (encCs is) (encCs is) = true := by simp [canonB]
      simp only [hct] at hcan
      have HCAN := Lib.hid hcan
      have HI2 := Lib.hid (HIN.out.on hb2)
      have HB2 := Lib.hid (HBW.out.trans (hb2.mono HBW.out.size))
      clear hcan hct hd2 hx2 ho2 hb2 HX HE HCE HIN HBW HDC
      go_wp2_with fail
      refine HCAN.out.mono ?_
      rintro e w3 ⟨rfl, rfl⟩
      go_wp2_with fail
      go_ret2
      exact ⟨A1, c1, ts, rfl, HI2.out, HB2.out⟩

end Go.Proofs.Ytjgghbmlbheknaa
