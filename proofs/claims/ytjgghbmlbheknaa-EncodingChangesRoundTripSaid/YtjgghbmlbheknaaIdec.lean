/-
  The walk of DecodeInstance, where its input is the encoding of a valid instance.
-/
import Derived.Test.YtjgghbmlbheknaaIdm
namespace Go.Proofs.Ytjgghbmlbheknaa
open Go.RowKit

theorem dec_byte_lit (g : Nat) (S : Nat → Prop) (n : Nat) (hn : n < 256) (rest : List UInt8) (w : World) (h : Dec w g S (UInt8.ofNat n :: rest, false)) :
    Calls Try.prog 30 #[.pointer (some ⟨g, 0, none⟩)] w fun e w' => e = .returned (.int .u8 (n : Int)) ∧ Dec w' g S (rest, false) ∧ Only w g w' :=
  dec_byte_at g S (UInt8.ofNat n :: rest, false) n (by show ((UInt8.ofNat n).toNat : Int) = _; rw [ofNat_toNat hn]) w h

theorem dec_string_lit (g : Nat) (S : Nat → Prop) (s : ByteArray) (hs : s.size ≤ 255) (rest : List UInt8) (w : World) (h : Dec w g S (s.data.toList ++ rest, false)) :
    Calls Try.prog 31 #[.pointer (some ⟨g, 0, none⟩), .int .i64 s.size] w fun e w' => e = .returned (.string s) ∧ Dec w' g S (rest, false) ∧ Only w g w' := by
  have hl : s.data.toList.length = s.size := rfl
  have hd : dStr s.size (s.data.toList ++ rest, false) = (s.data.toList, (rest, false)) := by
    unfold dStr
    rw [if_neg (by simp only [List.length_append]; omega)]
    simp only [← hl, List.take_left, List.drop_left]
  have := dec_string g S _ s.size w h hs
  rw [hd] at this
  simpa using this

theorem dec_row_lit (g : Nat) (S : Nat → Prop) (r : List Val) (hr : rErr r = 0) (rest : List UInt8) (w : World) (h : Dec w g S (encR r ++ rest, false)) (hS : ∀ k, S k → k < w.heap.size) :
    Calls Try.prog 26 #[.pointer (some ⟨g, 0, none⟩)] w fun e w' => ∃ A c, e = .returned (.slice A r.length c) ∧ Own 3 Val.cs 55 w.heap.size w' (.slice A r.length c) r ∧ Dec w' g S (rest, false) ∧ Only w g w' := by
  refine (dec_row g S _ w h hS).mono ?_
  rw [dRow_enc hr]
  rintro e w' ⟨v, rfl, ho, hd, hon⟩
  obtain ⟨A, c, rfl, _, _⟩ := ho.form
  exact ⟨A, c, rfl, ho, hd, hon⟩

theorem Dec.drew {w : World} {g : Nat} {S : Nat → Prop} {s : St} (h : Dec w g S s) : Dec w.drew g S s := h.keep rfl fun _ _ => rfl
theorem Only.drew_left {w w' : World} {g : Nat} (h : Only w.drew g w') : Only w g w' := ⟨h.os, h.tape, h.output, h.size, h.block⟩

/-- A table under way in block P = W0.heap.size; the decoder lies in g, below. -/
structure InR (W0 wi : World) (g : Nat) (S : Nat → Prop) (nm : ByteArray) (u : Value) (hs : List Hd) (rs : List (List Val)) (t : St) : Prop where
  blk : wi.heap[W0.heap.size]? = some (.cells #[.string nm, u] 64 (0, 0))
  rows : DR wi W0.heap.size u hs rs
  dec : Dec wi g S t
  only : Only W0 g wi

theorem InR.lt {W0 wi : World} {g : Nat} {S : Nat → Prop} {nm : ByteArray} {u : Value} {hs : List Hd} {rs : List (List Val)} {t : St} (h : InR W0 wi g S nm u hs rs t) : W0.heap.size < wi.heap.size := (Array.getElem?_eq_some_iff.1 h.blk).1
theorem InR.first {W0 : World} {g : Nat} {S : Nat → Prop} {nm : ByteArray} {t : St} (hd : Dec W0 g S t) {w1 : World} {t' : St} (ho : Only (W0.alloc (.cells #[.string nm, .slice none 0 0] 64)) g w1) (hd1 : Dec w1 g S t') : InR W0 w1 g S nm (.slice none 0 0) [] [] t' := by
  have hg := hd.lt
  refine ⟨(ho.block _ (by simp) (fun e => by injection e with e; omega)).trans (heap_alloc_new W0 _), DR.first _ _, hd1, ?_⟩
  exact (Only.alloc (World.grownBy.refl W0 (some g)) _).trans ho

theorem InR.after {W0 wi w1 w2 : World} {g : Nat} {S : Nat → Prop} {nm : ByteArray} {u u' : Value} {hs : List Hd} {rs : List (List Val)} {t : St} (h : InR W0 wi g S nm u hs rs t) (hne : g ≠ W0.heap.size) (ho : Only wi.drew g w1) (hx : Ext w1 u w2 u') :
    w2.heap[W0.heap.size]? = some (.cells #[.string nm, u] 64 (0, 0)) := by
  have hP := h.lt
  have ho' := ho.drew_left
  have hs1 := ho'.size
  have hub : ∀ b, u.ownBlock = some b → W0.heap.size + 1 ≤ b := fun b hb => (h.rows.own.lt b hb).1
  exact (hx.grown.block _ (by omega) (fun e => by have := hub _ e.symm; omega)).trans ((ho'.block _ hP (fun e => by injection e with e; omega)).trans h.blk)
theorem InR.after1 {W0 wi w1 w2 : World} {g : Nat} {S : Nat → Prop} {nm : ByteArray} {u u' : Value} {hs : List Hd} {rs : List (List Val)} {t : St} (h : InR W0 wi g S nm u hs rs t) (hne : g ≠ W0.heap.size) (ho : Only wi.drew g w1) (hx : Ext w1 u w2 u') :
    w2.cell? ⟨W0.heap.size, 1, none⟩ = some u ∧ w2.frozen? ⟨W0.heap.size, 1, none⟩ = false := by
  have := h.after hne ho hx
  exact ⟨cells_of_blk this 1, frozen_of_blk this 1⟩
theorem InR.step {W0 wi w1 w2 : World} {g n c : Nat} {S : Nat → Prop} {nm : ByteArray} {A : Option Addr} {u u' : Value} {hs : List Hd} {rs : List (List Val)} {t t' : St} {r : List Val} (h : InR W0 wi g S nm u hs rs t) (hg : g < W0.heap.size) (hS : ∀ k, S k → k < W0.heap.size)
    (ho : Only wi.drew g w1) (hrow : Own 3 Val.cs 55 wi.drew.heap.size w1 (.slice A n c) r) (hd : Dec w1 g S t') (hl : r.length ≤ maxLen) (hx : Ext w1 u w2 u') (hown : Own 1 Hd.cs 23 (W0.heap.size + 1) w2 u' (hs ++ [⟨A, n, c⟩])) :
    InR W0 (w2.setCell ⟨W0.heap.size, 1, none⟩ u') g S nm u' (hs ++ [⟨A, n, c⟩]) (rs ++ [r]) t' := by
  have hP := h.lt
  have ho' := ho.drew_left
  have hs1 := ho'.size
  have hub : ∀ b, u.ownBlock = some b → W0.heap.size + 1 ≤ b := fun b hb => (h.rows.own.lt b hb).1
  have hb1 : w1.heap[W0.heap.size]? = some (.cells #[.string nm, u] 64 (0, 0)) := (ho'.block _ hP (fun e => by injection e with e; omega)).trans h.blk
  have hb2 : w2.heap[W0.heap.size]? = some (.cells #[.string nm, u] 64 (0, 0)) := (hx.grown.block _ (by omega) (fun e => by have := hub _ e.symm; omega)).trans hb1
  refine ⟨?_, ?_, ?_, ?_⟩
  · rw [heap_setCell_same w2 W0.heap.size 1 _ _ _ hb2]
    rfl
  · exact (h.rows.step ho' (by omega) (by omega) hrow hl hx hown).setCell _
  · exact (hd.ext hx (base := W0.heap.size + 1) (by omega) hub (by omega) (fun k hk => by have := hS k hk; omega)).store (by show g ≠ W0.heap.size; omega) (fun k hk => by have := hS k hk; show k ≠ W0.heap.size; omega) _
  · exact (Only.ext (h.only.trans ho') hx (fun b hb => by have := hub b hb; omega)).store (Nat.le_refl _) _

/-- What DecodeInstance leaves where it accepts. -/
def DecIPost (w : World) (is : List Rel) (e : Ending) (w' : World) : Prop :=
  ∃ A c ts, e = .returned (.tuple #[.slice A is.length c, .int .i64 0]) ∧ InstH w' (· < w'.heap.size) A ts is ∧ Below w.heap.size w w'

set_option maxRecDepth 100000 in
set_option maxHeartbeats 4000000 in
theorem decodeInst_ok (A : Option Addr) (c : Nat) (is : List Rel) (he : instErr is = 0) (w : World) (hx : Elems 1 byteCs w (· < w.heap.size) A (encI is)) (hlc : (encI is).length ≤ c) (hc : c ≤ maxLen) :
    Calls Try.prog 18 #[.slice A (encI is).length c] w (DecIPost w is) := by
  have hlen := encI_len he
  obtain ⟨hn6, hval⟩ := instErr_zero he
  have h' : ¬ (65536 : Int) < ((encI is).length : Int) := by omega
  have hD : Dec (w.alloc (.cells #[.slice A (encI is).length c, .bool false] 59)) w.heap.size (· < w.heap.size) (encI is, false) :=
    ⟨⟨A, c, heap_alloc_new w _, hlc, hc, hx.keep fun k hk => Below.heap_alloc w _ k hk⟩, fun k hk => by omega⟩
  have HX := Lib.hid hx
  have HE := Lib.hid he
  have HV := Lib.hid hval
  have HD := Lib.hid (dec_byte_lit w.heap.size (· < w.heap.size) is.length (by omega) (is.flatMap encRel) _ hD)
  have HB0 : Hid (Below w.heap.size w (w.alloc (.cells #[.slice A (encI is).length c, .bool false] 59))) := Lib.hid ((Below.refl _ _).alloc (Nat.le_refl _) _)
  have hsz0 : w.heap.size + 1 ≤ (w.alloc (.cells #[.slice A (encI is).length c, .bool false] 59)).heap.size := by simp
  have HS0 := Lib.hid hsz0
  have HLC := Lib.hid hlc
  have HC := Lib.hid hc
  have HN6 := Lib.hid hn6
  clear hx he hval hD hlen hlc hc hsz0
  generalize hL : (encI is).length = L at *
  have HL := Lib.hid hL
  clear hL
  go_enter Try.func18, Try.ntmps18
  go_wp2_with fail
  refine HD.out.mono ?_
  rintro e w1 ⟨rfl, hd1, ho1⟩
  have HD1 := Lib.hid hd1
  have HB1 : Hid (Below w.heap.size w w1) := Lib.hid (HB0.out.trans ⟨ho1.os, ho1.tape, ho1.output, ho1.size, fun k hk => ho1.block k (by have := HS0.out; omega) (fun e => by injection e with e; omega)⟩)
  have HS1 : Hid (w.heap.size + 1 ≤ w1.heap.size) := Lib.hid (Nat.le_trans HS0.out ho1.size)
  clear hd1 ho1 HD HB0
  go_wp2_with fail
  go_loopw [5, 6] (fun v n wr => ∃ (k : Nat) (ts : List Th), k ≤ is.length ∧ n = .int .u8 ((is.length - k : Nat) : Int) ∧ DI w wr v ts (is.take k) ∧ Dec wr w.heap.size (· < w.heap.size) ((is.drop k).flatMap encRel, false) ∧ w.heap.size + 1 ≤ wr.heap.size) (fun _ n _ => (intOf n).toNat)
  case atStart => exact ⟨0, [], by omega, rfl, DI.first w w1 HB1.out, HD1.out, HS1.out⟩
  case round =>
    obtain ⟨k, ts, hk, rfl, hdi, hdec, hsz⟩ := hrel
    have hgg := hdec.lt
    obtain ⟨⟨A0, c0, hg0, _, _, _⟩, _⟩ := id hdec
    have b1 : wr.cell? ⟨w.heap.size, 1, none⟩ = some (.bool false) := cells_of_blk hg0 1
    clear hg0
    have HDI := Lib.hid hdi
    clear hdi HD1 HB1 HS1
    by_cases hlt : k < is.length
    · obtain ⟨m, hm⟩ : ∃ m, is.length - k = m + 1 := ⟨is.length - k - 1, by omega⟩
      have hm6 : m + 1 ≤ 6 := by have := HN6.out; omega
      have HM := Lib.hid (show is.length - (k + 1) = m by omega)
      rw [hm]
      have HIS := Lib.hid (List.take_append_getElem hlt)
      rw [List.drop_eq_getElem_cons hlt, List.flatMap_cons] at hdec
      obtain ⟨hnm, h24, hrows⟩ := relErr_zero (HV.out _ (List.getElem_mem hlt))
      have h12 := nameOk_size hnm
      obtain ⟨x, hx2⟩ : ∃ x, x = is[k] := ⟨_, rfl⟩
      rw [← hx2] at hdec hrows h24 h12 HIS
      obtain ⟨nm, rows⟩ := x
      have hrl : encRel ⟨nm, rows⟩ = UInt8.ofNat nm.size :: (nm.data.toList ++ (UInt8.ofNat rows.length :: rows.flatMap encR)) := rfl
      rw [hrl] at hdec
      simp only [List.cons_append, List.append_assoc] at hdec
      simp only at h24 h12 hrows
      have HRR := Lib.hid hrows
      have HDC := Lib.hid (dec_byte_lit _ _ nm.size (by omega) _ _ hdec)
      have hws : IntKind.i64.wrap (nm.size : Int) = nm.size := by rw [IntKind.wrap_i64]; omega
      clear hrows hdec hx2 hrl hnm hm hk
      generalize hrest : (is.drop (k + 1)).flatMap encRel = restI at *
      have HREST := Lib.hid hrest
      clear hrest
      go_wp2_with fail
      refine HDC.out.mono ?_
      rintro e w2 ⟨rfl, hd2, ho2⟩
      have HDS := Lib.hid (dec_string_lit _ _ nm (by omega) _ _ hd2)
      clear hd2 HDC b1
      go_wp2_with fail
      refine HDS.out.mono ?_
      rintro e w3 ⟨rfl, hd3, ho3⟩
      have hd3' := hd3.alloc (fun k hk => Nat.lt_of_lt_of_le (Nat.lt_of_lt_of_le hk (Nat.le_of_lt hgg)) (Nat.le_trans ho2.size ho3.size)) (.cells #[.string nm, .slice none 0 0] 64)
      have HDB := Lib.hid (dec_byte_lit _ _ rows.length (by omega) _ _ hd3')
      have HO3 := Lib.hid (ho2.trans ho3)
      have hsz3 : w.heap.size + 1 ≤ w3.heap.size := Nat.le_trans hsz (Nat.le_trans ho2.size ho3.size)
      have HD3 := Lib.hid hd3
      clear hd3 hd3' ho2 ho3 HDS
      go_wp2_with fail
      refine HDB.out.mono ?_
      rintro e w4 ⟨rfl, hd4, ho4⟩
      have HIN := Lib.hid (InR.first HD3.out ho4 hd4)
      have HSL := Lib.hid (fun (k : Nat) (hk : k < w.heap.size) => (by omega : k < w3.heap.size))
      clear hd4 ho4 HD3 HDB
      obtain ⟨wo, rfl⟩ : ∃ wo, wo = wr := ⟨_, rfl⟩
      go_wp2_with fail
      go_loopw [8] (fun n wi => ∃ (k2 : Nat) (u : Value) (hs : List Hd), k2 ≤ rows.length ∧ n = .int .u8 ((rows.length - k2 : Nat) : Int) ∧ InR w3 wi w.heap.size (· < w.heap.size) nm u hs (rows.take k2) ((rows.drop k2).flatMap encR ++ restI, false)) (fun n _ => (intOf n).toNat)
      case atStart => exact ⟨0, _, [], by omega, rfl, HIN.out⟩
      case round =>
        obtain ⟨k2, u, hs, hk2, rfl, hin⟩ := hrel
        clear HIN
        have hlt3 := hin.lt
        obtain ⟨⟨A3, c3, hg3, _, _, _⟩, _⟩ := id hin.dec
        have b1 : wr.cell? ⟨w.heap.size, 1, none⟩ = some (.bool false) := cells_of_blk hg3 1
        have p0 : wr.cell? ⟨w3.heap.size, 0, none⟩ = some (.string nm) := cells_of_blk hin.blk 0
        have p1 : wr.cell? ⟨w3.heap.size, 1, none⟩ = some u := cells_of_blk hin.blk 1
        clear hg3
        by_cases hlt2 : k2 < rows.length
        · obtain ⟨m2, hm2⟩ : ∃ m2, rows.length - k2 = m2 + 1 := ⟨rows.length - k2 - 1, by omega⟩
          have HM2 := Lib.hid (show rows.length - (k2 + 1) = m2 by omega)
          have hm24 : m2 + 1 ≤ 24 := by omega
          rw [hm2]
          have HTK := Lib.hid (List.take_append_getElem hlt2)
          have hr := HRR.out _ (List.getElem_mem hlt2)
          rw [List.drop_eq_getElem_cons hlt2, List.flatMap_cons, List.append_assoc] at hin
          have HI := Lib.hid hin
          generalize rows[k2]'hlt2 = r at *
          have hrl : r.length ≤ maxLen := by have := rErr_zero hr; unfold maxLen; omega
          have HRW := Lib.hid (dec_row_lit w.heap.size (· < w.heap.size) r hr _ wr.drew hin.dec.drew (fun k hk => by show k < wr.heap.size; have := HSL.out k hk; omega))
          have HRL := Lib.hid hrl
          have hhs : hs.length ≤ 24 := by rw [hin.rows.len, List.length_take]; omega
          have H5 : Hid ((hs.length + 1) * 24 ≤ 140737488355328) := Lib.hid (by omega)
          have H6 : Hid (hs.length + 1 ≤ maxLen) := Lib.hid (by unfold maxLen; omega)
          have HP : Hid (w3.heap.size + 1 ≤ wr.drew.heap.size) := Lib.hid hlt3
          have HNE : Hid (w.heap.size ≠ w3.heap.size) := Lib.hid (by omega)
          have hgP : Hid (w.heap.size < w3.heap.size + 1) := Lib.hid (by omega)
          clear hin hr hrl hm2 hhs hk2
          have p1d : wr.drew.cell? ⟨w3.heap.size, 1, none⟩ = some u := p1
          clear HM HIS HDI HRR HV HX HE
          go_upto_region 12 with fail
          go_region_law (first
            | (refine step_app (by rfl) (.tmp 50) (.tmp 53) _ _ (by rfl) (by rfl) (by rfl) (run_push elem_hd hdLay _ w5 u hs ⟨A5, r.length, c5⟩ _ (HI.out.rows.own.only ho5.drew_left hgP.out) rfl H5.out H6.out (Nat.le_trans HP.out ho5.size) rfl) ?_; rintro v6 w6 ⟨ho6, hx6⟩; obtain ⟨A6, n6, c6, rfl, _⟩ := own_form ho6; obtain ⟨f4, f5⟩ := HI.out.after1 HNE.out ho5 hx6)
            | (go_simp; go_at_call 26; (refine HRW.out.mono ?_); rintro e w5 ⟨A5, c5, rfl, hrow5, hd5, ho5⟩; obtain ⟨f6, _⟩ := HI.out.after1 HNE.out ho5 (Ext.refl w5 u); obtain ⟨f7, _⟩ := HI.out.after1 HNE.out ho5 ((Ext.refl w5 u).alloc (.cells #[.slice A5 r.length c5] 23))))
          all_goals
            go_wp2_with fail
            go_roundw
            case rel => exact ⟨k2 + 1, _, _, hlt2, by rw [HM2.out], by have := HI.out.step (Nat.lt_of_le_of_ne (Nat.le_of_lt_succ hgP.out) HNE.out) HSL.out ho5 hrow5 hd5 HRL.out hx6 ho6; rwa [HTK.out] at this⟩
            case measure => simp [intOf]
        · have hkl : k2 = rows.length := by omega
          subst hkl
          rw [List.drop_length, List.take_length] at hin
          simp only [List.flatMap_nil, List.nil_append, Nat.sub_self] at hin ⊢
          obtain ⟨UA, un, uc, rfl, hun⟩ := own_form hin.rows.own
          have hdi3 := HDI.out.only HO3.out
          have hdi4 := (hdi3.only hin.only).own
          have hts : ts.length ≤ 6 := by rw [HDI.out.len, List.length_take]; have := HN6.out; omega
          have H5 : Hid ((ts.length + 1) * 40 ≤ 140737488355328) := Lib.hid (by omega)
          have H6 : Hid (ts.length + 1 ≤ maxLen) := Lib.hid (by unfold maxLen; omega)
          have HDI3 := Lib.hid hdi3
          have HDI4 := Lib.hid hdi4
          have HI := Lib.hid hin
          have hszr : w.heap.size + 1 ≤ wr.heap.size := by omega
          clear hin hdi3 hdi4 hts HDI hun
          go_wp2_with (at_builtin; refine wpList_app rfl (.tmp 56) (.tmp 58) _ _ rfl rfl rfl (run_push elem_th thLay _ wr u5 ts ⟨nm, ⟨UA, un, uc⟩⟩ _ HDI4.out rfl H5.out H6.out hszr rfl) ?_; rintro v6 w6 ⟨ho6, hx6⟩)
          go_roundw
          case rel => exact ⟨k + 1, _, hlt, by rw [HM.out], by have := HDI3.out.step HI.out.only hsz3 HI.out.rows (by unfold maxLen; omega) (by unfold maxLen; omega) hx6 ho6; rwa [HIS.out] at this, by rw [HREST.out]; exact HI.out.dec.ext hx6 (base := w.heap.size + 1) hszr (fun b hb => (HDI4.out.lt b hb).1) (Nat.lt_succ_self _) (fun k hk => Nat.lt_succ_of_lt hk), Nat.le_trans hszr hx6.size⟩
          case measure => simp [intOf]
    · have hkl : k = is.length := by omega
      subst hkl
      rw [List.drop_length] at hdec
      simp only [List.flatMap_nil, Nat.sub_self, List.take_length] at hdec HDI ⊢
      obtain ⟨A1, c1, rfl, hin⟩ := HDI.out.inst
      have hL := HL.out
      subst hL
      have HCE := Lib.hid (encodeInst_ok A1 c1 ts is wr hin (by have := HN6.out; unfold maxLen; omega) HE.out)
      have HIN := Lib.hid hin
      have HBW := Lib.hid HDI.out.below
      have HDC := Lib.hid hdec
      clear hin hdec HDI HV HS0
      go_wp2_with fail
      refine HCE.out.mono ?_
      rintro e w2 ⟨v2, rfl, ho2, hb2⟩
      obtain ⟨A2, c2, rfl, _, _⟩ := ho2.form
      have hd2 := HDC.out.below hb2 hgg (fun k hk => by omega)
      have hx2 := HX.out.keep (Keeps.of_below (HBW.out.trans (hb2.mono HBW.out.size)) fun _ h => h)
      have hcan := dec_canonical w.heap.size _ _ _ ([], false) A A2 c c2 (encI is) (encI is) 0 w2 hd2 hx2 (ho2.elems byteLay.len rfl)
      have hct : canonB false [] 0 (encI is) (encI is) = true := by simp [canonB]
      simp only [hct] at hcan
      have HCAN := Lib.hid hcan
      have HI2 := Lib.hid (HIN.out.on hb2)
      have HB2 := Lib.hid (HBW.out.trans (hb2.mono HBW.out.size))
      clear hcan hct hd2 hx2 ho2 hb2 HX HE HCE HIN HBW HDC
      go_wp2_with fail
      refine HCAN.out.mono ?_
      rintro e w3 ⟨rfl, rfl⟩
      go_wp2_with fail
      go_ret2
      exact ⟨A1, c1, ts, rfl, HI2.out, HB2.out⟩

end Go.Proofs.Ytjgghbmlbheknaa
