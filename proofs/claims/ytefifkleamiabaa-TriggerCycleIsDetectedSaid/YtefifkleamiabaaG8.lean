/-
  The walks of relation.Clone, relation.Find.
-/
import Derived.Test.YtefifkleamiabaaG7
import Derived.Test.YtefifkleamiabaaYd1
namespace Go.Proofs.Ytefifkleamiabaa
open Go.RowKit Go.Sort

/-- Rows of the call's own. -/
structure RO (base : Nat) (w0 w : World) (v : Value) (ks : List Key) (rs : List Row) : Prop where
  own : Own 1 Key.cs 23 base w v ks
  rows : ks.map Key.row = rs
  el : ∀ k ∈ ks, KOk (fun g => base ≤ g ∧ g < w.heap.size ∧ v.ownBlock ≠ some g) w k
  bel : Below base w0 w
theorem RO.push {base : Nat} {w0 wo wc w' : World} {v v' : Value} {ks : List Key} {rs : List Row} {key : Key} (h : RO base w0 wo v ks rs) (hb : Below wo.heap.size wo wc) (hk : KOk (fun g => wo.heap.size ≤ g ∧ g < wc.heap.size) wc key)
    (ho : Own 1 Key.cs 23 base w' v' (ks ++ [key])) (hx : Ext wc v w' v') (hB : base ≤ wo.heap.size) : RO base w0 w' v' (ks ++ [key]) (rs ++ [key.row]) := by
  have hvl : ∀ g, v.ownBlock = some g → base ≤ g ∧ g < wo.heap.size := Own.lt h.own
  have hsz := hx.size
  have hbs := hb.size
  have hne : ∀ g, wo.heap.size ≤ g → v.ownBlock ≠ some g := fun g hg e => by have := (hvl g e).2; omega
  refine ⟨ho, by rw [List.map_append, h.rows]; rfl, fun k hm => ?_, (h.bel.trans (hb.mono hB)).trans (hx.below (by omega) fun g hg => (hvl g hg).1)⟩
  rcases List.mem_append.1 hm with hm | hm
  · have h1 := (h.el k hm).keep (Keeps.of_below hb fun _ h => h.2.1)
    refine (h1.keep (hx.keeps fun g hg => ⟨by omega, fun e => hg.2.2 e.symm⟩)).more fun g hg => ⟨hg.1, by omega, hx.ne hg.2.2 (by omega)⟩
  · rw [List.mem_singleton.1 hm]
    exact (hk.keep (hx.keeps fun g hg => ⟨hg.2, fun e => hne g hg.1 e.symm⟩)).more fun g hg => ⟨by omega, by omega, hx.ne (hne g hg.1) hg.2⟩
theorem RO.rs {base : Nat} {w0 w : World} {A : Option Addr} {n c : Nat} {ks : List Key} {rs : List Row} (h : RO base w0 w (.slice A n c) ks rs) : RsOk (· < w.heap.size) w A ks :=
  ⟨(h.own.elems keyLay.len rfl).more fun g hg => (Own.lt h.own g hg).2, fun k hk => (h.el k hk).more fun _ hg => hg.2.1⟩
theorem RO.below {base : Nat} {w0 w w' : World} {v : Value} {ks : List Key} {rs : List Row} (h : RO base w0 w v ks rs) (hb : Below w.heap.size w w') (hB : base ≤ w.heap.size) : RO base w0 w' v ks rs :=
  ⟨h.own.below hb, h.rows, fun k hk => ((h.el k hk).keep (Keeps.of_below hb fun _ h => h.2.1)).more fun _ hg => ⟨hg.1, Nat.lt_of_lt_of_le hg.2.1 hb.size, hg.2.2⟩, h.bel.trans (hb.mono hB)⟩

set_option maxRecDepth 100000 in
set_option maxHeartbeats 4000000 in
theorem relClone (A : Option Addr) (c : Nat) (ks : List Key) (w : World) (h : RsOk (· < w.heap.size) w A ks) (hl : ks.length ≤ 1000) :
    Calls Try.prog 20 #[.slice A ks.length c] w fun e w' => ∃ v ks', e = .returned v ∧ RO w.heap.size w w' v ks' (ks.map Key.row) := by
  have HX := Lib.hid h
  obtain ⟨n, hn⟩ : ∃ n, ks.length = n := ⟨_, rfl⟩
  rw [hn] at hl ⊢
  have HN := Lib.hid hn
  clear h hn
  go_enter Try.func20, Try.ntmps20
  go_wp2_with fail
  go_loopw [3, 8] (fun v3 vi wr => ∃ (k : Nat) (ks' : List Key), vi = .int .i64 (k : Int) ∧ k ≤ n ∧ RO w.heap.size w wr v3 ks' ((ks.take k).map Key.row)) (fun _ vi _ => n - (intOf vi).toNat)
  case atStart => exact ⟨0, [], rfl, by omega, Own.nil _, rfl, (fun k hk => by cases hk), Below.refl _ _⟩
  case round =>
    obtain ⟨k, ks', rfl, hkn, hT⟩ := hrel
    obtain ⟨wo, rfl⟩ : ∃ wo, wo = wr := ⟨_, rfl⟩
    obtain ⟨v3, rfl⟩ : ∃ v3, v3 = u3 := ⟨_, rfl⟩
    by_cases hlt : k < n
    · have hki : k < ks.length := by have := HN.out; omega
      have hx := HX.out.on hT.bel
      obtain ⟨b, off, rfl, -, p0⟩ := hx.el.key hki
      have hrow := hx.row _ (List.getElem_mem hki)
      have hlt' : (k : Int) < (n : Int) := by omega
      have hlen : ks'.length = k := by
        have h := congrArg List.length hT.rows
        rw [List.length_map, List.length_map, List.length_take] at h
        omega
      have HSUC : Hid ((ks.take (k + 1)).map Key.row = (ks.take k).map Key.row ++ [ks[k].row]) := Lib.hid (by rw [List.take_succ_eq_append_getElem hki, List.map_append]; rfl)
      have hrl := hrow.len
      have HCL := Lib.hid (cloneRow ks[k].A ks[k].row.length ks[k].c ks[k].row wo _ hrow.el (fun _ h => h) rfl (by omega))
      have HT := Lib.hid hT
      have HL1 : Hid ((ks'.length + 1) * 24 ≤ 140737488355328) := Lib.hid (by omega)
      have HL2 : Hid (ks'.length + 1 ≤ maxLen) := Lib.hid (by unfold maxLen; omega)
      have HRL := Lib.hid hrl
      clear hT hx hrow hlen hrl
      generalize ks[k] = q at *
      obtain ⟨qA, qc, qr⟩ := q
      simp only at *
      go_wp2_with fail
      refine HCL.out.mono ?_
      rintro e w2 ⟨v2, rfl, ho2, hb2⟩
      obtain ⟨A2, c2, rfl, -, -⟩ := ho2.form
      have hky : KOk (fun g => wo.heap.size ≤ g ∧ g < w2.heap.size) w2 ⟨A2, c2, qr⟩ := ⟨(ho2.elems valLay.len rfl).more fun g hg => Own.lt ho2 g hg, HRL.out⟩
      have HP : Hid (∀ w' v', Own 1 Key.cs 23 w.heap.size w' v' (ks' ++ [⟨A2, c2, qr⟩]) → Ext w2 v3 w' v' → RO w.heap.size w w' v' (ks' ++ [⟨A2, c2, qr⟩]) ((ks.take (k + 1)).map Key.row)) := Lib.hid fun w' v' h1 h2 => by
        rw [HSUC.out]
        exact HT.out.push hb2 hky h1 h2 HT.out.bel.size
      have HO : Hid (Own 1 Key.cs 23 w.heap.size w2 v3 ks' ∧ w.heap.size ≤ w2.heap.size) := Lib.hid ⟨HT.out.own.below hb2, Nat.le_trans HT.out.bel.size hb2.size⟩
      clear ho2 hb2 hky
      go_wp2_with (at_builtin; refine wpList_app rfl (.tmp 12) (.tmp 15) _ _ rfl rfl rfl (run_push elem_keys keyLay _ _ _ ks' ⟨A2, c2, qr⟩ _ HO.out.1 rfl HL1.out HL2.out HO.out.2 rfl) ?_; rintro v4 w4 ⟨ho4, hx4⟩)
      have HF := Lib.hid (HP.out _ _ ho4 hx4)
      clear ho4 hx4
      go_wp2_with fail
      go_roundw
      case rel => exact ⟨k + 1, _, by go_num, by omega, HF.out⟩
      case measure => simp [intOf]; omega
    · have hkn' : k = n := by omega
      subst hkn'
      have HF : Hid (RO w.heap.size w wo v3 ks' (ks.map Key.row)) := Lib.hid (by rwa [List.take_of_length_le (by have := HN.out; omega)] at hT)
      clear hT
      go_wp2_with fail
      go_ret
      exact ⟨_, _, rfl, HF.out⟩

/-- Where a key stands among sorted rows; whether it is there. -/
def rfi (pk : List Int) (key : Row) (rs : List Row) : Nat := rs.findIdx fun r => decide (0 ≤ cmpR (keyOf pk r) key)
def rff (pk : List Int) (key : Row) (rs : List Row) : Bool := match rs[rfi pk key rs]? with
  | some r => decide (cmpR (keyOf pk r) key = 0)
  | none => false
theorem rfi_at {pk : List Int} {key : Row} {rs : List Row} {k : Nat} (hk : k < rs.length) (hp : 0 ≤ cmpR (keyOf pk rs[k]) key) (hb : ∀ r ∈ rs.take k, cmpR (keyOf pk r) key < 0) : rfi pk key rs = k ∧ rff pk key rs = decide (cmpR (keyOf pk rs[k]) key = 0) := by
  have hf : rfi pk key rs = k := by
    unfold rfi
    rw [List.findIdx_eq hk]
    refine ⟨decide_eq_true hp, fun j hj => ?_⟩
    have h := hb rs[j] (by rw [List.mem_take_iff_getElem]; exact ⟨j, by omega, rfl⟩)
    exact decide_eq_false (by omega)
  refine ⟨hf, ?_⟩
  unfold rff
  rw [hf, List.getElem?_eq_getElem hk]
theorem rfi_no {pk : List Int} {key : Row} {rs : List Row} (hb : ∀ r ∈ rs, cmpR (keyOf pk r) key < 0) : rfi pk key rs = rs.length ∧ rff pk key rs = false := by
  have hf : rfi pk key rs = rs.length := by
    unfold rfi
    rw [List.findIdx_eq_length]
    intro r hr
    have h := hb r hr
    exact decide_eq_false (by omega)
  refine ⟨hf, ?_⟩
  unfold rff
  rw [hf, List.getElem?_eq_none (Nat.le_refl _)]

set_option maxRecDepth 100000 in
set_option maxHeartbeats 4000000 in
theorem relFind (t : Tbl) (A : Option Addr) (c : Nat) (ks : List Key) (key : Key) (w : World) (ht : TOk (· < w.heap.size) w t) (h : RsOk (· < w.heap.size) w A ks) (hk : KOk (· < w.heap.size) w key) (hl : ks.length ≤ 1000) (hp : t.pk.length ≤ 12) :
    Calls Try.prog 39 #[t.val, .slice A ks.length c, .slice key.A key.row.length key.c] w fun e w' => e = .returned (.tuple #[.int .i64 (rfi t.pk key.row (ks.map Key.row) : Nat), .bool (rff t.pk key.row (ks.map Key.row))]) ∧ Below w.heap.size w w' := by
  have HX := Lib.hid h
  have HK := Lib.hid hk
  have HKY := Lib.hid fun W (hW : Below w.heap.size w W) (q : Key) (hq : Elems 3 Val.cs W (· < W.heap.size) q.A q.row) => relKey t q.A q.c q.row W (ht.on hW) hq (by omega)
  obtain ⟨name, CA, cc, tc, PA, pc, pk⟩ := t
  unfold Tbl.val at HKY ⊢
  simp only at *
  obtain ⟨n, hn⟩ : ∃ n, ks.length = n := ⟨_, rfl⟩
  rw [hn] at hl ⊢
  have HN := Lib.hid hn
  have HP := Lib.hid hp
  obtain ⟨w1, hw1⟩ : ∃ w1, w1 = w.alloc (.cells #[.string name, .slice CA tc.length cc, .slice PA pk.length pc] 58) := ⟨_, rfl⟩
  have hbx := heap_alloc_new w (.cells #[.string name, .slice CA tc.length cc, .slice PA pk.length pc] 58)
  rw [← hw1] at hbx
  have hb1 : Below w.heap.size w w1 := by rw [hw1]; exact (Below.refl _ _).alloc (Nat.le_refl _) _
  have hs1 : w.heap.size < w1.heap.size := by rw [hw1]; simp
  have HBK : Hid (∀ W, Below w1.heap.size w1 W → W.cell? ⟨w.heap.size, 0, none⟩ = some (.string name) ∧ W.cell? ⟨w.heap.size, 1, none⟩ = some (.slice CA tc.length cc) ∧ W.cell? ⟨w.heap.size, 2, none⟩ = some (.slice PA pk.length pc)) := Lib.hid fun W hW => by
    have h := (hW.block w.heap.size hs1).trans hbx
    exact ⟨by rw [cell_of_row _ _ _ _ _ _ h]; rfl, by rw [cell_of_row _ _ _ _ _ _ h]; rfl, by rw [cell_of_row _ _ _ _ _ _ h]; rfl⟩
  have HB1 := Lib.hid hb1
  have HW1 := Lib.hid hw1
  clear ht h hk hn hp hw1 hbx hb1 hs1
  go_enter Try.func39, Try.ntmps39
  go_upto_region 1 with fail
  rw [← HW1.out]
  go_wp2_with fail
  go_loopw [13] (fun vi wr => ∃ k : Nat, vi = .int .i64 (k : Int) ∧ k ≤ n ∧ (∀ r ∈ (ks.map Key.row).take k, cmpR (keyOf pk r) key.row < 0) ∧ Below w1.heap.size w1 wr) (fun vi _ => n - (intOf vi).toNat)
  case atStart => exact ⟨0, rfl, by omega, (by intro x hx; simp at hx), Below.refl _ _⟩
  case round =>
    obtain ⟨k, rfl, hkn, hbef, hb⟩ := hrel
    obtain ⟨wo, rfl⟩ : ∃ wo, wo = wr := ⟨_, rfl⟩
    have hbw : Below w.heap.size w wo := HB1.out.trans (hb.mono HB1.out.size)
    by_cases hlt : k < n
    · have hki : k < ks.length := by have := HN.out; omega
      have hx := HX.out.on hbw
      obtain ⟨b, off, rfl, -, p0⟩ := hx.el.key hki
      have hrow := hx.row _ (List.getElem_mem hki)
      obtain ⟨c0, c1, c2⟩ := HBK.out wo hb
      have hlt' : (k : Int) < (n : Int) := by omega
      have hkm : k < (ks.map Key.row).length := by rw [List.length_map]; exact hki
      have HAT : Hid (0 ≤ cmpR (keyOf pk ks[k].row) key.row → rfi pk key.row (ks.map Key.row) = k ∧ rff pk key.row (ks.map Key.row) = decide (cmpR (keyOf pk ks[k].row) key.row = 0)) := Lib.hid fun hc => by
        have h := rfi_at (pk := pk) (key := key.row) hkm (by rw [List.getElem_map]; exact hc) hbef
        rw [List.getElem_map] at h
        exact h
      have HSUC : Hid (cmpR (keyOf pk ks[k].row) key.row < 0 → ∀ r ∈ (ks.map Key.row).take (k + 1), cmpR (keyOf pk r) key.row < 0) := Lib.hid fun hc r hr => by
        rw [List.take_succ_eq_append_getElem hkm] at hr
        rcases List.mem_append.1 hr with hr | hr
        · exact hbef r hr
        · rw [List.mem_singleton.1 hr, List.getElem_map]
          exact hc
      have HK1 := Lib.hid (HKY.out wo hbw ks[k] hrow.el)
      have HBO := Lib.hid (And.intro hb hbw)
      clear hx hrow hbef hb hbw hkm
      generalize ks[k] = q at *
      obtain ⟨qA, qc, qr⟩ := q
      simp only at *
      go_wp2_with fail
      refine HK1.out.mono ?_
      rintro e w2 ⟨v2, rfl, ho2, hb2⟩
      obtain ⟨A2, c2', rfl, -, -⟩ := ho2.form
      have hb02 := HBO.out.2.trans (hb2.mono HBO.out.2.size)
      have hkk : (keyOf pk qr).length = pk.length := by unfold keyOf; rw [List.length_map]
      have hky : KOk (· < w2.heap.size) w2 ⟨A2, c2', keyOf pk qr⟩ := ⟨(ho2.elems valLay.len rfl).more fun g hg => (Own.lt ho2 g hg).2, by show (keyOf pk qr).length ≤ 12; have := HP.out; omega⟩
      have HCM := Lib.hid (cmpKeys ⟨A2, c2', keyOf pk qr⟩ key w2 hky (HK.out.on hb02))
      have HB2 := Lib.hid (HBO.out.1.trans (hb2.mono HBO.out.1.size))
      clear ho2 hb2 hb02 hkk hky
      simp only at HCM
      go_wp2_with fail
      refine HCM.out.mono ?_
      rintro e w3 ⟨rfl, hb3⟩
      have HB3 := Lib.hid (HB2.out.trans (hb3.mono HB2.out.size))
      clear hb3
      generalize cmpR (keyOf pk qr) key.row = cv at *
      by_cases hc : 0 ≤ cv
      · obtain ⟨h1, h2⟩ := HAT.out hc
        have H12 := Lib.hid (And.intro h1 h2)
        clear h1 h2 HAT HSUC
        go_wp2_with fail
        go_ret2
        refine ⟨?_, HB1.out.trans (HB3.out.mono HB1.out.size)⟩
        rw [H12.out.1, H12.out.2]
        first | rfl | simp [Int.beq_eq_decide_eq]
      · have HS := Lib.hid (HSUC.out (by omega))
        clear HAT HSUC
        go_wp2_with fail
        go_roundw
        case rel => exact ⟨k + 1, by go_num, by omega, HS.out, HB3.out⟩
        case measure => simp [intOf]; omega
    · have hkn' : k = n := by omega
      subst hkn'
      have hno := rfi_no (pk := pk) (key := key.row) (rs := ks.map Key.row) (by rwa [List.take_of_length_le (by rw [List.length_map]; have := HN.out; omega)] at hbef)
      rw [List.length_map, HN.out] at hno
      have HNO := Lib.hid hno
      have HE := Lib.hid hbw
      clear hbef hb hbw hno
      go_wp2_with fail
      go_ret2
      refine ⟨?_, HE.out⟩
      rw [HNO.out.1, HNO.out.2]
      rfl
end Go.Proofs.Ytefifkleamiabaa
