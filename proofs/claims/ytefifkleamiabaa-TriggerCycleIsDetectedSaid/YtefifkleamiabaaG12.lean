/-
  The walk of instance.Clone.
-/
import Derived.Test.YtefifkleamiabaaG11
namespace Go.Proofs.Ytefifkleamiabaa
open Go.RowKit Go.Sort

theorem elem_rels : ElemT Try.prog 43 73 2 40 := ⟨Try.underlying43, by
  have h : (Try.prog.info? 73).map (fun i => (i.zero, i.size, i.bytes)) = some (some (.agg #[.string ByteArray.empty, .slice none 0 0]), 2, 40) := by kernel_rfl
  obtain ⟨i0, hi, hz0, hz1, hz2⟩ := info_parts h
  exact ⟨i0, _, hi, hz0, hz1, hz2, rfl⟩, by omega⟩
/-- An instance of the call's own. -/
structure InO (base : Nat) (w0 w : World) (v : Value) (rs : List RelM) (ds : List (ByteArray × List Row)) : Prop where
  own : Own 2 RelM.cs 73 base w v rs
  dat : rs.map RelM.d = ds
  rel : ∀ r ∈ rs, RsOk (fun g => base ≤ g ∧ g < w.heap.size ∧ v.ownBlock ≠ some g) w r.A r.rows
  bel : Below base w0 w
theorem InO.push {base : Nat} {w0 wo wc w' : World} {v v' : Value} {rs : List RelM} {ds : List (ByteArray × List Row)} {r : RelM} (h : InO base w0 wo v rs ds) (hb : Below wo.heap.size wo wc) (hk : RsOk (fun g => wo.heap.size ≤ g ∧ g < wc.heap.size) wc r.A r.rows)
    (ho : Own 2 RelM.cs 73 base w' v' (rs ++ [r])) (hx : Ext wc v w' v') (hB : base ≤ wo.heap.size) : InO base w0 w' v' (rs ++ [r]) (ds ++ [r.d]) := by
  have hvl : ∀ g, v.ownBlock = some g → base ≤ g ∧ g < wo.heap.size := Own.lt h.own
  have hsz := hx.size
  have hbs := hb.size
  have hne : ∀ g, wo.heap.size ≤ g → v.ownBlock ≠ some g := fun g hg e => by have := (hvl g e).2; omega
  refine ⟨ho, by rw [List.map_append, h.dat]; rfl, fun k hm => ?_, (h.bel.trans (hb.mono hB)).trans (hx.below (by omega) fun g hg => (hvl g hg).1)⟩
  rcases List.mem_append.1 hm with hm | hm
  · have h1 := (h.rel k hm).keep (Keeps.of_below hb fun _ h => h.2.1)
    refine (h1.keep (hx.keeps fun g hg => ⟨by omega, fun e => hg.2.2 e.symm⟩)).more fun g hg => ⟨hg.1, by omega, hx.ne hg.2.2 (by omega)⟩
  · rw [List.mem_singleton.1 hm]
    exact (hk.keep (hx.keeps fun g hg => ⟨hg.2, fun e => hne g hg.1 e.symm⟩)).more fun g hg => ⟨by omega, by omega, hx.ne (hne g hg.1) hg.2⟩
theorem RO.rsb {base : Nat} {w0 w : World} {A : Option Addr} {n c : Nat} {ks : List Key} {rs : List Row} (h : RO base w0 w (.slice A n c) ks rs) : RsOk (fun g => base ≤ g ∧ g < w.heap.size) w A ks :=
  ⟨(h.own.elems keyLay.len rfl).more fun g hg => Own.lt h.own g hg, fun k hk => (h.el k hk).more fun _ hg => ⟨hg.1, hg.2.1⟩⟩

/-- Behind the rows' clone: the append. -/
def IcK (w : World) (bx : Nat) (nm : ByteArray) (v3 : Value) (ds : List (ByteArray × List Row)) (n : Nat) (e : Ending) (w2 : World) : Prop :=
  ∃ A2 c2, e = .returned (.slice A2 n c2) ∧ w2.cell? ⟨bx, 0, none⟩ = some (.string nm)
    ∧ Hid (∀ ty, ∃ v4 w4, (Builtin.append_ #[43, 43] ty #[v3, .slice (some ⟨w2.heap.size, 0, none⟩) 1 1]).run Try.prog (w2.alloc (.cells #[.string nm, .slice A2 n c2] 73)) = .ok v4 w4 ∧ ∃ rs', InO w.heap.size w w4 v4 rs' ds)

theorem ick {w wo W : World} {v3 : Value} {rs : List RelM} {ds : List (ByteArray × List Row)} (h : InO w.heap.size w wo v3 rs ds) (hW : Below wo.heap.size wo W) {A : Option Addr} {c : Nat} {ks : List Key} (hr : RsOk (· < W.heap.size) W A ks) (hl : ks.length ≤ 1000) (hrl : rs.length ≤ 100) {bx : Nat} {nm : ByteArray} (hbx : W.cell? ⟨bx, 0, none⟩ = some (.string nm)) (m : Nat) :
    Calls Try.prog 20 #[.slice A ks.length c] (W.drewN m) (IcK w bx nm v3 (ds ++ [(nm, ks.map Key.row)]) ks.length) := by
  have hlt : bx < W.heap.size := by
    rcases Nat.lt_or_ge bx W.heap.size with h | h
    · exact h
    · rw [World.cell?] at hbx
      simp [Array.getElem?_eq_none h] at hbx
  have hd : Below W.heap.size W (W.drewN m) := below_drewN (Below.refl _ _) m
  refine (relClone A c ks (W.drewN m) (hr.on hd) hl).mono ?_
  rintro e w2 ⟨v2, ks2, rfl, hro⟩
  have hkl : ks2.length = ks.length := by
    have h := congrArg List.length hro.rows
    rwa [List.length_map, List.length_map] at h
  obtain ⟨A2, c2, rfl, -, -⟩ := hro.own.form
  have hb2 : Below W.heap.size W w2 := hd.trans hro.bel
  have hbo : Below wo.heap.size wo w2 := hW.trans (hb2.mono hW.size)
  rw [hkl]
  refine ⟨A2, c2, rfl, (hb2.cell (p := ⟨bx, 0, none⟩) hlt).trans hbx, Lib.hid fun ty => ?_⟩
  obtain ⟨v4, w4, hrun, ho4, hx4⟩ := run_push elem_rels relLay ty w2 v3 rs (⟨nm, A2, c2, ks2⟩ : RelM) #[.string nm, .slice A2 ks2.length c2] (h.own.below hbo) rfl (by omega) (by unfold maxLen; omega) (Nat.le_trans h.bel.size hbo.size) rfl
  rw [hkl] at hrun
  refine ⟨v4, w4, hrun, rs ++ [⟨nm, A2, c2, ks2⟩], ?_⟩
  have hp := h.push hbo (r := ⟨nm, A2, c2, ks2⟩) (hro.rsb.more fun g hg => ⟨Nat.le_trans hW.size hg.1, hg.2⟩) ho4 hx4 h.bel.size
  have e : (⟨nm, A2, c2, ks2⟩ : RelM).d = (nm, ks.map Key.row) := by
    show (nm, ks2.map Key.row) = _
    rw [hro.rows]
  rw [e] at hp
  exact hp

set_option maxRecDepth 100000 in
set_option maxHeartbeats 4000000 in
theorem instClone (A : Option Addr) (c : Nat) (rs : List RelM) (w : World) (h : InOk (· < w.heap.size) w A rs) (hl : rs.length ≤ 100) (hr : ∀ r ∈ rs, r.rows.length ≤ 1000) :
    Calls Try.prog 11 #[.slice A rs.length c] w fun e w' => ∃ v rs', e = .returned v ∧ InO w.heap.size w w' v rs' (rs.map RelM.d) := by
  have HX := Lib.hid h
  have HR := Lib.hid hr
  obtain ⟨n, hn⟩ : ∃ n, rs.length = n := ⟨_, rfl⟩
  rw [hn] at hl ⊢
  have HN := Lib.hid hn
  clear h hn hr
  go_enter Try.func11, Try.ntmps11
  go_wp2_with fail
  go_loopw [3, 8] (fun v3 vi wr => ∃ (k : Nat) (rs' : List RelM), vi = .int .i64 (k : Int) ∧ k ≤ n ∧ InO w.heap.size w wr v3 rs' ((rs.take k).map RelM.d)) (fun _ vi _ => n - (intOf vi).toNat)
  case atStart => exact ⟨0, [], rfl, by omega, Own.nil _, rfl, (fun k hk => by cases hk), Below.refl _ _⟩
  case round =>
    obtain ⟨k, rs', rfl, hkn, hT⟩ := hrel
    obtain ⟨wo, rfl⟩ : ∃ wo, wo = wr := ⟨_, rfl⟩
    obtain ⟨v3, rfl⟩ : ∃ v3, v3 = u3 := ⟨_, rfl⟩
    by_cases hlt : k < n
    · have hki : k < rs.length := by have := HN.out; omega
      have hx := HX.out.on hT.bel
      obtain ⟨b, off, rfl, -, p0, p1⟩ := hx.el.rel hki
      have hlt' : (k : Int) < (n : Int) := by omega
      have hlen : rs'.length = k := by
        have h := congrArg List.length hT.dat
        rw [List.length_map, List.length_map, List.length_take] at h
        omega
      obtain ⟨w1, hw1⟩ : ∃ w1, w1 = wo.alloc (.cells #[.string rs[k].name, .slice rs[k].A rs[k].rows.length rs[k].c] 73) := ⟨_, rfl⟩
      have hb1 : Below wo.heap.size wo w1 := by rw [hw1]; exact (Below.refl _ _).alloc (Nat.le_refl _) _
      have hg1 : w1.heap[wo.heap.size]? = some (.cells #[.string rs[k].name, .slice rs[k].A rs[k].rows.length rs[k].c] 73 (0, 0)) := by rw [hw1]; exact heap_alloc_new wo _
      have c0 : w1.cell? ⟨wo.heap.size, 0, none⟩ = some (.string rs[k].name) := by rw [cell_of_row _ _ _ _ _ _ hg1]; rfl
      have c1 : w1.cell? ⟨wo.heap.size, 1, none⟩ = some (.slice rs[k].A rs[k].rows.length rs[k].c) := by rw [cell_of_row _ _ _ _ _ _ hg1]; rfl
      have hsuc : (rs.take (k + 1)).map RelM.d = (rs.take k).map RelM.d ++ [(rs[k].name, rs[k].rows.map Key.row)] := by rw [List.take_succ_eq_append_getElem hki, List.map_append]; rfl
      have HCL := Lib.hid fun m => ick hT hb1 ((hx.rel _ (List.getElem_mem hki)).on hb1) (c := rs[k].c) (HR.out _ (List.getElem_mem hki)) (by omega) c0 m
      rw [← hsuc] at HCL
      have HW1 := Lib.hid hw1
      clear hT hx hlen hb1 hg1 hw1 hsuc
      generalize rs[k] = q at *
      obtain ⟨qn, qA, qc, qks⟩ := q
      simp only at *
      go_upto_region 5 with fail
      rw [← HW1.out]
      go_region_law (first
        | (go_simp; go_at_call 20; refine (HCL.out 1).mono ?_; rintro e w2 ⟨A2, c2, rfl, z0, HAP⟩)
        | (refine step_app (by rfl) (.tmp 12) (.tmp 19) _ _ (by rfl) (by rfl) (by rfl) (HAP.out _) ?_; rintro v4 w4 ⟨rs4, hio⟩))
      all_goals
        have HF := Lib.hid hio
        clear hio
        go_wp2_with fail
        go_roundw
        case rel => exact ⟨k + 1, _, by go_num, by omega, HF.out⟩
        case measure => simp [intOf]; omega
    · have hkn' : k = n := by omega
      subst hkn'
      have HF : Hid (InO w.heap.size w wo v3 rs' (rs.map RelM.d)) := Lib.hid (by rwa [List.take_of_length_le (by have := HN.out; omega)] at hT)
      clear hT
      go_wp2_with fail
      go_ret
      exact ⟨_, _, rfl, HF.out⟩
end Go.Proofs.Ytefifkleamiabaa
