/-
  The walks of slices.Grow (from nil) and slices.Concat over entries.
-/
import Derived.Test.YtlgjkhdpinnccaaEf
import Derived.Lib.AppendZeros
namespace Go.Proofs.Ytlgjkhdpinnccaa
open Go.RowKit Go.Sort

set_option maxRecDepth 100000 in
set_option maxHeartbeats 1000000 in
theorem grow_nil (n : Nat) (w : World) (hn : n ≤ 100000) :
    Calls Try.prog 42 #[.slice none 0 0, .int .i64 n] w fun e w' => ∃ v, e = .returned v ∧ Own 2 Ent.cs 45 w.heap.size w' v ([] : List Ent) ∧ Below w.heap.size w w' := by
  rcases Nat.eq_zero_or_pos n with rfl | hpos
  · go_enter Try.func42, Try.ntmps42
    go_wp2_with fail
    go_ret
    exact ⟨_, rfl, Own.nil _, Below.refl _ _⟩
  · obtain ⟨i, z, hi, hz, h2, h3, h4⟩ := elem_ents.info
    have happ := Lib.run_append_nil_zeros (P := Try.prog) w 43 3 43 45 i z .i64 .i64 elem_ents.und Try.underlying3 hi hz n hpos (by omega) (by omega) (by rw [h3]; omega)
    generalize hcap : grownCap w n 0 45 = cap2 at happ
    have hcapge : n ≤ cap2 := by rw [← hcap]; exact grownCap_ge w _ 0 _
    have hcaple : cap2 ≤ maxLen := by rw [← hcap]; exact grownCap_le_maxLen w _ 0 _ (by unfold maxLen; omega)
    generalize hZ : (Builtin.zeroCells z.cells n ++ Builtin.zeroCells z.cells (cap2 - n)) = Z at happ
    have hZs : Z.size = cap2 * 2 := by rw [← hZ]; simp [size_zeroCells, h4]; omega
    have HO := Lib.hid (World.ownsRow_made (base := w.heap.size) (e := 45) (size := 2) w.drew Z cap2 (Nat.le_refl _) hcaple hZs)
    have hg0 : (0 : Int) < (n : Int) := by omega
    have hc0 : (0 : Int) ≤ (cap2 : Int) := by omega
    have HM := Lib.hid hcaple
    clear hcap hZ hcaple hi hz h2 h3 h4
    go_enter Try.func42, Try.ntmps42
    go_wp2_with (at_builtin; refine Lib.wpList_append_run _ rfl _ _ _ _ rfl _ _ rfl rfl _ _ happ ?_)
    go_ret
    exact ⟨_, rfl, HO.out, (Below.refl _ _).drew.alloc (Nat.le_refl _) _⟩

/-- The head of a slice of runs. -/
structure Hdr where
  A : Option Addr
  c : Nat
  xs : List Ent
def Hdr.cs (h : Hdr) : List Value := [.slice h.A h.xs.length h.c]
def Hdr.all (hs : List Hdr) : List Ent := hs.flatMap Hdr.xs

theorem Hdr.all_take {hs : List Hdr} {k : Nat} (hk : k < hs.length) : Hdr.all (hs.take (k + 1)) = Hdr.all (hs.take k) ++ hs[k].xs := by
  unfold Hdr.all
  rw [List.take_succ_eq_append_getElem hk, List.flatMap_append]
  simp
theorem Hdr.all_len (hs : List Hdr) (k : Nat) : (Hdr.all (hs.take k)).length ≤ (Hdr.all hs).length := by
  have h : Hdr.all hs = Hdr.all (hs.take k) ++ Hdr.all (hs.drop k) := by
    conv => lhs; rw [← List.take_append_drop k hs]
    exact List.flatMap_append
  rw [h]
  simp

theorem Elems.hdr {w : World} {S : Nat → Prop} {A : Option Addr} {r : List Hdr} {k : Nat} (h : Elems 1 Hdr.cs w S A r) (hk : k < r.length) :
    ∃ b off, A = some ⟨b, off, none⟩ ∧ S b ∧ w.cell? ⟨b, off + k, none⟩ = some (.slice r[k].A r[k].xs.length r[k].c) := by
  obtain ⟨b, off, e, hb, hc⟩ := h.at_ hk
  exact ⟨b, off, e, hb, by simpa using hc 0 _ rfl⟩

set_option maxRecDepth 100000 in
set_option maxHeartbeats 1000000 in
theorem concat (A : Option Addr) (c : Nat) (hs : List Hdr) (w : World) (hx : Elems 1 Hdr.cs w (· < w.heap.size) A hs) (he : ∀ h ∈ hs, Elems 2 Ent.cs w (· < w.heap.size) h.A h.xs) (hl : hs.length ≤ 10) (ht : (Hdr.all hs).length ≤ 100000) :
    Calls Try.prog 23 #[.slice A hs.length c] w fun e w' => ∃ v, e = .returned v ∧ Own 2 Ent.cs 45 w.heap.size w' v (Hdr.all hs) ∧ Below w.heap.size w w' := by
  go_enter Try.func23, Try.ntmps23
  go_wp2_with fail
  go_loopw [3, 11] (fun n i wr => ∃ k : Nat, k ≤ hs.length ∧ i = .int .i64 k ∧ n = .int .i64 ((Hdr.all (hs.take k)).length : Int) ∧ w = wr) (fun _ i _ => hs.length - (intOf i).toNat)
  case atStart => exact ⟨0, by omega, rfl, rfl, rfl⟩
  case round =>
    obtain ⟨k, hk, rfl, rfl, rfl⟩ := hrel
    by_cases hlt : k < hs.length
    · obtain ⟨b, off, rfl, hbs, c0⟩ := hx.hdr hlt
      have hT := Hdr.all_take hlt
      have hL := Hdr.all_len hs (k + 1)
      rw [hT, List.length_append] at hL
      have HT := Lib.hid hT
      have hn1 : (Hdr.all (hs.take k)).length + hs[k].xs.length ≤ 100000 := by omega
      clear hT hL
      generalize hs[k] = x at *
      generalize Hdr.all (hs.take k) = d at *
      have HE := Lib.hid he
      clear he
      have hn0 : ¬ ((d.length : Int) + (x.xs.length : Int) < 0) := by omega
      go_wp2_with fail
      go_roundw
      case rel => exact ⟨k + 1, by omega, by go_num, val_int (by rw [HT.out, List.length_append, Int.natCast_add]), trivial⟩
      case measure => simp [intOf]; omega
    · have hkl : k = hs.length := by omega
      subst hkl
      rw [List.take_of_length_le (Nat.le_refl _)]
      go_wp2_with fail
      refine (grow_nil _ w ht).mono ?_
      rintro e w1 ⟨v1, rfl, ho1, hb1⟩
      have HE := Lib.hid he
      have HT := Lib.hid ht
      clear he ht
      go_wp2_with fail
      go_loopw [6, 27] (fun o i wr => ∃ k : Nat, k ≤ hs.length ∧ i = .int .i64 k ∧ Own 2 Ent.cs 45 w.heap.size wr o (Hdr.all (hs.take k)) ∧ Below w.heap.size w wr) (fun _ i _ => hs.length - (intOf i).toNat)
      case atStart => exact ⟨0, by omega, rfl, ho1, hb1⟩
      case round =>
        obtain ⟨k, hk, rfl, ho, hb⟩ := hrel
        by_cases hlt : k < hs.length
        · obtain ⟨b, off, rfl, hbs, c0⟩ := (hx.keep (Keeps.of_below hb fun _ h => h)).hdr hlt
          have hT := Hdr.all_take hlt
          have hL := Hdr.all_len hs (k + 1)
          rw [hT, List.length_append] at hL
          have hel := (HE.out _ (List.getElem_mem hlt)).keep (Keeps.of_below hb fun _ h => h)
          have h2 : (Hdr.all (hs.take k)).length + hs[k].xs.length ≤ 100000 := Nat.le_trans hL HT.out
          have H1 : Hid (((Hdr.all (hs.take k)).length + hs[k].xs.length) * 32 ≤ 140737488355328) := Lib.hid (by omega)
          have H2 : Hid ((Hdr.all (hs.take k)).length + hs[k].xs.length ≤ maxLen) := Lib.hid (by unfold maxLen; omega)
          have HQ := Lib.hid hT
          clear hT hL h2
          generalize hs[k] = x at *
          generalize Hdr.all (hs.take k) = d at *
          have HL := Lib.hid hel
          have HO := Lib.hid ho
          clear hel ho
          go_wp2_with (at_builtin; refine wpList_app rfl (.tmp 31) (.tmp 32) _ _ rfl rfl rfl (run_pushs elem_ents entLay _ _ _ d HO.out HL.out rfl H1.out H2.out hb.size) ?_; rintro v2 w2 ⟨ho2, hx2⟩)
          go_roundw
          case rel => exact ⟨k + 1, by omega, by go_num, by rw [HQ.out]; exact ho2, hb.trans (hx2.below hb.size (fun g hg => (HO.out.lt g hg).1))⟩
          case measure => simp [intOf]; omega
        · have hkl : k = hs.length := by omega
          subst hkl
          rw [List.take_of_length_le (Nat.le_refl _)] at ho
          go_wp2_with fail
          go_ret
          exact ⟨_, rfl, ho, hb⟩

end Go.Proofs.Ytlgjkhdpinnccaa
