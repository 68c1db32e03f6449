/-
  The walk of the law BTreeIterationIsSorted.
-/
import Derived.Test.YtlgjkhdpinnccaaBs1
import Derived.Test.YtlgjkhdpinnccaaTe2
import Derived.Test.YtlgjkhdpinnccaaRc
import Derived.Deep.QuietTactic
import Derived.BigQuiet
import Derived.Deep.RegionLaw
import Derived.StillTailTactics
namespace Go.Proofs.Ytlgjkhdpinnccaa
open Go.RowKit Go.Sort

theorem rl_int {x y : Int} (h : rl [⟨1, x, ByteArray.empty⟩] [⟨1, y, ByteArray.empty⟩]) : x < y := by
  unfold rl at h
  rw [cmpR_cons] at h
  have hv : cmpV ⟨1, x, ByteArray.empty⟩ ⟨1, y, ByteArray.empty⟩ = if cmpI 1 1 = 0 then (if cmpI x y = 0 then Lib.compareBytes ByteArray.empty.data.toList ByteArray.empty.data.toList else cmpI x y) else cmpI 1 1 := rfl
  have h11 : cmpI 1 1 = 0 := cmpI_zero.2 rfl
  rw [if_pos h11] at hv
  rcases Int.lt_trichotomy x y with h1 | h1 | h1
  · exact h1
  · subst h1
    rw [cmpV_refl] at h
    simp [cmpR_nil_left, cmpI] at h
  · have h2 : cmpI x y = 1 := by unfold cmpI; rw [if_neg (by omega), if_pos h1]
    rw [h2, if_neg (by omega)] at hv
    rw [hv] at h
    simp at h
theorem stats_entries (a b c x y : Int) (w : World) : (Instr.field 37 (stV a b c x y) 0).run Try.prog w = .ok (.int .i64 a) w := by kernel_rfl
theorem mem_insP {p q : PE} : ∀ {ps : List PE}, q ∈ insP p ps → q.1 = p.1 ∨ ∃ x ∈ ps, x.1 = q.1
  | [], h => by
    simp [insP] at h
    exact .inl (by rw [h])
  | x :: xs, h => by
    unfold insP at h
    split at h
    · rcases List.mem_cons.1 h with rfl | h
      · exact .inr ⟨_, List.mem_cons_self, rfl⟩
      · rcases mem_insP h with h | ⟨y, hy, h⟩
        · exact .inl h
        · exact .inr ⟨y, List.mem_cons_of_mem _ hy, h⟩
    · split at h
      · rcases List.mem_cons.1 h with rfl | h
        · exact .inr ⟨x, List.mem_cons_self, rfl⟩
        · exact .inr ⟨q, List.mem_cons_of_mem _ h, rfl⟩
      · rcases List.mem_cons.1 h with rfl | h
        · exact .inl rfl
        · exact .inr ⟨q, h, rfl⟩
theorem bld_keys (xs : List Int) : ∀ (i : Nat) (p : PE), p ∈ bld xs i → ∃ k : Int, p.1 = rowOf k
  | 0, _, h => by cases h
  | i + 1, p, h => by
    rcases mem_insP (show p ∈ insP _ _ from h) with h | ⟨x, hx, h⟩
    · exact ⟨_, h⟩
    · obtain ⟨k, hk⟩ := bld_keys xs i x hx
      exact ⟨k, by rw [← h, hk]⟩

set_option maxRecDepth 100000 in
set_option maxHeartbeats 4000000 in
theorem sorted_law (or : Int) (A : Option Addr) (c : Nat) (xs : List Int) (w : World) (hor : I64 or) (hx : Elems 1 intCs w (· < w.heap.size) A xs) (_hl : xs.length ≤ c) (_hcm : c ≤ maxLen) (hok : ∀ x ∈ xs, I64 x) (hsz : xs.length * 8 ≤ reachBytes) :
    Calls Try.prog 6 #[.int .i64 or, .slice A xs.length c] w fun e w' => e = .returned (.bool true) ∧ Below w.heap.size w w' := by
  unfold reachBytes at hsz
  have H1 : Hid ((([3] : List Int).length + xs.length) * 8 ≤ 140737488355328) := Lib.hid (by simp; omega)
  have H2 : Hid (([3] : List Int).length + xs.length ≤ maxLen) := Lib.hid (by unfold maxLen; simp; omega)
  have HX := Lib.hid (hx.keep (w' := w.alloc (.cells #[.int .i64 3] 3)) fun k hk => Below.heap_alloc _ _ _ hk)
  have HO := Lib.hid (one_own w 3)
  have hB : w.heap.size ≤ (w.alloc (.cells #[.int .i64 3] 3)).heap.size := by simp
  have HKK : Hid (∀ n ∈ [3] ++ xs, I64 n) := Lib.hid fun n hn => by
    rcases List.mem_append.1 hn with h | h
    · simp at h; subst h; unfold I64; omega
    · exact hok n h
  have HOR := Lib.hid hor
  clear hor hx hok hsz
  go_enter Try.func6, Try.ntmps6
  go_wp2_with (at_builtin; refine wpList_app rfl (.tmp 11) (.tmp 12) _ _ rfl rfl rfl (run_pushs elem_ints intLay _ (w.alloc (.cells #[.int .i64 3] 3)) _ [3] HO.out HX.out rfl H1.out H2.out hB) ?_; rintro v2 w2 ⟨ho2, hx2⟩; obtain ⟨A2, m2, c2, rfl, hm2⟩ := ho2.form')
  have hb2 : Below w.heap.size w w2 := ((Below.refl _ _).alloc (Nat.le_refl _) _).trans (hx2.below (base := w.heap.size) hB (fun g hg => Nat.le_of_eq (Option.some.inj hg)))
  have hcap : ([3] ++ xs).length ≤ c2 ∧ c2 ≤ maxLen := by
    obtain ⟨A3, c3, hv, h1, h2⟩ := ho2.form
    injection hv with _ _ h3
    rw [h3]
    exact ⟨h1, h2⟩
  have HT0 := treeOfW or A2 c2 ([3] ++ xs) w2 HOR.out ((ho2.elems intLay.len rfl).more fun k hk => (ho2.lt k hk).2) hcap.1 hcap.2 HKK.out
  rw [hm2] at HT0
  have HT := Lib.hid HT0
  have HB2 := Lib.hid hb2
  clear HT0 hcap hb2 ho2 hx2 hm2
  refine HT.out.mono ?_
  rintro e w3 ⟨m, o, tb, hO, -, rfl, hT3, hb3⟩
  have hlen := bld_len ([3] ++ xs) (min ([3] ++ xs).length 200)
  have hlen2 : (bld ([3] ++ xs) (min ([3] ++ xs).length 200)).length ≤ 200 := by omega
  have hpos := bld_pos ([3] ++ xs) (i := min ([3] ++ xs).length 200) (by simp; omega)
  have hkeys := bld_keys ([3] ++ xs) (min ([3] ++ xs).length 200)
  generalize bld ([3] ++ xs) (min ([3] ++ xs).length 200) = ps at *
  have HEN := Lib.hid (entriesW hO w3 hT3 (by omega))
  have HO3 := Lib.hid hO
  have HT3 := Lib.hid hT3
  have HB3 := Lib.hid (HB2.out.trans (hb3.mono HB2.out.size))
  have HKEY := Lib.hid hkeys
  have HORD := Lib.hid hT3.ord
  clear hO hT3 hb3 hlen HT hkeys
  go_wp2_with fail
  refine HEN.out.mono ?_
  rintro e w4 ⟨A4, n, c4, ob, es, rfl, hn, hcl, hcm, hcop, hob, hb4⟩
  have HST := Lib.hid (fun W (hW : Below w4.heap.size w4 W) => treeStatsW HO3.out W ((HT3.out.below hb4).below hW) (by omega))
  have HB4 := Lib.hid (HB3.out.trans (hb4.mono HB3.out.size))
  have HADJ : Hid (∀ i, 0 < i → i < n → ∃ (k1 k2 : Key) (x y : Int), x < y ∧ k1.row = [⟨1, x, ByteArray.empty⟩] ∧ k2.row = [⟨1, y, ByteArray.empty⟩] ∧ ∀ W, Below w4.heap.size w4 W → (∃ b off, A4 = some ⟨b, off, none⟩ ∧ W.cell? ⟨b, off + (i - 1) * 2, none⟩ = some (.slice k1.A 1 k1.c) ∧ W.cell? ⟨b, off + i * 2, none⟩ = some (.slice k2.A 1 k2.c)) ∧ Elems 3 Val.cs W (· < W.heap.size) k1.A k1.row ∧ Elems 3 Val.cs W (· < W.heap.size) k2.A k2.row) := Lib.hid fun i hi0 hin => by
    have hel : es.length = n := by
      have h := congrArg List.length hcop.eq
      rw [List.length_map] at h
      omega
    have hi1 : i - 1 < es.length := by omega
    have hi2 : i < es.length := by omega
    have hpr : ∀ k (hk : k < es.length), ∃ z : Int, es[k].key.row = [⟨1, z, ByteArray.empty⟩] := fun k hk => by
      have hmem : pr es[k] ∈ ps := by rw [← hcop.eq]; exact List.mem_map_of_mem (List.getElem_mem hk)
      obtain ⟨z, hz⟩ := HKEY.out _ hmem
      exact ⟨md z 1000, hz⟩
    obtain ⟨x, hx⟩ := hpr (i - 1) hi1
    obtain ⟨y, hy⟩ := hpr i hi2
    have hlt : rl es[i - 1].key.row es[i].key.row := by
      have h1 := HORD.out
      rw [← hcop.eq] at h1
      have h2 := List.pairwise_map.1 h1
      exact List.pairwise_iff_getElem.1 h2 (i - 1) i hi1 hi2 (by omega)
    rw [hx, hy] at hlt
    refine ⟨es[i - 1].key, es[i].key, x, y, rl_int hlt, hx, hy, fun W hW => ?_⟩
    have hcW := hcop.below hW
    obtain ⟨b, off, e1, -, q1, -⟩ := (hcW.own.elems entLay.len rfl).ent hi1
    obtain ⟨b', off', e2, -, q2, -⟩ := (hcW.own.elems entLay.len rfl).ent hi2
    rw [e1] at e2
    injection e2 with e2
    injection e2 with e3 e4
    subst e3 e4
    rw [hx] at q1
    rw [hy] at q2
    exact ⟨⟨b, off, e1, q1, q2⟩, (hcW.row _ (List.getElem_mem hi1)).el.more fun k hk => hk.2.1, (hcW.row _ (List.getElem_mem hi2)).el.more fun k hk => hk.2.1⟩
  unfold maxLen at hcm
  have hn200 : n ≤ 200 := by omega
  have hn0 : 0 < n := by omega
  have HNP := Lib.hid hn
  clear hcop hb4 HEN hn hpos hlen2
  go_wp2_with fail
  go_loopw [23] (fun vi wr => ∃ i : Nat, vi = .int .i64 (i : Int) ∧ i ≤ n ∧ Below w4.heap.size w4 wr) (fun vi _ => n - (intOf vi).toNat)
  case atStart => exact ⟨0, rfl, by omega, Below.refl _ _⟩
  case round =>
    obtain ⟨i, rfl, hin, hb⟩ := hrel
    have HB := Lib.hid hb
    clear hb
    by_cases hlt : i < n
    · have hli : (i : Int) < (n : Int) := by omega
      by_cases hi0 : i = 0
      · subst hi0
        go_wp2_with fail
        go_quiet (fail)
        go_wp2_with fail
        go_roundw
        case rel => exact ⟨1, by go_num, by omega, HB.out.trans (below_drewN (Below.refl _ _) _)⟩
        case measure => simp [intOf]; omega
      · obtain ⟨k1, k2, x, y, hxy, r1, r2, hAd⟩ := HADJ.out i (by omega) hlt
        obtain ⟨⟨b, off, rfl, q1, q2⟩, -, -⟩ := hAd wr HB.out
        obtain ⟨-, el1, el2⟩ := hAd wr.drew (HB.out.trans ((Below.refl _ _).drew.mono HB.out.size))
        rw [r1] at el1
        rw [r2] at el2
        have HCM := Lib.hid (refCmp k1.A k2.A k1.c k2.c x y hxy wr.drew _ _ el1 el2)
        have HBD : Hid (Below w4.heap.size w4 wr.drew) := Lib.hid (HB.out.trans ((Below.refl _ _).drew.mono HB.out.size))
        obtain ⟨i1, hi1⟩ : ∃ i1, i1 = i - 1 := ⟨_, rfl⟩
        rw [← hi1] at q1
        have hpos : (0 : Int) < (i : Int) := by omega
        have hge : (0 : Int) ≤ (i : Int) := by omega
        have hsub : (i : Int) - 1 = (i1 : Int) := by omega
        have hl1 : (i1 : Int) < (n : Int) := by omega
        have hg1 : (0 : Int) ≤ (i1 : Int) := by omega
        have hw1 : IntKind.i64.wrap (i1 : Int) = (i1 : Int) := by rw [IntKind.wrap_i64]; omega
        have hdec : decide ((0 : Int) < (i : Int)) = true := by rw [decide_eq_true_iff]; exact hpos
        have hdec2 : decide (0 < i) = true := by rw [decide_eq_true_iff]; omega
        have hbn : 0 < i := by omega
        clear hAd el1 el2 hi1
        go_wp2_with fail
        go_still_tail 14, (by kernel_rfl)
        change wpList _ _ _ _ _ wr.drew
        go_wp2_with fail
        refine HCM.out.mono ?_
        rintro e w5 ⟨rfl, hb5⟩
        have HB5 := Lib.hid (HBD.out.trans (hb5.mono HBD.out.size))
        clear hb5
        go_wp2_with fail
        go_roundw
        case rel => exact ⟨i + 1, by go_num, by omega, HB5.out⟩
        case measure => simp [intOf]; omega
    · have hie : i = n := by omega
      subst hie
      have hn1 : (0 : Int) < (i : Int) := by omega
      have HS2 := Lib.hid (HST.out wr HB.out)
      have hps : (i : Int) = (ps.length : Int) := by have := HNP.out; omega
      have HBF := Lib.hid (HB4.out.trans (HB.out.mono HB4.out.size))
      clear HADJ
      generalize ps.length = pl at *
      have hpi : pl = i := by omega
      subst hpi
      clear hps
      go_wp2_with fail
      refine HS2.out.mono ?_
      rintro e w5 ⟨d, x, y, rfl, -, hb5⟩
      have HB5 := Lib.hid (HBF.out.trans (hb5.mono HBF.out.size))
      have hfd := stats_entries
      clear hb5 HS2
      go_wp2_with fail
      go_ret
      exact ⟨by simp, HB5.out⟩
end Go.Proofs.Ytlgjkhdpinnccaa
