/-
  The walk of the law SlottedPageUpdateKeepsOthers.
-/
import Derived.Test.YtalgocjhcgmdlaaPl2
namespace Go.Proofs.Ytalgocjhcgmdlaa
open Go.RowKit

set_option maxRecDepth 100000 in
set_option maxHeartbeats 2000000 in
theorem update_law (A : Option Addr) (c : Nat) (xs : List Int) (i f : Int) (w : World) (hx : Elems 1 intCs w (· < w.heap.size) A xs) (_hlc : xs.length ≤ c) (_hc : c ≤ maxLen) (hok : ∀ n ∈ xs, I64 n) (hsz : xs.length * 8 ≤ reachBytes) (hi : -9223372036854775808 ≤ i ∧ i ≤ 9223372036854775807) (hf : 0 ≤ f ∧ f ≤ 255) :
    Calls Try.prog 6 #[.slice A xs.length c, .int .i64 i, .int .u8 f] w fun e w' => e = .returned (.bool true) ∧ Below w.heap.size w w' := by
  unfold reachBytes at hsz
  have H1 : Hid ((([5] : List Int).length + xs.length) * 8 ≤ 140737488355328) := Lib.hid (by simp; omega)
  have H2 : Hid (([5] : List Int).length + xs.length ≤ maxLen) := Lib.hid (by unfold maxLen; simp; omega)
  have HX := Lib.hid (hx.keep (w' := w.alloc (.cells #[.int .i64 5] 3)) fun k hk => Below.heap_alloc _ _ _ hk)
  have HO := Lib.hid (five_own w)
  have hB : w.heap.size ≤ (w.alloc (.cells #[.int .i64 5] 3)).heap.size := by simp
  have HI := Lib.hid hi
  have HK5 : Hid (∀ n ∈ [5] ++ xs, I64 n) := Lib.hid fun n hn => by
    rcases List.mem_append.1 hn with h | h
    · simp at h; subst h; unfold I64; omega
    · exact hok n h
  have HN : Hid (xs.length = xs.length) := Lib.hid rfl
  clear hx hok hsz hi
  go_enter Try.func6, Try.ntmps6
  go_wp2_with (at_builtin; refine wpList_app rfl (.tmp 15) (.tmp 16) _ _ rfl rfl rfl (run_pushs elem_ints intLay _ (w.alloc (.cells #[.int .i64 5] 3)) _ [5] HO.out HX.out HN.out H1.out H2.out hB) ?_; rintro v2 w2 ⟨ho2, hx2⟩; obtain ⟨A2, m2, c2, rfl, hm2⟩ := ho2.form')
  have hb2 : Below w.heap.size w w2 := ((Below.refl _ _).alloc (Nat.le_refl _) _).trans (hx2.below (base := w.heap.size) hB (fun g hg => Nat.le_of_eq (Option.some.inj hg)))
  have hcap2 : ([5] ++ xs).length ≤ c2 ∧ c2 ≤ maxLen := by
    obtain ⟨A3, c3, hv, h1, h2⟩ := ho2.form
    injection hv with _ _ h3
    rw [h3]
    exact ⟨h1, h2⟩
  have HF0 := filledPage A2 c2 ([5] ++ xs) w2 ((ho2.elems intLay.len rfl).more fun k hk => (ho2.lt k hk).2) hcap2.1 hcap2.2 HK5.out
  have hmin : 0 < min ([5] ++ xs).length 60 ∧ min ([5] ++ xs).length 60 ≤ 60 := by simp; omega
  rw [hm2] at HF0 hmin
  have HF := Lib.hid HF0
  have HB2 := Lib.hid hb2
  clear HF0 hcap2 hb2 ho2 hx2 hm2
  generalize min m2 60 = kk at *
  refine HF.out.mono ?_
  rintro e w3 ⟨p, g, c3, b, rfl, hfi⟩
  have hpos := hfi.pos hmin.1
  have hnn := hfi.wf.n_le
  have huf := us_full hfi.full
  have hln := hfi.mp.len
  rw [huf] at hln
  have hfull := hfi.full
  have hfp : FP w w3 b p g c3 := ⟨hfi.pg.mono HB2.out.size, hfi.wf, hfi.mp.mono hmin.2, HB2.out.trans (hfi.below.mono HB2.out.size), Nat.le_trans HB2.out.size hfi.hb⟩
  have HFP := Lib.hid hfp
  have HFU := Lib.hid hfull
  obtain ⟨n, hn⟩ : ∃ n, n = B p 0 := ⟨_, rfl⟩
  rw [← hn] at hpos hnn hln
  have HNB := Lib.hid hn
  have y1 : ((n : Int) == 0) = false := by rw [beq_eq_false_iff_ne]; omega
  have HMD := Lib.hid fun W => mod_any i n W HI.out (by omega) (by omega)
  clear hfi huf hfull hfp hn hmin HF HB2
  go_wp2_with fail
  refine (HMD.out w3).mono ?_
  rintro e w4 ⟨m, rfl, hm, rfl⟩
  have hmn : m < B p 0 := by rw [← HNB.out]; omega
  have hcm := cont_some hmn (HFU.out m hmn)
  have HC := Lib.hid hcm
  have hlk := HFP.out.mp.look m (by omega)
  rw [hcm] at hlk
  have hlk2 : (Instr.lookup 24 (.map (some b)) (.int .i64 m) false).run Try.prog w3 = .ok (.string (bs (rc p m))) w3 := hlk
  have hcl := cont_len HFP.out.wf hcm
  have hbz := bs_size (rc p m)
  obtain ⟨l, hl⟩ : ∃ l, l = (rc p m).length := ⟨_, rfl⟩
  rw [← hl] at hcl hbz
  have hbz2 : (((bs (rc p m)).size : Nat) : Int) = (l : Int) := by rw [hbz]
  have HL := Lib.hid hl
  obtain ⟨Z, hmk, hmo⟩ := make_bytes l (by omega)
  have HMO := Lib.hid (hmo w3 w3.heap.size (Nat.le_refl _))
  have HMN := Lib.hid hmn
  obtain ⟨fn, hfn⟩ := Int.eq_ofNat_of_zero_le hf.1
  have hfn2 : fn < 256 := by omega
  subst hfn
  have hm6 : m ≤ 1000000 := by omega
  clear hcm hmn hln HMD hlk hl hmo hbz hf
  generalize bs (rc p m) = str at *
  obtain ⟨wo, rfl⟩ : ∃ wo, wo = w3 := ⟨_, rfl⟩
  go_wp2_with fail
  go_loopw [40] (fun t wi => ∃ (k2 : Nat) (r : List Nat), k2 ≤ l ∧ t = .int .i64 k2 ∧ r.length = l ∧ (∀ t, r.getD t 0 < 256) ∧ Rw wo.heap.size wi wo.heap.size l r ∧ Below wo.heap.size wo wi) (fun t _ => l - (intOf t).toNat)
  case atStart => exact ⟨0, List.replicate l 0, by omega, rfl, by simp, byte_rep l, ⟨by rw [List.length_replicate]; exact HMO.out⟩, (Below.refl _ _).alloc (Nat.le_refl _) _⟩
  case round =>
    obtain ⟨k2, r, hk2, rfl, hrl, hrb, hrw, hbw⟩ := hrel
    clear HMO hlk2
    by_cases hlt2 : k2 < l
    · have hat := hrw.at_ (k := k2) (by omega)
      obtain ⟨q1, q2⟩ := hat
      have HRW := Lib.hid (hrw.set k2 fn)
      have HBW := Lib.hid (hbw.setCell (p := ⟨wo.heap.size, k2, none⟩) (Nat.le_refl _) (.int .u8 (fn : Int)))
      have HBS := Lib.hid (byte_set (k := k2) hrl hrb hfn2)
      have hko : (k2 : Int) < (l : Int) := by omega
      clear hrl hrb hrw hbw
      generalize B r k2 = bb at *
      go_wp2_with fail
      go_roundw
      case rel => exact ⟨k2 + 1, r.set k2 fn, by omega, by go_num, HBS.out.1, HBS.out.2, HRW.out, HBW.out⟩
      case measure => simp [intOf]; omega
    · have hkl : k2 = l := by omega
      subst hkl
      have hfw := HFP.out.keep hbw
      have hrlen : r.length = (rc p m).length := by rw [hrl, HL.out]
      have HU0 := updatePage wr hfw.pg hfw.wf hrw.toRec hrb m HC.out hrlen
      rw [hrl] at HU0
      have HUP := Lib.hid HU0
      have hls : r.length = sl p m := by rw [hrlen, rc_len]
      have hfit := upd_fit HFP.out.wf HMN.out hls
      have hrs := rem_spec HFP.out.wf HMN.out
      have hfree : m < B (rem p m) 0 → so (rem p m) m = 0 := fun _ => hrs.2.2.2.1
      have hcp := fun j => cont_place (p := rem p m) (r := r) (i := m) hrs.1 hfree (by omega) (by omega) hrb hfit j
      have hps := place_spec (p := rem p m) (r := r) (i := m) hrs.1 hfree (by omega) (by omega) hrb hfit
      have HCC : Hid (∀ j, cont (place (rem p m) m r) j = if j = m then some r else cont p j) := Lib.hid fun j => by
        rw [hcp j]
        by_cases e : j = m
        · rw [if_pos e, if_pos e]
        · rw [if_neg e, if_neg e, cont_rem HFP.out.wf HMN.out j, if_neg e]
      have HWP := Lib.hid hps.1
      have HFW := Lib.hid hfw
      have HRB := Lib.hid hrb
      have HRL := Lib.hid hrl
      have HRW := Lib.hid hrw
      clear hfw hrlen HU0 hls hfit hrs hfree hcp hps hrb hrl hrw hbw
      go_wp2_with fail
      refine HUP.out.mono ?_
      rintro e w5 ⟨hb5, g5, c5, rfl, hp5⟩
      have hf5 := HFW.out.keep hb5
      have hcv := conv_rec (w := w5) k2 (HRW.out.elems.keep (w' := w5) (Keeps.of_below hb5 fun j (hj : j = wo.heap.size) => by have := HRW.out.lt.2; omega)) HRB.out
      rw [HRL.out] at hcv
      have hr1000 := HRL.out
      obtain ⟨w6, hupd, hmp6, hg6⟩ := Mp.put (w := w5) (p' := place (rem p m) m r) hf5.mp m hm6 r (by omega) (by omega) HCC.out
      have hfp6 : Hid (Pg w.heap.size w6 g5 c5 (place (rem p m) m r) ∧ Below w.heap.size w w6) := Lib.hid
        ⟨(hp5.mono HFW.out.below.size).grown hg6 ((hp5.mono HFW.out.below.size).neMp hf5.mp), hf5.below.trans (below_of_grown hg6 hf5.below.size (fun j hj => by injection hj with hj; rw [← hj]; exact hf5.hb))⟩
      have HRD := Lib.hid (readsPage w6 hfp6.out.1 HWP.out hmp6)
      clear hf5 hb5 hp5 hmp6 hg6 hr1000 HUP
      generalize bs r = str2 at *
      go_wp2_with fail
      refine HRD.out.mono ?_
      rintro e w7 ⟨rfl, hb7⟩
      have HB7 := Lib.hid (hfp6.out.2.trans (hb7.mono hfp6.out.2.size))
      clear hb7
      go_wp2_with fail
      go_ret
      exact ⟨rfl, HB7.out⟩

end Go.Proofs.Ytalgocjhcgmdlaa
