/-
  The walk of merge, at the nodes.
-/
import Derived.Test.YtjdcnkbkbcfhfaaHm11
namespace Go.Proofs.Ytjdcnkbkbcfhfaa
open Go.RowKit Go.Sort

/-- The left node's keys, one more at an inner node. -/
def inKs (lf : Bool) (kb : List Key) (zk : Key) : List Key := if lf then kb else kb ++ [zk]
/-- What merge leaves. -/
def MrgNode (w : World) (M : Nodes) (O : Own') (i a b : Nat) (ks : List Key) (cs : List Nat) (n' : NC) (e : Ending) (w' : World) : Prop :=
  e = .returned (.tuple #[]) ∧ ∃ O', St w O w' (upd (upd M b (some n')) a (some ⟨[], ks.take i ++ ks.drop (i + 1), cs.take (i + 1) ++ cs.drop (i + 2)⟩)) O'

set_option maxRecDepth 100000 in
set_option maxHeartbeats 4000000 in
theorem mergeN {i a b c : Nat} {ks : List Key} {cs : List Nat} {eb ec : List Ent} {kb kc : List Key} {cb cc : List Nat} (w : World) (M : Nodes) (O : Own') (hs : Store w M O) (ha : M a = some ⟨[], ks, cs⟩) (hb : cs[i]? = some b) (hc : cs[i + 1]? = some c)
    (hmb : M b = some ⟨eb, kb, cb⟩) (hmc : M c = some ⟨ec, kc, cc⟩) (hab : b ≠ a) (hbc : c ≠ b) (_hac : c ≠ a) (lf : Bool) (hlf : (cb.length == 0) = lf) (zk : Key) (hzk : KOk (fun k => O k = .row) w zk)
    (hmk : lf = false → ∀ W, Below w.heap.size w W → Calls Try.prog 98 #[ptr c] W fun e w' => e = .returned (.slice zk.A zk.row.length zk.c) ∧ W = w')
    (hl : eb.length + ec.length ≤ 200) (hlk : kb.length + kc.length + 1 ≤ 200) (hlc : cb.length + cc.length ≤ 200) (hks : ks.length + 1 = cs.length) (hcl : cs.length ≤ 100) :
    Calls Try.prog 87 #[ptr a, .int .i64 i] w (MrgNode w M O i a b ks cs ⟨eb ++ ec, inKs lf kb zk ++ kc, cb ++ cc⟩) := by
  obtain ⟨V, hV⟩ := hs.at_ a _ ha
  obtain ⟨g2, k2, e2, q2, qi, -, hcl2, hcm2⟩ := hV.child hb
  obtain ⟨g2', k2', e2', q2', qi1, -, -, -⟩ := hV.child hc
  rw [e2] at e2'
  injection e2' with h1 _ h2
  injection h1 with h1
  injection h1 with h1
  subst h1 h2
  simp only at q2 hcl2
  clear q2' e2
  have hi1 := (List.getElem?_eq_some_iff.1 hc).1
  have HLF := Lib.hid (fun k => by
    obtain ⟨Vb, hVb⟩ := hs.at_ b _ hmb
    obtain ⟨A0, c0, A1, c1, A2, c2, e0, e1, e2, h0, h1, h2, -⟩ := hVb.cells
    have := leafW b (w.drewN k) A2 _ c2 h2
    simp only [hlf] at this
    exact this : ∀ k, Calls Try.prog 37 #[ptr b] (w.drewN k) fun e w' => e = .returned (.bool lf) ∧ w.drewN k = w')
  have HST := Lib.hid hs
  have HA := Lib.hid ha
  have HMB := Lib.hid hmb
  have HMC := Lib.hid hmc
  have HZK := Lib.hid hzk
  have HMK := Lib.hid hmk
  have HKS := Lib.hid hks
  have hin : (i : Int) < (cs.length : Int) := by omega
  have hin1 : (i : Int) + 1 < (cs.length : Int) := by omega
  have hi100 : i ≤ 100 := by omega
  obtain ⟨i1, hi1e⟩ : ∃ i1, i1 = i + 1 := ⟨_, rfl⟩
  have hw1 : IntKind.i64.wrap ((i : Int) + 1) = (i1 : Int) := by rw [IntKind.wrap_i64]; omega
  have hw2 : (i : Int) + 1 = (i1 : Int) := by omega
  have hin2 : (i1 : Int) < (cs.length : Int) := by omega
  have hi0 : (0 : Int) ≤ (i : Int) := by omega
  have hi01 : (0 : Int) ≤ (i1 : Int) := by omega
  rw [← hi1e] at qi1
  have HI1 := Lib.hid hi1e
  clear hs ha hmb hmc hzk hmk hlf hV hb hc hks hi1e
  go_enter Try.func87, Try.ntmps87
  go_wp2_with fail
  go_quiet (fail)
  go_wp2_with fail
  refine (HLF.out _).mono ?_
  rintro e w' ⟨rfl, rfl⟩
  go_upto_if 23 with fail
  have hS1 : Hid (St w O (w.drewN nq) M O) := Lib.hid ((St.refl HST.out).drewN _)
  have hB1 : Below w.heap.size w (w.drewN nq) := below_drewN (Below.refl _ _) _
  have HMK1 : Hid (lf = false → ∀ W, Below (w.drewN nq).heap.size (w.drewN nq) W → Calls Try.prog 98 #[ptr c] W fun e w' => e = .returned (.slice zk.A zk.row.length zk.c) ∧ W = w') := Lib.hid fun h W hW => HMK.out h W (hB1.trans hW)
  clear HLF HMK q2 qi qi1 hB1
  generalize w.drewN nq = w1 at *
  go_cut [] from 24 to 34 (fun wx => ∃ O2, St w O wx (upd M b (some ⟨eb, inKs lf kb zk, cb⟩)) O2)
  case first =>
    cases lf with
    | true =>
      have HE : Hid (∃ O2, St w O w1 (upd M b (some ⟨eb, inKs true kb zk, cb⟩)) O2) := Lib.hid ⟨O, by
        rw [show inKs true kb zk = kb from rfl, upd_self HMB.out]
        exact hS1.out⟩
      go_wp2_with fail
      go_meet
      exact HE.out
    | false =>
      obtain ⟨Vb, hVb⟩ := hS1.out.store.at_ b _ HMB.out
      obtain ⟨A0, c0, A1, c1, A2, c2, e0, e1, e2, h0, h1, h2, -, o0, o1, o2⟩ := hVb.cells
      simp only at h1 o1
      have HAP : Hid (∀ ty, ∃ v' w', (Builtin.append_ #[31, 31] ty #[.slice A1 kb.length c1, .slice (some ⟨w1.heap.size, 0, none⟩) 1 1]).run Try.prog (w1.drew.alloc (.cells #[.slice zk.A zk.row.length zk.c] 35)) = .ok v' w'
          ∧ Grown w O M b 1 ⟨eb, kb ++ [zk], cb⟩ (.slice A1 kb.length c1) v' w') := Lib.hid fun ty => by
        obtain ⟨v', w', hr, ho, hx⟩ := run_push (P := Try.prog) elem_keys keyLay ty w1.drew (.slice A1 kb.length c1) kb zk #[.slice zk.A zk.row.length zk.c] o1.drew rfl (by omega) (by unfold maxLen; omega) (Nat.zero_le _) rfl
        exact ⟨v', w', hr, hS1.out.grow1 (n' := ⟨eb, kb ++ [zk], cb⟩) HMB.out hVb (i := 1) (by omega) (Below.refl _ _).drew e1 hx ho same1 hVb.rowe fun k hk => by
          rcases List.mem_append.1 hk with h | h
          · exact hVb.rowk k h
          · rw [List.mem_singleton.1 h]; exact hS1.out.kok HST.out HZK.out⟩
      have hbl := (Array.getElem?_eq_some_iff.1 hVb.blk).1
      have h1a : (w1.alloc (.cells #[.slice zk.A zk.row.length zk.c] 35)).cell? ⟨b, 1, none⟩ = some (.slice A1 kb.length c1) := (((Below.refl w1.heap.size w1).alloc (Nat.le_refl _) _).cell (p := ⟨b, 1, none⟩) hbl).trans h1
      clear hVb o0 o1 o2 e0 e1 e2 h0 h2
      go_upto_region 2 with fail
      go_region_law (first
        | (go_simp; go_at_call 98; refine (HMK1.out rfl _ (Below.refl _ _).drew).mono ?_; rintro e w' ⟨rfl, rfl⟩)
        | (refine step_app (by rfl) (.tmp 28) (.tmp 31) _ _ (by rfl) (by rfl) (by rfl) (HAP.out _) ?_; rintro _ w3 ⟨⟨A3, n3, c3, rfl⟩, f1, f2, F3⟩))
      all_goals
        go_wp2_with fail
        go_meet
        exact F3.out
  case rest =>
    obtain ⟨O2, hS2⟩ := hcut
    obtain ⟨wo, rfl⟩ : ∃ wo, wo = wc := ⟨_, rfl⟩
    obtain ⟨M2, hM2⟩ : ∃ M2, M2 = upd M b (some ⟨eb, inKs lf kb zk, cb⟩) := ⟨_, rfl⟩
    obtain ⟨k1, hk1⟩ : ∃ k1, k1 = inKs lf kb zk := ⟨_, rfl⟩
    have hk1l : k1.length ≤ kb.length + 1 := by
      rw [hk1, inKs]; split
      · omega
      · simp
    rw [← hM2] at hS2
    rw [← hk1] at hM2
    have HK1 := Lib.hid hk1
    have HM2 := Lib.hid hM2
    have HB2 : Hid (M2 b = some ⟨eb, k1, cb⟩) := Lib.hid (by rw [hM2]; exact upd_same _ _ _)
    have HC2 : Hid (M2 c = some ⟨ec, kc, cc⟩) := Lib.hid (by rw [hM2, upd_ne hbc]; exact HMC.out)
    have HA2 : Hid (M2 a = some ⟨[], ks, cs⟩) := Lib.hid (by rw [hM2, upd_ne fun e => hab e.symm]; exact HA.out)
    have HS2 := Lib.hid hS2
    clear hM2 hk1 hS1 HMK1 hS2
    go_upto_region 3 with fail
    go_cut [] from 35 to 46 (fun wx => ∃ O3, St w O wx (upd M2 b (some ⟨eb ++ ec, k1, cb⟩)) O3)
    case first =>
      obtain ⟨Vb, hVb⟩ := HS2.out.store.at_ b _ HB2.out
      obtain ⟨A0, c0, A1, c1, A2, c2, e0, e1, e2, h0, h1, h2, -, o0, o1, o2⟩ := hVb.cells
      obtain ⟨Vc, hVc⟩ := HS2.out.store.at_ c _ HC2.out
      obtain ⟨B0, d0, B1, d1, B2, d2, -, -, -, r0, r1, r2, -, q0, q1, q2⟩ := hVc.cells
      simp only at h0 o0 r0 q0
      have HAP : Hid (∀ ty, ∃ v' w', (Builtin.append_ #[78, 78] ty #[.slice A0 eb.length c0, .slice B0 ec.length d0]).run Try.prog wo.drew = .ok v' w'
          ∧ Grown w O M2 b 0 ⟨eb ++ ec, k1, cb⟩ (.slice A0 eb.length c0) v' w') := Lib.hid fun ty => by
        obtain ⟨v', w', hr, ho, hx⟩ := run_pushs (P := Try.prog) elem_ents entLay ty wo.drew (.slice A0 eb.length c0) eb (c := d0) o0.drew (q0.drew.elems entLay.len rfl) rfl (by omega) (by unfold maxLen; omega) (Nat.zero_le _)
        exact ⟨v', w', hr, HS2.out.grow1 (n' := ⟨eb ++ ec, k1, cb⟩) HB2.out hVb (i := 0) (by omega) (Below.refl _ _).drew e0 hx ho same0 (fun k hk => by
          rcases List.mem_append.1 hk with h | h
          · exact hVb.rowe k h
          · exact hVc.rowe k h) hVb.rowk⟩
      clear hVb o0 o1 o2 e0 e1 e2 h1 h2 hVc r1 r2 q0 q1 q2
      go_region_law (first
        | (refine step_app (by rfl) (.tmp 39) (.tmp 43) _ _ (by rfl) (by rfl) (by rfl) (HAP.out _) ?_; rintro _ w3 ⟨⟨A3, n3, c3, rfl⟩, f1, f2, F3⟩))
      all_goals
        go_wp2_with fail
        go_meet
        exact F3.out
    case rest =>
      obtain ⟨O3, hS3⟩ := hcut
      obtain ⟨wp, rfl⟩ : ∃ wp, wp = wc := ⟨_, rfl⟩
      obtain ⟨M3, hM3⟩ : ∃ M3, M3 = upd M2 b (some ⟨eb ++ ec, k1, cb⟩) := ⟨_, rfl⟩
      rw [← hM3] at hS3
      have HM3 := Lib.hid hM3
      have HB3 : Hid (M3 b = some ⟨eb ++ ec, k1, cb⟩) := Lib.hid (by rw [hM3]; exact upd_same _ _ _)
      have HC3 : Hid (M3 c = some ⟨ec, kc, cc⟩) := Lib.hid (by rw [hM3, upd_ne hbc]; exact HC2.out)
      have HA3 : Hid (M3 a = some ⟨[], ks, cs⟩) := Lib.hid (by rw [hM3, upd_ne fun e => hab e.symm]; exact HA2.out)
      have HS3 := Lib.hid hS3
      clear hM3 hS3 HS2
      go_upto_region 4 with fail
      go_cut [] from 47 to 70 (fun wx => ∃ O4, St w O wx (upd M3 b (some ⟨eb ++ ec, k1 ++ kc, cb ++ cc⟩)) O4)
      case first =>
        obtain ⟨Vb, hVb⟩ := HS3.out.store.at_ b _ HB3.out
        obtain ⟨A0, c0, A1, c1, A2, c2, e0, e1, e2, h0, h1, h2, -, o0, o1, o2⟩ := hVb.cells
        obtain ⟨Vc, hVc⟩ := HS3.out.store.at_ c _ HC3.out
        obtain ⟨B0, d0, B1, d1, B2, d2, s0, s1, s2, r0, r1, r2, -, q0, q1, q2⟩ := hVc.cells
        simp only at h1 o1 r1 q1 h2 o2 r2 q2
        have HAP := Lib.hid (HS3.out.app2 HB3.out hVb hVc e1 e2 s1 s2 (by omega) (by omega))
        clear hVb o0 o1 o2 e0 e1 e2 h0 hVc r0 q0 q1 q2 s0 s1 s2
        go_region_law (first
          | (refine step_app (by rfl) (.tmp 52) (.tmp 56) _ _ (by rfl) (by rfl) (by rfl) (HAP.out _) ?_; rintro _ w4 ⟨⟨A4, n4, c4, rfl⟩, f1, f2, HAQ⟩)
          | (refine step_app (by rfl) (.tmp 61) (.tmp 65) _ _ (by rfl) (by rfl) (by rfl) (HAQ.out _) ?_; rintro _ w5 ⟨⟨A5, n5, c5, rfl⟩, t1, t2, t3, t4, F5⟩))
        all_goals
          go_wp2_with fail
          go_meet
          exact F5.out
      case rest =>
        obtain ⟨O4, hS4⟩ := hcut
        obtain ⟨wq, rfl⟩ : ∃ wq, wq = wc := ⟨_, rfl⟩
        obtain ⟨M4, hM4⟩ : ∃ M4, M4 = upd M3 b (some ⟨eb ++ ec, k1 ++ kc, cb ++ cc⟩) := ⟨_, rfl⟩
        rw [← hM4] at hS4
        have HM4 := Lib.hid hM4
        have HA4 : Hid (M4 a = some ⟨[], ks, cs⟩) := Lib.hid (by rw [hM4, upd_ne fun e => hab e.symm]; exact HA3.out)
        have HS4 := Lib.hid hS4
        have hw3 : IntKind.i64.wrap ((i : Int) + 2) = (i1 : Int) + 1 := by rw [IntKind.wrap_i64]; omega
        have hw4 : (i : Int) + 2 = (i1 : Int) + 1 := by omega
        clear hM4 hS4 HS3
        go_upto_region 5 with fail
        go_cut [] from 71 to 82 (fun wx => ∃ O5, St w O wx (upd M4 a (some ⟨[], ks, cs.take i1 ++ cs.drop (i1 + 1)⟩)) O5)
        case first =>
          obtain ⟨Va, hVa⟩ := HS4.out.store.at_ a _ HA4.out
          obtain ⟨A0, c0, A1, c1, A2, c2, e0, e1, e2, h0, h1, h2, -, o0, o1, o2⟩ := hVa.cells
          simp only at h2 o2
          have HD := Lib.hid ((delNid A2 c2 cs i1 wq o2 (by omega) (by omega)).mono (fun e w' ⟨v', he, ho, hx⟩ => ⟨v', he, HS4.out.grow1 (n' := ⟨[], ks, cs.take i1 ++ cs.drop (i1 + 1)⟩) HA4.out hVa (i := 2) (by omega) (Below.refl _ _) e2 hx ho same2 hVa.rowe hVa.rowk⟩ : ∀ e w', _ → ∃ v', e = .returned v' ∧ Grown w O M4 a 2 ⟨[], ks, cs.take i1 ++ cs.drop (i1 + 1)⟩ (.slice A2 cs.length c2) v' w'))
          clear hVa o0 o1 o2 e0 e1 e2 h0 h1
          go_wp2_with fail
          refine HD.out.mono ?_
          rintro e w2 ⟨_, rfl, ⟨A4, n4, c4, rfl⟩, f1, f2, F3⟩
          go_wp2_with fail
          go_meet
          exact F3.out
        case rest =>
          obtain ⟨O5, hS5⟩ := hcut
          obtain ⟨ws, rfl⟩ : ∃ ws, ws = wc := ⟨_, rfl⟩
          obtain ⟨M5, hM5⟩ : ∃ M5, M5 = upd M4 a (some ⟨[], ks, cs.take i1 ++ cs.drop (i1 + 1)⟩) := ⟨_, rfl⟩
          rw [← hM5] at hS5
          have HM5 := Lib.hid hM5
          have HA5 : Hid (M5 a = some ⟨[], ks, cs.take i1 ++ cs.drop (i1 + 1)⟩) := Lib.hid (by rw [hM5]; exact upd_same _ _ _)
          have HS5 := Lib.hid hS5
          clear hM5 hS5 HS4
          obtain ⟨Va, hVa⟩ := HS5.out.store.at_ a _ HA5.out
          obtain ⟨A0, c0, A1, c1, A2, c2, e0, e1, e2, h0, h1, h2, -, o0, o1, o2⟩ := hVa.cells
          simp only at h1 o1
          have hdk := delKey A1 c1 ks i ws o1 (by have := HKS.out; omega) (by have := HKS.out; omega)
          rw [hw2] at hdk
          have HD := Lib.hid (hdk.mono (fun e w' ⟨v', he, ho, hx⟩ => ⟨v', he, HS5.out.grow1 (n' := ⟨[], ks.take i ++ ks.drop (i + 1), cs.take i1 ++ cs.drop (i1 + 1)⟩) HA5.out hVa (i := 1) (by omega) (Below.refl _ _) e1 hx ho same1 hVa.rowe fun k hk => by
            rcases List.mem_append.1 hk with h | h
            · exact hVa.rowk k (List.mem_of_mem_take h)
            · exact hVa.rowk k (List.mem_of_mem_drop h)⟩ : ∀ e w', _ → ∃ v', e = .returned v' ∧ Grown w O M5 a 1 ⟨[], ks.take i ++ ks.drop (i + 1), cs.take i1 ++ cs.drop (i1 + 1)⟩ (.slice A1 ks.length c1) v' w'))
          clear hVa o0 o1 o2 e0 e1 e2 h0 h2 hdk
          go_wp2_with fail
          refine HD.out.mono ?_
          rintro e w2 ⟨_, rfl, ⟨A4, n4, c4, rfl⟩, f1, f2, F3⟩
          go_wp2_with fail
          go_end0
          obtain ⟨O6, hS6⟩ := F3.out
          refine ⟨rfl, O6, ?_⟩
          rw [HM5.out, HM4.out, HM3.out, HM2.out, upd_upd, upd_upd, upd_upd, HK1.out, HI1.out] at hS6
          exact hS6
end Go.Proofs.Ytjdcnkbkbcfhfaa
