/-
  The walk of the reference's ApplyChanges, where every change fits and finds its row.
  Changes at the base schema's tables, as data; an instance of its rows in memory; ApplyChanges at them.
  Foreign keys and check constraints of the base schema, as data.
-/
import Derived.Test.YtefifkleamiabaaGreatDoorUm14
namespace Go.Proofs.YtefifkleamiabaaGreatDoor
open Go.RowKit Go.Sort

/-- The instance's block, with rows. -/
def IsB (g : Nat) (v0 v1 : Value) (W : World) : Prop := W.heap[g]? = some (.cells #[.string nItem, v0, .string nOrder, v1] 78 (0, 0))
/-- Rows laid by SortRows: the rows of R, sorted. -/
def SrtAt (R : List Row) (S : Nat → Prop) (W : World) (v : Value) : Prop := ∃ A c ks, v = .slice A ks.length c ∧ (ks.map Key.row).Perm R ∧ SrtR [0] (ks.map Key.row) ∧ RsOk S W A ks
theorem SrtAt.but {R : List Row} {g : Nat} {W W' : World} {v : Value} (h : SrtAt R (But g W) W v) (hg : W.grownBy W' (some g)) : SrtAt R (But g W') W' v := by
  obtain ⟨A, c, ks, h1, h2, h3, h4⟩ := h
  exact ⟨A, c, ks, h1, h2, h3, h4.but hg⟩
/-- SortRows at a table's rows. -/
theorem sortTab (t : Tbl) (A : Option Addr) (c : Nat) (ks : List Key) (W : World) (g : Nat) (hg : g < W.heap.size) (ht : TOk (· < W.heap.size) W t) (hpk : t.pk = [0]) (hr : RsOk (But g W) W A ks) (hd : Dig [0] (ks.map Key.row)) (hl : ks.length < 20) :
    Calls Tryz.prog 36 #[t.val, .slice A ks.length c] W fun e w' => ∃ A' c' n', e = .returned (.slice A' n' c') ∧ SrtAt (ks.map Key.row) (But g w') w' (.slice A' n' c') ∧ Below W.heap.size W w' := by
  refine (rSortRows t A c ks (fun k => (dgK [0] k.row : Int)) W ht (hr.more fun g hg => hg.1) (fun k hk => by rw [hpk]; exact (hd _ (List.mem_map_of_mem hk)).1) hl (by rw [hpk]; show 1 ≤ 12; omega)).mono ?_
  rintro e w' ⟨A', c', ks', rfl, hp, hs, hel, hb⟩
  have hlen := hp.length_eq
  refine ⟨A', c', _, rfl, ⟨A', c', ks', by rw [hlen], hp.map _, ?_, ⟨hel.more fun b hb' => ⟨hb'.2, by omega⟩, fun k hk => ?_⟩⟩, hb⟩
  · unfold SrtR
    rw [List.pairwise_map, List.pairwise_iff_getElem]
    intro i j hi hj hij
    have h : (dgK [0] ks'[i].row : Int) ≤ (dgK [0] ks'[j].row : Int) := hs i j hi hj hij
    omega
  · have hk := (hr.row k (hp.mem_iff.1 hk))
    exact (hk.keep fun b hb' => hb.block b hb'.1).more fun b hb' => ⟨Nat.lt_of_lt_of_le hb'.1 hb.size, hb'.2⟩

theorem rsOk_new {mb n c B : Nat} {w13 : World} {A : Option Addr} {dk : List Key} (ho : Own 1 Key.cs 48 B w13 (.slice A n c) dk) (hm : mb < B) (hrow : ∀ x ∈ dk, KOk (But mb w13) w13 x) : RsOk (But mb w13) w13 A dk :=
  ⟨(ho.elems keyLay.len rfl).more fun g hg => ⟨(Own.lt ho g hg).2, by have := (Own.lt ho g hg).1; omega⟩, hrow⟩
theorem kOk_old {mb B : Nat} {w w' : World} {x : Key} (h : KOk (But mb w) w x) (hB : w.heap.size = B) (hb : Below B w w') : KOk (But mb w') w' x := by
  subst hB
  exact h.of fun i hi => ⟨hb.block i hi.1, Nat.lt_of_lt_of_le hi.1 hb.size, hi.2⟩

/-- The rows with the new one. -/
theorem putNew {mb B c n kk ti k : Nat} {w w11 w14 : World} {A : Option Addr} {dk : List Key} {ch : ChM} {R : Nat → Nat → List Row} (hdel : dk.map Key.row = upR [0] kk [] (R k ti)) (hdr : ∀ x ∈ dk, KOk (But mb w11) w11 x) (hcw : ChOk (· < w.heap.size) w ch) (hRn : R (k + 1) = stepR ch ti kk (R k)) (hk : ch.kind = 1) (hm : mb < B ∧ w.heap.size < mb) (hb : Below w11.heap.size w11 w14) (hbw : Below w.heap.size w w14) (ho : Own 1 Key.cs 48 B w14 (.slice A n c) (dk ++ [ch.row])) :
    RsOk (But mb w14) w14 A (dk ++ [ch.row]) ∧ R (k + 1) ti = (dk ++ [ch.row]).map Key.row ∧ ∀ j, j < 2 → j ≠ ti → R (k + 1) j = R k j := by
  refine ⟨rsOk_new ho hm.1 fun x hx => ?_, ?_, fun j _ hj => by rw [hRn]; unfold stepR; rw [if_neg hj]⟩
  · rcases List.mem_append.1 hx with hx | hx
    · exact kOk_old (hdr x hx) rfl hb
    · rw [List.mem_singleton.1 hx]
      exact hcw.row.of fun i hi => ⟨hbw.block i hi, Nat.lt_of_lt_of_le hi hbw.size, by omega⟩
  · rw [hRn, List.map_append, hdel]
    unfold stepR newR upR
    rw [if_pos rfl, if_pos hk, List.append_nil]
    rfl

set_option maxRecDepth 100000 in
set_option maxHeartbeats 16000000 in
theorem rApply (s : Sc) (A0 : Option Addr) (c0 : Nat) (k0 : List Key) (A1 : Option Addr) (c1 : Nat) (k1 : List Key) (A : Option Addr) (c : Nat) (CA : Option Addr) (cc : Nat) (chs : List ChM) (R : Nat → Nat → List Row) (w : World)
    (hs : ScOk (· < w.heap.size) w s) (h2 : s.tabs.length = 2) (hnm : ∀ i (h : i < s.tabs.length), s.tabs[i].name = nTab i) (hpk : ∀ t ∈ s.tabs, t.pk = [0])
    (hVS : ∀ W, Below w.heap.size w W → Calls Tryz.prog 27 #[s.v] W fun e w' => e = .returned (.int .i64 0) ∧ Below W.heap.size W w')
    (hi : InOk (· < w.heap.size) w A [⟨nItem, A0, c0, k0⟩, ⟨nOrder, A1, c1, k1⟩]) (hc : InC s.tabs [⟨nItem, A0, c0, k0⟩, ⟨nOrder, A1, c1, k1⟩])
    (hch : Elems 4 ChM.cs w (· < w.heap.size) CA chs) (hco : ∀ ch ∈ chs, ChOk (· < w.heap.size) w ch) (hm : chs.length ≤ 24) (st : Nat) (hst1 : st ≤ chs.length)
    (hR0 : k0.map Key.row = R 0 0) (hR1 : k1.map Key.row = R 0 1)
    (hst : ∀ k (hk : k < chs.length), k ≤ st → ∃ ti kk, StepF s chs[k] ti kk ∧ StepK chs[k] R st k ti kk)
    (hdg : ∀ k, k ≤ st → ∀ i, i < 2 → Dig [0] (R k i) ∧ (R k i).length < 20) :
    Calls Tryz.prog 11 #[s.v, .slice A 2 c, .slice CA chs.length cc] w fun e w' => Below w.heap.size w w' ∧ ((st = chs.length ∧ ∃ g v0 v1, e = .returned (.tuple #[.slice (some ⟨g, 0, none⟩) 2 2, .int .i64 0]) ∧ w.heap.size ≤ g ∧ IsB g v0 v1 w' ∧ SrtAt (R st 0) (But g w') w' v0 ∧ SrtAt (R st 1) (But g w') w' v1) ∨ (st < chs.length ∧ e = .returned (.tuple #[.slice none 0 0, .int .i64 9]))) := by
  obtain ⟨m, hmm⟩ : ∃ m, chs.length = m := ⟨_, rfl⟩
  obtain ⟨n0, hn0⟩ : ∃ n, k0.length = n := ⟨_, rfl⟩
  obtain ⟨n1, hn1⟩ : ∃ n, k1.length = n := ⟨_, rfl⟩
  obtain ⟨tb, toff, hTA, htb, -⟩ := hs.tabs.tbl (k := 0) (by omega)
  have htb : tb < w.heap.size := htb
  obtain ⟨w1, hw1⟩ : ∃ w1, w1 = w.alloc (.cells #[.slice s.TA 2 s.tc, .slice s.FA s.fks.length s.fc, .slice s.NA s.cns.length s.nc] 27) := ⟨_, rfl⟩
  have hb1 : Below w.heap.size w w1 := by rw [hw1]; exact (Below.refl _ _).alloc (Nat.le_refl _) _
  have hg1 : w1.heap[w.heap.size]? = some (.cells #[.slice s.TA 2 s.tc, .slice s.FA s.fks.length s.fc, .slice s.NA s.cns.length s.nc] 27 (0, 0)) := by rw [hw1]; exact heap_alloc_new w _
  have hs1 : w.heap.size < w1.heap.size := by rw [hw1]; simp
  have HBX : Hid (∀ W, Below w1.heap.size w1 W → W.cell? ⟨w.heap.size, 0, none⟩ = some (.slice s.TA 2 s.tc) ∧ W.cell? ⟨w.heap.size, 1, none⟩ = some (.slice s.FA s.fks.length s.fc) ∧ W.cell? ⟨w.heap.size, 2, none⟩ = some (.slice s.NA s.cns.length s.nc)) := Lib.hid fun W hW => by
    have h := (hW.block w.heap.size hs1).trans hg1
    exact ⟨cell_of_row _ _ 0 _ _ _ h, cell_of_row _ _ 1 _ _ _ h, cell_of_row _ _ 2 _ _ _ h⟩
  have HVS := Lib.hid hVS
  have hl1000 : s.tabs.length ≤ 1000 := by omega
  have HCF := Lib.hid fun W (hW : Below w.heap.size w W) => rConforms s A c [⟨nItem, A0, c0, k0⟩, ⟨nOrder, A1, c1, k1⟩] W (hs.on hW) (hi.on hW) hc (fun i h h' => by
    intro r hr
    rw [hpk _ (List.getElem_mem h')]
    have h2i : i < 2 := h
    have : i = 0 ∨ i = 1 := by omega
    rcases this with rfl | rfl
    · exact ⟨_, ((hdg 0 (by omega) 0 (by omega)).1 r (by rw [← hR0]; exact hr)).1⟩
    · exact ⟨_, ((hdg 0 (by omega) 1 (by omega)).1 r (by rw [← hR1]; exact hr)).1⟩)
  have HSC := Lib.hid hs
  have HI := Lib.hid hi
  have HCH := Lib.hid hch
  have HCO := Lib.hid hco
  have HST := Lib.hid hst
  have HDG := Lib.hid hdg
  have HPK := Lib.hid hpk
  have HNM := Lib.hid (And.intro hnm h2)
  have HR := Lib.hid (And.intro hR0 hR1)
  have HLEN := Lib.hid (And.intro hmm (And.intro hn0 hn1))
  have HTA := Lib.hid (And.intro hTA htb)
  have HB1 := Lib.hid (And.intro hb1 hs1)
  have HW1 := Lib.hid hw1
  have HL := Lib.hid hl1000
  have hm24 : m ≤ 24 := by omega
  have HCF2 : Hid (∀ W, Below w.heap.size w W → Calls Tryz.prog 28 #[.agg #[.slice s.TA 2 s.tc, .slice s.FA s.fks.length s.fc, .slice s.NA s.cns.length s.nc], .slice A 2 c] W fun e w' => e = .returned (.int .i64 0) ∧ Below W.heap.size W w') := Lib.hid fun W hW => by
    have := HCF.out W hW
    unfold Sc.v Sc.cells at this
    rw [h2] at this
    exact this
  have HVS2 : Hid (∀ W, Below w.heap.size w W → Calls Tryz.prog 27 #[.agg #[.slice s.TA 2 s.tc, .slice s.FA s.fks.length s.fc, .slice s.NA s.cns.length s.nc]] W fun e w' => e = .returned (.int .i64 0) ∧ Below W.heap.size W w') := Lib.hid fun W hW => by
    have := HVS.out W hW
    unfold Sc.v Sc.cells at this
    rw [h2] at this
    exact this
  obtain ⟨x0, x1, x2⟩ := HBX.out w1 (Below.refl _ _)
  unfold Sc.v Sc.cells
  rw [h2, hmm]
  have hmk := @run_makeMap Tryz.prog
  clear hs hnm hpk hVS hi hc hch hco hm hR0 hR1 hst hdg hTA htb hb1 hw1 hg1 hs1 hl1000 hmm hn0 hn1 h2 HVS HCF
  go_enter Tryz.func11, Tryz.ntmps11
  go_upto_region 1 with fail
  rw [← HW1.out]
  go_wp2_with fail
  refine (HVS2.out w1 HB1.out.1).mono ?_
  rintro e w2 ⟨rfl, hb2⟩
  have HB2 := Lib.hid (And.intro hb2 (HB1.out.1.trans (hb2.mono HB1.out.1.size)))
  clear hb2 x0 x1 x2
  obtain ⟨x0, x1, x2⟩ := HBX.out w2 HB2.out.1
  go_wp2_with fail
  refine (HCF2.out w2 HB2.out.2).mono ?_
  rintro e w3 ⟨rfl, hb3⟩
  have HB3 := Lib.hid (And.intro (HB2.out.1.trans (hb3.mono HB2.out.1.size)) (HB2.out.2.trans (hb3.mono HB2.out.2.size)))
  clear hb3 x0 x1 x2
  obtain ⟨w4, hw4⟩ : ∃ w4, w4 = w3.alloc (.map #[] 0) := ⟨_, rfl⟩
  have hb4 : Below w3.heap.size w3 w4 := by rw [hw4]; exact (Below.refl _ _).alloc (Nat.le_refl _) _
  have HM0 : Hid (SMap w4 w3.heap.size []) := Lib.hid (by rw [hw4]; exact SMap.made w3)
  have HW4 := Lib.hid hw4
  obtain ⟨mb, hmb⟩ : ∃ mb, mb = w3.heap.size := ⟨_, rfl⟩
  have HMB : Hid (w.heap.size < mb ∧ w1.heap.size ≤ mb ∧ mb < w4.heap.size) := Lib.hid (by have := HB3.out.1.size; have := HB1.out.2; exact ⟨by omega, by omega, by rw [hmb, hw4]; simp⟩)
  have HB4 := Lib.hid (And.intro (HB3.out.1.trans (hb4.mono HB3.out.1.size)) (HB3.out.2.trans (hb4.mono HB3.out.2.size)))
  go_upto_region 10 with fail
  rw [← HW4.out]
  rw [← hmb] at HM0 ⊢
  clear hw4 hb4 hmb hmk
  -- what holds in every world where the map alone has turned
  have HG : Hid (∀ W, w4.grownBy W (some mb) → Below w.heap.size w W ∧ (W.cell? ⟨w.heap.size, 0, none⟩ = some (.slice s.TA 2 s.tc) ∧ W.cell? ⟨w.heap.size, 1, none⟩ = some (.slice s.FA s.fks.length s.fc) ∧ W.cell? ⟨w.heap.size, 2, none⟩ = some (.slice s.NA s.cns.length s.nc))) := Lib.hid fun W hW => by
    have h1 : Below w1.heap.size w1 W := HB4.out.1.trans (below_of_grown hW HB4.out.1.size fun g hg => by injection hg with hg; have := HMB.out; omega)
    exact ⟨HB1.out.1.trans (h1.mono HB1.out.1.size), HBX.out W h1⟩
  go_wp2_with fail
  go_loopw [39] (fun vi wr => (vi = .int .i64 0 ∧ w4 = wr) ∨ (vi = .int .i64 1 ∧ SMap wr mb [(nItem, .slice A0 n0 c0)] ∧ w4.grownBy wr (some mb)) ∨ (vi = .int .i64 2 ∧ MapAt mb (R 0) wr ∧ w4.grownBy wr (some mb))) (fun vi _ => 2 - (intOf vi).toNat)
  case atStart => exact .inl ⟨rfl, rfl⟩
  case round =>
    obtain ⟨wo, rfl⟩ : ∃ wo, wo = wr := ⟨_, rfl⟩
    rcases hrel with ⟨rfl, rfl⟩ | ⟨rfl, hmp, hgr⟩ | ⟨rfl, hmp, hgr⟩
    · obtain ⟨hbw, x0, x1, x2⟩ := HG.out w4 (World.grownBy.refl w4 _)
      obtain ⟨b, off, hIA, -, p0, p1⟩ := (HI.out.on hbw).el.rel (k := 0) (by show 0 < 2; omega)
      rw [Nat.zero_mul, Nat.add_zero] at p0 p1
      replace p0 : w4.cell? ⟨b, off, none⟩ = some (.string nItem) := p0
      replace p1 : w4.cell? ⟨b, off + 1, none⟩ = some (.slice A0 k0.length c0) := p1
      rw [HLEN.out.2.1] at p1
      obtain ⟨w5, hw5⟩ : ∃ w5, w5 = w4.alloc (.cells #[.string nItem, .slice A0 n0 c0] 78) := ⟨_, rfl⟩
      have hb5 : Below w4.heap.size w4 w5 := by rw [hw5]; exact (Below.refl _ _).alloc (Nat.le_refl _) _
      have hg5 : w5.heap[w4.heap.size]? = some (.cells #[.string nItem, .slice A0 n0 c0] 78 (0, 0)) := by rw [hw5]; exact heap_alloc_new w4 _
      have y0 := cell_of_row _ _ 0 _ _ _ hg5
      have y1 := cell_of_row _ _ 1 _ _ _ hg5
      obtain ⟨w6, hup, hm6, hg6⟩ := (HM0.out.below hb5).update (P := Tryz.prog) Tryz.underlying82 Tryz.underlying9 nItem (.slice A0 n0 c0)
      have HF := Lib.hid (And.intro hm6 (grown_trans (grown_of_below (some mb) hb5) hg6))
      have HW5 := Lib.hid hw5
      clear hw5 hb5 hg5 hm6 hg6 hbw
      rw [hIA]
      go_upto_region 13 with fail
      rw [← HW5.out]
      go_wp2_with fail
      go_roundw
      case rel => exact .inr (.inl ⟨by go_num, HF.out.1, HF.out.2⟩)
      case measure => simp [intOf]
    · obtain ⟨hbw, x0, x1, x2⟩ := HG.out wo hgr
      obtain ⟨b, off, hIA, -, p0, p1⟩ := (HI.out.on hbw).el.rel (k := 1) (by show 1 < 2; omega)
      rw [Nat.one_mul] at p0 p1
      replace p0 : wo.cell? ⟨b, off + 2, none⟩ = some (.string nOrder) := p0
      replace p1 : wo.cell? ⟨b, off + 2 + 1, none⟩ = some (.slice A1 k1.length c1) := p1
      rw [HLEN.out.2.2] at p1
      obtain ⟨w5, hw5⟩ : ∃ w5, w5 = wo.alloc (.cells #[.string nOrder, .slice A1 n1 c1] 78) := ⟨_, rfl⟩
      have hb5 : Below wo.heap.size wo w5 := by rw [hw5]; exact (Below.refl _ _).alloc (Nat.le_refl _) _
      have hg5 : w5.heap[wo.heap.size]? = some (.cells #[.string nOrder, .slice A1 n1 c1] 78 (0, 0)) := by rw [hw5]; exact heap_alloc_new wo _
      have y0 := cell_of_row _ _ 0 _ _ _ hg5
      have y1 := cell_of_row _ _ 1 _ _ _ hg5
      obtain ⟨w6, hup, hm6, hg6⟩ := (hmp.below hb5).update (P := Tryz.prog) Tryz.underlying82 Tryz.underlying9 nOrder (.slice A1 n1 c1)
      have hgf : w4.grownBy w6 (some mb) := grown_trans hgr (grown_trans (grown_of_below (some mb) hb5) hg6)
      have hbf := (HG.out w6 hgf).1
      have hrsm : ∀ r : RelM, r ∈ [(⟨nItem, A0, c0, k0⟩ : RelM), ⟨nOrder, A1, c1, k1⟩] → RsOk (But mb w6) w6 r.A r.rows := fun r hr => ((HI.out.rel r hr).keep (Keeps.of_below hbf fun _ h => h)).more fun g hg => ⟨Nat.lt_of_lt_of_le hg hbf.size, by have := HMB.out.1; omega⟩
      have HF : Hid (MapAt mb (R 0) w6 ∧ w4.grownBy w6 (some mb)) := Lib.hid ⟨⟨_, A0, c0, k0, A1, c1, k1, hm6, by rw [HLEN.out.2.1, mget_put_other _ _ (fun e => nTab_ne e.symm)]; rfl, by rw [HLEN.out.2.2]; exact mget_put_same _ _ _, hrsm ⟨nItem, A0, c0, k0⟩ (by simp), hrsm ⟨nOrder, A1, c1, k1⟩ (by simp), HR.out.1, HR.out.2⟩, hgf⟩
      have HW5 := Lib.hid hw5
      clear hw5 hb5 hg5 hm6 hg6 hbw hgf hbf hrsm hmp hgr
      rw [hIA]
      go_upto_region 13 with fail
      rw [← HW5.out]
      go_wp2_with fail
      go_roundw
      case rel => exact .inr (.inr ⟨by go_num, HF.out.1, HF.out.2⟩)
      case measure => simp [intOf]
    · have HM1 := Lib.hid (And.intro hmp hgr)
      clear hmp hgr HM0
      go_wp2_with fail
      go_loopw [51] (fun vi wr => ∃ k : Nat, vi = .int .i64 (k : Int) ∧ k ≤ m ∧ k ≤ st ∧ MapAt mb (R k) wr ∧ w4.grownBy wr (some mb)) (fun vi _ => m - (intOf vi).toNat)
      case atStart => exact ⟨0, rfl, by omega, by omega, HM1.out.1, HM1.out.2⟩
      case round =>
        obtain ⟨k, rfl, hkm, hks, hmp, hgr⟩ := hrel
        clear HM1
        obtain ⟨wo, rfl⟩ : ∃ wo, wo = wr := ⟨_, rfl⟩
        by_cases hlt : k < m
        · have hkc : k < chs.length := by have := HLEN.out.1; omega
          obtain ⟨ti, kk, hSt, hSk⟩ := HST.out k hkc hks
          obtain ⟨hbw, x0, x1, x2⟩ := HG.out wo hgr
          obtain ⟨b, off, hCA, -, hcl⟩ := (HCH.out.on hbw).at_ hkc
          have hco := (HCO.out _ (List.getElem_mem hkc)).on hbw
          have hcw := HCO.out _ (List.getElem_mem hkc)
          obtain ⟨hdg, hdl⟩ := HDG.out k (by omega) ti hSt.ti2
          generalize chs[k] = ch at *
          have q0 : wo.cell? ⟨b, off + k * 4, none⟩ = some (.int .i64 ch.kind) := hcl 0 _ rfl
          have q1 : wo.cell? ⟨b, off + k * 4 + 1, none⟩ = some (.string ch.name) := hcl 1 _ rfl
          have q2 : wo.cell? ⟨b, off + k * 4 + 2, none⟩ = some (.slice ch.key.A ch.key.row.length ch.key.c) := hcl 2 _ rfl
          have q3 : wo.cell? ⟨b, off + k * 4 + 3, none⟩ = some (.slice ch.row.A ch.row.row.length ch.row.c) := hcl 3 _ rfl
          obtain ⟨w5, hw5⟩ : ∃ w5, w5 = wo.alloc (.cells #[.int .i64 ch.kind, .string ch.name, .slice ch.key.A ch.key.row.length ch.key.c, .slice ch.row.A ch.row.row.length ch.row.c] 51) := ⟨_, rfl⟩
          have hb5 : Below wo.heap.size wo w5 := by rw [hw5]; exact (Below.refl _ _).alloc (Nat.le_refl _) _
          have hg5 : w5.heap[wo.heap.size]? = some (.cells #[.int .i64 ch.kind, .string ch.name, .slice ch.key.A ch.key.row.length ch.key.c, .slice ch.row.A ch.row.row.length ch.row.c] 51 (0, 0)) := by rw [hw5]; exact heap_alloc_new wo _
          have hs5 : wo.heap.size < w5.heap.size := by rw [hw5]; simp
          have hgr5 : w4.grownBy w5 (some mb) := grown_trans hgr (grown_of_below (some mb) hb5)
          have hmp5 := hmp.below hb5
          have HK5 : Hid (∀ W, Below w5.heap.size w5 W → (W.cell? ⟨w.heap.size, 0, none⟩ = some (.slice s.TA 2 s.tc) ∧ W.cell? ⟨w.heap.size, 1, none⟩ = some (.slice s.FA s.fks.length s.fc) ∧ W.cell? ⟨w.heap.size, 2, none⟩ = some (.slice s.NA s.cns.length s.nc)) ∧ (W.cell? ⟨wo.heap.size, 0, none⟩ = some (.int .i64 ch.kind) ∧ W.cell? ⟨wo.heap.size, 1, none⟩ = some (.string ch.name) ∧ W.cell? ⟨wo.heap.size, 2, none⟩ = some (.slice ch.key.A ch.key.row.length ch.key.c) ∧ W.cell? ⟨wo.heap.size, 3, none⟩ = some (.slice ch.row.A ch.row.row.length ch.row.c)) ∧ Below w.heap.size w W ∧ w4.grownBy W (some mb) ∧ MapAt mb (R k) W ∧ ScOk (· < W.heap.size) W s ∧ ChOk (· < W.heap.size) W ch) := Lib.hid fun W hW => by
            have h1 : w4.grownBy W (some mb) := grown_trans hgr5 (grown_of_below (some mb) hW)
            have h2 := HG.out W h1
            have h3 := (hW.block wo.heap.size hs5).trans hg5
            have h4 : Below wo.heap.size wo W := hb5.trans (hW.mono hb5.size)
            exact ⟨h2.2, ⟨cell_of_row _ _ 0 _ _ _ h3, cell_of_row _ _ 1 _ _ _ h3, cell_of_row _ _ 2 _ _ _ h3, cell_of_row _ _ 3 _ _ _ h3⟩, h2.1, h1, hmp5.below hW, HSC.out.on h2.1, hco.on h4⟩
          have HVC : Hid (∀ W, Below w5.heap.size w5 W → Calls Tryz.prog 29 #[.agg #[.slice s.TA 2 s.tc, .slice s.FA s.fks.length s.fc, .slice s.NA s.cns.length s.nc], .agg #[.int .i64 ch.kind, .string ch.name, .slice ch.key.A ch.key.row.length ch.key.c, .slice ch.row.A ch.row.row.length ch.row.c]] W fun e w' => e = .returned (.int .i64 0) ∧ Below W.heap.size W w') := Lib.hid fun W hW => by
            obtain ⟨-, -, -, -, -, h6, h7⟩ := HK5.out W hW
            have := valChW s ch ti W h6 h7 hSt.fit HL.out
            unfold Sc.v Sc.cells ChM.cells at this
            rw [HNM.out.2] at this
            exact this
          have HFT : Hid (∀ W, Below w5.heap.size w5 W → Calls Tryz.prog 30 #[.agg #[.slice s.TA 2 s.tc, .slice s.FA s.fks.length s.fc, .slice s.NA s.cns.length s.nc], .string ch.name] W fun e w' => e = .returned (.pointer (some ⟨tb, toff + ti * 3, none⟩)) ∧ Below W.heap.size W w') := Lib.hid fun W hW => by
            obtain ⟨-, -, -, -, -, h6, h7⟩ := HK5.out W hW
            have := rFindTable s ch.name ti W h6 HL.out hSt.fit.il hSt.fit.fi tb toff HTA.out.1
            unfold Sc.v Sc.cells at this
            rw [HNM.out.2] at this
            exact this
          have HAE : Hid (∀ W, Below w5.heap.size w5 W → Calls Tryz.prog 32 #[.agg #[.slice s.TA 2 s.tc, .slice s.FA s.fks.length s.fc, .slice s.NA s.cns.length s.nc], .agg #[.int .i64 ch.kind, .string ch.name, .slice ch.key.A ch.key.row.length ch.key.c, .slice ch.row.A ch.row.row.length ch.row.c]] W fun e w' => ∃ A c, e = .returned (.slice A 1 c) ∧ Below W.heap.size W w' ∧ Hid (Calls Tryz.prog 31 #[.slice A 1 c] w' fun e w'' => e = .returned (.string (encK kk)) ∧ Below W.heap.size W w'')) := Lib.hid fun W hW => by
            obtain ⟨-, -, -, -, -, h6, h7⟩ := HK5.out W hW
            have := affEncW s ch ti kk W h6 h7 hSt HL.out HPK.out
            unfold Sc.v Sc.cells ChM.cells at this
            rw [HNM.out.2] at this
            exact this
          have HCOK := Lib.hid (HCO.out)
          have HSt := Lib.hid hSt
          have HSk := Lib.hid hSk
          have HCW := Lib.hid hcw
          have HD := Lib.hid (And.intro hdg hdl)
          have HW5 := Lib.hid hw5
          clear hSt hSk hcw hcl hco hdg hdl hw5 hb5 hg5 hs5 hgr5 hmp5 hmp hgr hbw
          rw [hCA]
          go_upto_region 18 with fail
          rw [← HW5.out]
          obtain ⟨⟨x0, x1, x2⟩, ⟨z0, z1, z2, z3⟩, -⟩ := HK5.out w5 (Below.refl _ _)
          go_wp2_with fail
          refine (HVC.out w5 (Below.refl _ _)).mono ?_
          rintro e w6 ⟨rfl, hb6⟩
          have HB6 := Lib.hid hb6
          clear x0 x1 x2 z0 z1 z2 z3
          obtain ⟨⟨x0, x1, x2⟩, ⟨z0, z1, z2, z3⟩, -⟩ := HK5.out w6 hb6
          clear hb6
          go_wp2_with fail
          refine (HFT.out w6 HB6.out).mono ?_
          rintro e w7 ⟨rfl, hb7⟩
          have hb57 := HB6.out.trans (hb7.mono HB6.out.size)
          obtain ⟨w8, hw8⟩ : ∃ w8, w8 = w7.alloc (.cells #[.pointer (some ⟨tb, toff + ti * 3, none⟩)] 84) := ⟨_, rfl⟩
          have hb8 : Below w7.heap.size w7 w8 := by rw [hw8]; exact (Below.refl _ _).alloc (Nat.le_refl _) _
          have hg8 : w8.heap[w7.heap.size]? = some (.cells #[.pointer (some ⟨tb, toff + ti * 3, none⟩)] 84 (0, 0)) := by rw [hw8]; exact heap_alloc_new w7 _
          have HB8 := Lib.hid (And.intro (hb57.trans (hb8.mono hb57.size)) hg8)
          have HW8 := Lib.hid hw8
          clear x0 x1 x2 z0 z1 z2 z3 hb7 hb57 hw8 hb8 hg8
          go_upto_region 22 with fail
          rw [← HW8.out]
          obtain ⟨⟨x0, x1, x2⟩, ⟨z0, z1, z2, z3⟩, -⟩ := HK5.out w8 HB8.out.1
          go_wp2_with fail
          refine (HAE.out w8 HB8.out.1).mono ?_
          rintro e w9 ⟨Ak, ck, rfl, -, HEN⟩
          go_wp2_with fail
          refine HEN.out.mono ?_
          rintro e w10 ⟨rfl, hb10⟩
          obtain ⟨w11, hw11⟩ : ∃ w11, w11 = w10.alloc (.cells #[.string (encK kk)] 9) := ⟨_, rfl⟩
          have hb11 : Below w10.heap.size w10 w11 := by rw [hw11]; exact (Below.refl _ _).alloc (Nat.le_refl _) _
          have hg11 : w11.heap[w10.heap.size]? = some (.cells #[.string (encK kk)] 9 (0, 0)) := by rw [hw11]; exact heap_alloc_new w10 _
          have hb811 : Below w8.heap.size w8 w11 := hb10.trans (hb11.mono hb10.size)
          have hb511 : Below w5.heap.size w5 w11 := HB8.out.1.trans (hb811.mono HB8.out.1.size)
          have hg711 : w11.heap[w7.heap.size]? = some (.cells #[.pointer (some ⟨tb, toff + ti * 3, none⟩)] 84 (0, 0)) := (hb811.block w7.heap.size (Array.getElem?_eq_some_iff.1 HB8.out.2).1).trans HB8.out.2
          have HB11 := Lib.hid (And.intro hb511 (And.intro hg11 hg711))
          have HW11 := Lib.hid hw11
          clear x0 x1 x2 z0 z1 z2 z3 hb10 hw11 hb11 hg11 hb811 hb511 hg711 HEN
          go_upto_region 23 with fail
          rw [← HW11.out]
          obtain ⟨⟨x0, x1, x2⟩, ⟨z0, z1, z2, z3⟩, hbw, hgr, hmp, hsc, hchok⟩ := HK5.out w11 HB11.out.1
          obtain ⟨Al, cl, ks, hlk, hrs, hRk⟩ := hmp.look ti HSt.out.ti2
          rw [← HSt.out.nm] at hlk
          obtain ⟨nk, hnk⟩ : ∃ n, ks.length = n := ⟨_, rfl⟩
          have hkl : ks.length < 20 := by rw [← List.length_map (f := Key.row), hRk]; exact HD.out.2
          rw [hnk] at hlk
          have hti : ti < s.tabs.length := HSt.out.fit.il
          have hsz7 : w7.heap.size < w11.heap.size := (Array.getElem?_eq_some_iff.1 HB11.out.2.2).1
          have hsz10 : w10.heap.size < w11.heap.size := (Array.getElem?_eq_some_iff.1 HB11.out.2.1).1
          have hcls : ClS w7.heap.size w10.heap.size tb (toff + ti * 3) s.tabs[ti] kk w11 := by
            obtain ⟨b2, off2, e2, -, p0, p1, p2⟩ := hsc.tabs.tbl hti
            rw [HTA.out.1] at e2
            injection e2 with e2
            injection e2 with e3 e4
            subst e3 e4
            exact ⟨cell_of_row _ _ 0 _ _ _ HB11.out.2.2, cell_of_row _ _ 0 _ _ _ HB11.out.2.1, p0, p1, p2⟩
          have HCL : Hid (Calls Tryz.prog 34 #[.slice Al nk cl] w11 fun e w12 => ∃ A2 c2, e = .returned (.slice A2 nk c2) ∧ Hid (Calls Tryz.prog 33 #[.slice A2 nk c2, .func (.func 35) #[] #[.pointer (some ⟨w7.heap.size, 0, none⟩), .pointer (some ⟨w10.heap.size, 0, none⟩)]] w12 fun e w13 => ∃ A3 c3, e = .returned (.slice A3 (delK kk ks).length c3) ∧ Own 1 Key.cs 48 w11.heap.size w13 (.slice A3 (delK kk ks).length c3) (delK kk ks) ∧ Below w11.heap.size w11 w13)) := Lib.hid <| by
            refine (cloneKey Al nk cl ks w11 _ hrs.el (fun g hg => hg.1) hnk.symm (by omega)).mono ?_
            rintro e w12 ⟨v, rfl, ho, hb⟩
            obtain ⟨A2, c2, rfl, -, -⟩ := ho.form
            rw [hnk] at ho ⊢
            exact ⟨A2, c2, rfl, Lib.hid (delRowsW s.tabs[ti] _ _ tb _ kk nk ks w11 w12 A2 c2 ho hnk.symm hb hcls hsz7 hsz10 (Nat.lt_of_lt_of_le HTA.out.2 hbw.size) (hsc.tab _ (List.getElem_mem hti)) (fun k hk => (hrs.row k hk).more fun g hg => hg.1) (HPK.out _ (List.getElem_mem hti)) (by rw [hRk]; exact HD.out.1) HSt.out.kk10 (by omega))⟩
          have hdel : (delK kk ks).map Key.row = upR [0] kk [] (R k ti) := by rw [delK_rows, hRk]; unfold upR; rw [List.append_nil]
          have hdr : ∀ x ∈ delK kk ks, KOk (But mb w11) w11 x := fun x hx => hrs.row x (List.mem_filter.1 hx).1
          have hdl : (delK kk ks).length < 20 := Nat.lt_of_le_of_lt (List.length_filter_le _ _) hkl
          have HMW : Hid (mb < w11.heap.size ∧ w.heap.size < mb) := Lib.hid (by have := HMB.out; have := hgr.size; omega)
          clear hcls hsz7 hsz10 hrs hRk hkl hnk hbw hgr hmp hsc hchok
          generalize delK kk ks = dk at *
          obtain ⟨n3, hn3⟩ : ∃ n, dk.length = n := ⟨_, rfl⟩
          rw [hn3] at HCL
          have HDL := Lib.hid (And.intro hdel (And.intro hdr (And.intro hdl hn3)))
          clear hdel hdr hdl hn3
          go_wp2_with fail
          refine HCL.out.mono ?_
          rintro e w12 ⟨A2, c2, rfl, HDF⟩
          go_wp2_with fail
          refine HDF.out.mono ?_
          rintro e w13 ⟨A3, c3, rfl, ho3, hb3⟩
          clear x0 x1 x2 z0 z1 z2 z3 hlk HCL HDF
          have hb513 := HB11.out.1.trans (hb3.mono HB11.out.1.size)
          obtain ⟨⟨x0, x1, x2⟩, ⟨z0, z1, z2, z3⟩, hbw, hgr, hmp, -, -⟩ := HK5.out w13 hb513
          obtain ⟨Am, cm, km, hlm, -, hRm⟩ := hmp.look ti HSt.out.ti2
          rw [← HSt.out.nm] at hlm
          obtain ⟨nm, hnm⟩ : ∃ n, km.length = n := ⟨_, rfl⟩
          rw [hnm] at hlm
          have hnmR : (R k ti).length = nm := by rw [← hRm, List.length_map, hnm]
          have hn3R : (upR [0] kk [] (R k ti)).length = n3 := by rw [← HDL.out.1, List.length_map, HDL.out.2.2.2]
          have hn20 : n3 < 20 := by have := HDL.out.2.2.1; rw [HDL.out.2.2.2] at this; exact this
          have HB13 := Lib.hid (And.intro hb513 (And.intro hb3 ho3))
          have HNM := Lib.hid (And.intro hnmR hn3R)
          clear hbw hgr hmp hRm hnm hnmR hn3R hb513 hb3 ho3
          rcases HSt.out.key with ⟨hk1, hkey⟩ | ⟨hk2, hkey⟩
          · rw [hk1] at z0
            clear hkey
            rcases HSk.out with ⟨hks1, hRn, -⟩ | ⟨-, hns⟩
            · have HRN := Lib.hid hRn
              have HO : Hid (Own 1 Key.cs 48 w11.heap.size w13 (.slice A3 n3 c3) dk ∧ w11.heap.size ≤ w13.heap.size) := Lib.hid ⟨HB13.out.2.2, HB13.out.2.1.size⟩
              have HL1 : Hid ((dk.length + 1) * 24 ≤ 140737488355328) := Lib.hid (by have := HDL.out.2.2.1; omega)
              have HL2 : Hid (dk.length + 1 ≤ maxLen) := Lib.hid (by have := HDL.out.2.2.1; unfold maxLen; omega)
              clear hRn
              go_upto_region 27 with fail
              go_wp2_with (at_builtin; refine wpList_app rfl (.tmp 92) (.tmp 95) _ _ rfl rfl rfl (run_push elem_keys keyLay _ _ _ dk ch.row _ HO.out.1 rfl HL1.out HL2.out HO.out.2 rfl) ?_; rintro v4 w14 ⟨ho4, hx4⟩; obtain ⟨A4, c4, rfl, -, -⟩ := ho4.form; rw [List.length_append, HDL.out.2.2.2] at ho4 hx4 ⊢; have hb14 : Below w11.heap.size w11 w14 := HB13.out.2.1.trans (hx4.below (base := w11.heap.size) HO.out.2 (fun g hg => (HO.out.1.lt g hg).1)); obtain ⟨⟨x0, x1, x2⟩, ⟨z0, z1, z2, z3⟩, hbw, hgr, hmp, -, -⟩ := HK5.out w14 (HB11.out.1.trans (hb14.mono HB11.out.1.size)); have hnew := putNew HDL.out.1 HDL.out.2.1 HCW.out HRN.out hk1 HMW.out hb14 hbw ho4; obtain ⟨W', hup, hm', hgr'⟩ := hmp.put (R' := R (k + 1)) ti HSt.out.ti2 (A := A4) (c := c4) (n := n3 + 1) (ks := dk ++ [ch.row]) (by rw [List.length_append, HDL.out.2.2.2]; rfl) hnew.1 hnew.2.1 hnew.2.2; rw [← HSt.out.nm] at hup; have HF := Lib.hid (And.intro hm' (grown_trans hgr hgr')); clear ho4 hx4 hb14 hbw hgr hmp hnew hm' hgr')
              go_roundw
              case rel => exact ⟨k + 1, by go_num, by omega, by omega, HF.out.1, HF.out.2⟩
              case measure => simp [intOf]; omega
            · exact absurd hns.1 (by omega)
          · rw [hk2] at z0
            clear hkey
            rcases HSk.out with ⟨hks1, hRn, hns⟩ | ⟨hks1, hns⟩
            · have hne : ¬ ((n3 : Int) = (nm : Int)) := fun h => hns ⟨hk2, by rw [HNM.out.1, HNM.out.2]; omega⟩
              have HRN := Lib.hid hRn
              clear hRn
              go_upto_region 30 with fail
              have h13 := HK5.out w13 HB13.out.1
              obtain ⟨W', hup, hm', hgr'⟩ := h13.2.2.2.2.1.put (R' := R (k + 1)) ti HSt.out.ti2 (A := A3) (c := c3) (n := n3) (ks := dk) HDL.out.2.2.2.symm (rsOk_new HB13.out.2.2 HMW.out.1 fun x hx => kOk_old (HDL.out.2.1 x hx) rfl HB13.out.2.1)
                (by rw [HRN.out, HDL.out.1]; unfold stepR newR; rw [if_pos rfl, if_neg (by omega)]) (fun j _ hj => by rw [HRN.out]; unfold stepR; rw [if_neg hj])
              rw [← HSt.out.nm] at hup
              have HF := Lib.hid (And.intro hm' (grown_trans h13.2.2.2.1 hgr'))
              clear hm' hgr' h13
              go_wp2_with fail
              go_roundw
              case rel => exact ⟨k + 1, by go_num, by omega, by omega, HF.out.1, HF.out.2⟩
              case measure => simp [intOf]; omega
            · have hne : n3 = nm := by rw [← HNM.out.1, ← HNM.out.2]; exact hns.2
              subst hne
              have HEND : Hid (st < m) := Lib.hid (by omega)
              go_wp2_with fail
              go_ret2
              exact ⟨(HK5.out w13 HB13.out.1).2.2.1, .inr ⟨HEND.out, rfl⟩⟩
        · have hkm2 : k = m := by omega
          have hst2 : st = m := by have := HLEN.out.1; omega
          subst hkm2
          obtain ⟨hbw, x0, x1, x2⟩ := HG.out wo hgr
          have HM2 := Lib.hid (And.intro hmp hgr)
          have HEM : Hid (Calls Tryz.prog 23 #[.agg #[.slice s.TA 2 s.tc, .slice s.FA s.fks.length s.fc, .slice s.NA s.cns.length s.nc]] wo fun e w' => ∃ g, e = .returned (.slice (some ⟨g, 0, none⟩) 2 2) ∧ wo.heap.size ≤ g ∧ EiB wo g nItem nOrder w') := Lib.hid <| by
            have := emptyOwn s wo (HSC.out.on hbw) HNM.out.2 (fun h => HNM.out.1 0 h) (fun h => HNM.out.1 1 h)
            unfold Sc.v Sc.cells at this
            rw [HNM.out.2] at this
            exact this
          have HBW := Lib.hid hbw
          clear hmp hgr hbw
          go_wp2_with fail
          refine HEM.out.mono ?_
          rintro e w15 ⟨g, rfl, hge, hei⟩
          obtain ⟨⟨l, B0, d0, q0, B1, d1, q1, hSM, hm0, hm1, hrq0, hrq1, hRq0, hRq1⟩⟩ := HM2.out.1
          obtain ⟨m0, hm0l⟩ : ∃ n, q0.length = n := ⟨_, rfl⟩
          obtain ⟨m1, hm1l⟩ : ∃ n, q1.length = n := ⟨_, rfl⟩
          have HQL := Lib.hid (And.intro hm0l (And.intro hm1l (And.intro hRq0 hRq1)))
          have HGE : Hid (wo.heap.size ≤ g) := Lib.hid hge
          have HLK : Hid (∀ W, Below wo.heap.size wo W → (Instr.lookup 82 (.map (some mb)) (.string nItem) false).run Tryz.prog W = .ok (.slice B0 m0 d0) W ∧ (Instr.lookup 82 (.map (some mb)) (.string nOrder) false).run Tryz.prog W = .ok (.slice B1 m1 d1) W ∧ RsOk (But g W) W B0 q0 ∧ RsOk (But g W) W B1 q1) := Lib.hid fun W hW => by
            have h0 := (hSM.below hW).look (P := Tryz.prog) Tryz.underlying82 Tryz.underlying9 (zero_rows W) nItem
            have h1 := (hSM.below hW).look (P := Tryz.prog) Tryz.underlying82 Tryz.underlying9 (zero_rows W) nOrder
            rw [hm0, hm0l] at h0
            rw [hm1, hm1l] at h1
            exact ⟨h0, h1, ⟨hrq0.el.of fun i hi => ⟨hW.block i hi.1, Nat.lt_of_lt_of_le hi.1 hW.size, by have := hi.1; omega⟩, fun x hx => (hrq0.row x hx).of fun i hi => ⟨hW.block i hi.1, Nat.lt_of_lt_of_le hi.1 hW.size, by have := hi.1; omega⟩⟩, ⟨hrq1.el.of fun i hi => ⟨hW.block i hi.1, Nat.lt_of_lt_of_le hi.1 hW.size, by have := hi.1; omega⟩, fun x hx => (hrq1.row x hx).of fun i hi => ⟨hW.block i hi.1, Nat.lt_of_lt_of_le hi.1 hW.size, by have := hi.1; omega⟩⟩⟩
          obtain ⟨z0, z1, z2⟩ : w15.cell? ⟨w.heap.size, 0, none⟩ = some (.slice s.TA 2 s.tc) ∧ w15.cell? ⟨w.heap.size, 1, none⟩ = some (.slice s.FA s.fks.length s.fc) ∧ w15.cell? ⟨w.heap.size, 2, none⟩ = some (.slice s.NA s.cns.length s.nc) := (HG.out w15 (grown_trans HM2.out.2 (grown_of_below _ hei.2))).2
          have HEI := Lib.hid hei
          have hTA := HTA.out.1
          clear hei hSM hm0 hm1 hrq0 hrq1 hRq0 hRq1 hm0l hm1l hge x0 x1 x2
          rw [hTA] at z0
          go_wp2_with fail
          go_loopw [110] (fun vi wr => (vi = .int .i64 0 ∧ IsB g (.slice none 0 0) (.slice none 0 0) wr ∧ Below wo.heap.size wo wr) ∨ (vi = .int .i64 1 ∧ ∃ v0, IsB g v0 (.slice none 0 0) wr ∧ SrtAt (R k 0) (But g wr) wr v0 ∧ Below wo.heap.size wo wr) ∨ (vi = .int .i64 2 ∧ ∃ v0 v1, IsB g v0 v1 wr ∧ SrtAt (R k 0) (But g wr) wr v0 ∧ SrtAt (R k 1) (But g wr) wr v1 ∧ Below wo.heap.size wo wr)) (fun vi _ => 2 - (intOf vi).toNat)
          case atStart => exact .inl ⟨rfl, HEI.out.1, HEI.out.2⟩
          case round =>
            obtain ⟨wq, rfl⟩ : ∃ wq, wq = wr := ⟨_, rfl⟩
            clear z0 z1 z2
            rcases hrel with ⟨rfl, hI, hbq⟩ | ⟨rfl, v0, hI, hS0, hbq⟩ | ⟨rfl, v0, v1, hI, hS0, hS1, hbq⟩
            · obtain ⟨hlk0, hlk1, hr0, hr1⟩ := HLK.out wq hbq
              obtain ⟨hbw, x0, x1, x2⟩ := HG.out wq (grown_trans HM2.out.2 (grown_of_below _ hbq))
              obtain ⟨b2, off2, e2, -, p0, p1, p2⟩ := (HSC.out.on hbw).tabs.tbl (k := 0) (by have := HNM.out.2; omega)
              rw [HTA.out.1] at e2
              injection e2 with e2
              injection e2 with e3 e4
              subst e3 e4
              rw [HNM.out.1 0 (by have := HNM.out.2; omega)] at p0
              rw [Nat.zero_mul, Nat.add_zero] at p0 p1 p2
              replace p0 : wq.cell? ⟨tb, toff, none⟩ = some (.string nItem) := p0
              have HST0 : Hid ((s.tabs[0]'(by have := HNM.out.2; omega)).name = nItem ∧ TOk (· < wq.heap.size) wq (s.tabs[0]'(by have := HNM.out.2; omega)) ∧ (s.tabs[0]'(by have := HNM.out.2; omega)).pk = [0]) := Lib.hid ⟨HNM.out.1 0 (by have := HNM.out.2; omega), (HSC.out.on hbw).tab _ (List.getElem_mem _), HPK.out _ (List.getElem_mem _)⟩
              generalize (s.tabs[0]'(by have := HNM.out.2; omega)) = t at *
              obtain ⟨w5, hw5⟩ : ∃ w5, w5 = wq.alloc (.cells #[.string nItem, .slice t.CA t.cols.length t.cc, .slice t.PA t.pk.length t.pc] 71) := ⟨_, rfl⟩
              have hb5 : Below wq.heap.size wq w5 := by rw [hw5]; exact (Below.refl _ _).alloc (Nat.le_refl _) _
              have hg5 : w5.heap[wq.heap.size]? = some (.cells #[.string nItem, .slice t.CA t.cols.length t.cc, .slice t.PA t.pk.length t.pc] 71 (0, 0)) := by rw [hw5]; exact heap_alloc_new wq _
              have t0 := cell_of_row _ _ 0 _ _ _ hg5
              have t1 := cell_of_row _ _ 1 _ _ _ hg5
              have t2 := cell_of_row _ _ 2 _ _ _ hg5
              have hgq : g < wq.heap.size := (Array.getElem?_eq_some_iff.1 hI).1
              have hb25 := hbq.trans (hb5.mono hbq.size)
              obtain ⟨l0, l1, r0, r1⟩ := HLK.out w5 hb25
              have HSO : Hid (Calls Tryz.prog 36 #[.agg #[.string nItem, .slice t.CA t.cols.length t.cc, .slice t.PA t.pk.length t.pc], .slice B0 m0 d0] w5 fun e w' => ∃ A' c' n', e = .returned (.slice A' n' c') ∧ SrtAt (R k 0) (But g w') w' (.slice A' n' c') ∧ Below w5.heap.size w5 w') := Lib.hid <| by
                have h := sortTab t B0 d0 q0 w5 g (Nat.lt_of_lt_of_le hgq hb5.size) (HST0.out.2.1.on hb5) HST0.out.2.2 r0 (by rw [HQL.out.2.2.1]; exact (HDG.out k (by omega) 0 (by omega)).1) (by rw [← List.length_map (f := Key.row), HQL.out.2.2.1]; exact (HDG.out k (by omega) 0 (by omega)).2)
                unfold Tbl.val at h
                rw [HST0.out.1, HQL.out.2.2.1, HQL.out.1] at h
                exact h
              have HKEEP : Hid (∀ W, Below w5.heap.size w5 W → IsB g (.slice none 0 0) (.slice none 0 0) W ∧ Below wo.heap.size wo W) := Lib.hid fun W hW => by
                have h1 : Below wq.heap.size wq W := hb5.trans (hW.mono hb5.size)
                exact ⟨(h1.block g hgq).trans hI, hbq.trans (h1.mono hbq.size)⟩
              have HW5 := Lib.hid hw5
              clear hlk0 hlk1 hr0 hr1 hw5 hb5 hg5 hb25 r0 r1 hI hbq hbw hgq 
              go_upto_region 36 with fail
              rw [← HW5.out]
              go_wp2_with fail
              refine HSO.out.mono ?_
              rintro e w6 ⟨A9, c9, n9, rfl, hS, hb6⟩
              have hk6 := HKEEP.out w6 hb6
              have y1 := cell_of_row _ _ 1 _ _ _ hk6.1
              have y2 := frozen_of_row _ _ 1 _ _ hk6.1
              have HF := Lib.hid (And.intro hk6 hS)
              clear hk6 hS hb6
              go_wp2_with fail
              go_roundw
              case rel => exact .inr (.inl ⟨by go_num, _, heap_setCell_at HF.out.1.1 _, HF.out.2.but (grown_setCell (World.grownBy.refl _ _) _ _), HF.out.1.2.setCell (p := ⟨g, 1, none⟩) HGE.out _⟩)
              case measure => simp [intOf]
            · obtain ⟨hlk0, hlk1, hr0, hr1⟩ := HLK.out wq hbq
              obtain ⟨hbw, x0, x1, x2⟩ := HG.out wq (grown_trans HM2.out.2 (grown_of_below _ hbq))
              obtain ⟨b2, off2, e2, -, p0, p1, p2⟩ := (HSC.out.on hbw).tabs.tbl (k := 1) (by have := HNM.out.2; omega)
              rw [HTA.out.1] at e2
              injection e2 with e2
              injection e2 with e3 e4
              subst e3 e4
              rw [HNM.out.1 1 (by have := HNM.out.2; omega)] at p0
              rw [Nat.one_mul] at p0 p1 p2
              replace p0 : wq.cell? ⟨tb, toff + 3, none⟩ = some (.string nOrder) := p0
              have HST1 : Hid ((s.tabs[1]'(by have := HNM.out.2; omega)).name = nOrder ∧ TOk (· < wq.heap.size) wq (s.tabs[1]'(by have := HNM.out.2; omega)) ∧ (s.tabs[1]'(by have := HNM.out.2; omega)).pk = [0]) := Lib.hid ⟨HNM.out.1 1 (by have := HNM.out.2; omega), (HSC.out.on hbw).tab _ (List.getElem_mem _), HPK.out _ (List.getElem_mem _)⟩
              generalize (s.tabs[1]'(by have := HNM.out.2; omega)) = t at *
              obtain ⟨w5, hw5⟩ : ∃ w5, w5 = wq.alloc (.cells #[.string nOrder, .slice t.CA t.cols.length t.cc, .slice t.PA t.pk.length t.pc] 71) := ⟨_, rfl⟩
              have hb5 : Below wq.heap.size wq w5 := by rw [hw5]; exact (Below.refl _ _).alloc (Nat.le_refl _) _
              have hg5 : w5.heap[wq.heap.size]? = some (.cells #[.string nOrder, .slice t.CA t.cols.length t.cc, .slice t.PA t.pk.length t.pc] 71 (0, 0)) := by rw [hw5]; exact heap_alloc_new wq _
              have t0 := cell_of_row _ _ 0 _ _ _ hg5
              have t1 := cell_of_row _ _ 1 _ _ _ hg5
              have t2 := cell_of_row _ _ 2 _ _ _ hg5
              have hgq : g < wq.heap.size := (Array.getElem?_eq_some_iff.1 hI).1
              have hb25 := hbq.trans (hb5.mono hbq.size)
              obtain ⟨l0, l1, r0, r1⟩ := HLK.out w5 hb25
              have HSO : Hid (Calls Tryz.prog 36 #[.agg #[.string nOrder, .slice t.CA t.cols.length t.cc, .slice t.PA t.pk.length t.pc], .slice B1 m1 d1] w5 fun e w' => ∃ A' c' n', e = .returned (.slice A' n' c') ∧ SrtAt (R k 1) (But g w') w' (.slice A' n' c') ∧ Below w5.heap.size w5 w') := Lib.hid <| by
                have h := sortTab t B1 d1 q1 w5 g (Nat.lt_of_lt_of_le hgq hb5.size) (HST1.out.2.1.on hb5) HST1.out.2.2 r1 (by rw [HQL.out.2.2.2]; exact (HDG.out k (by omega) 1 (by omega)).1) (by rw [← List.length_map (f := Key.row), HQL.out.2.2.2]; exact (HDG.out k (by omega) 1 (by omega)).2)
                unfold Tbl.val at h
                rw [HST1.out.1, HQL.out.2.2.2, HQL.out.2.1] at h
                exact h
              have HKEEP : Hid (∀ W, Below w5.heap.size w5 W → IsB g v0 (.slice none 0 0) W ∧ SrtAt (R k 0) (But g W) W v0 ∧ Below wo.heap.size wo W) := Lib.hid fun W hW => by
                have h1 : Below wq.heap.size wq W := hb5.trans (hW.mono hb5.size)
                exact ⟨(h1.block g hgq).trans hI, hS0.but (grown_of_below _ h1), hbq.trans (h1.mono hbq.size)⟩
              have HW5 := Lib.hid hw5
              clear hlk0 hlk1 hr0 hr1 hw5 hb5 hg5 hb25 r0 r1 hI hbq hbw hgq hS0
              go_upto_region 36 with fail
              rw [← HW5.out]
              go_wp2_with fail
              refine HSO.out.mono ?_
              rintro e w6 ⟨A9, c9, n9, rfl, hS, hb6⟩
              have hk6 := HKEEP.out w6 hb6
              have y1 := cell_of_row _ _ 3 _ _ _ hk6.1
              have y2 := frozen_of_row _ _ 3 _ _ hk6.1
              have HF := Lib.hid (And.intro hk6 hS)
              clear hk6 hS hb6
              go_wp2_with fail
              go_roundw
              case rel => exact .inr (.inr ⟨by go_num, _, _, heap_setCell_at HF.out.1.1 _, HF.out.1.2.1.but (grown_setCell (World.grownBy.refl _ _) _ _), HF.out.2.but (grown_setCell (World.grownBy.refl _ _) _ _), HF.out.1.2.2.setCell (p := ⟨g, 3, none⟩) HGE.out _⟩)
              case measure => simp [intOf]
            · have HF := Lib.hid (And.intro hI (And.intro hS0 (And.intro hS1 hbq)))
              clear hI hS0 hS1 hbq
              go_wp2_with fail
              go_ret2
              exact ⟨HBW.out.trans (HF.out.2.2.2.mono HBW.out.size), .inl ⟨by omega, g, v0, v1, rfl, Nat.le_trans HBW.out.size HGE.out, HF.out.1, by rw [hst2]; exact HF.out.2.1, by rw [hst2]; exact HF.out.2.2.1⟩⟩
end Go.Proofs.YtefifkleamiabaaGreatDoor

namespace Go.Proofs.YtefifkleamiabaaGreatDoor
open Go.RowKit Go.Sort

/-- A change's table and key. -/
def tiOf (ch : ChM) : Nat := if ch.name = nItem then 0 else 1
def kkOf (ch : ChM) : Nat := if ch.kind = 1 then dgK [0] ch.row.row else (ch.key.row.headD ⟨0, 0, ⟨#[]⟩⟩).int.toNat
theorem tiOf_tab {ch : ChM} {ti : Nat} (h : ti < 2) (hn : ch.name = nTab ti) : tiOf ch = ti := by
  unfold tiOf
  have : ti = 0 ∨ ti = 1 := by omega
  rcases this with rfl | rfl
  · rw [hn]; rfl
  · rw [hn, if_neg (show nTab 1 ≠ nItem from fun e => nTab_ne e.symm)]
/-- A change that fits the base schema. -/
structure FitB (ch : ChM) : Prop where
  tab : ch.name = nTab (tiOf ch) ∧ tiOf ch < 2
  fit : (ch.kind = 1 ∧ ch.key.row = [] ∧ RG (bCols (tiOf ch)) ch.row.row) ∨ (ch.kind = 2 ∧ ch.row.row = [] ∧ ch.key.row = ik (kkOf ch : Int) ∧ kkOf ch < 8)
def stepB (ch : ChM) (R : Nat → List Row) : Nat → List Row := stepR ch (tiOf ch) (kkOf ch) R
def stopB (ch : ChM) (R : Nat → List Row) : Prop := stopR ch (tiOf ch) (kkOf ch) R
instance (ch : ChM) (R : Nat → List Row) : Decidable (stopB ch R) := by unfold stopB stopR; infer_instance
theorem BU.step {R : Nat → List Row} (h : BU R) {ch : ChM} (hf : FitB ch) : BU (stepB ch R) := by
  rcases hf.fit with ⟨hk, -, hr⟩ | ⟨hk, -, -, -⟩
  · have h1 := h.up hr
    have e : stepB ch R = upB R (tiOf ch) ch.row.row := by
      unfold stepB stepR upB newR kkOf
      rw [if_pos hk, if_pos hk]
    rwa [e]
  · have h1 := h.dl (tiOf ch) (kkOf ch)
    have e : stepB ch R = dlB R (tiOf ch) (kkOf ch) := by
      unfold stepB stepR dlB newR
      rw [if_neg (by omega)]
    rwa [e]
/-- The changes, one after the other. -/
def runB : List ChM → (Nat → List Row) → Option (Nat → List Row)
  | [], R => some R
  | ch :: cs, R => if stopB ch R then none else runB cs (stepB ch R)
def stN : List ChM → (Nat → List Row) → Nat
  | [], _ => 0
  | ch :: cs, R => if stopB ch R then 0 else stN cs (stepB ch R) + 1
def rowsK : List ChM → (Nat → List Row) → Nat → (Nat → List Row)
  | _, R, 0 => R
  | [], R, _ + 1 => R
  | ch :: cs, R, k + 1 => rowsK cs (stepB ch R) k
theorem rowsK_bu : ∀ (chs : List ChM) (R : Nat → List Row) (k : Nat), BU R → (∀ ch ∈ chs, FitB ch) → BU (rowsK chs R k)
  | [], _, 0, h, _ => h
  | _ :: _, _, 0, h, _ => h
  | [], _, _ + 1, h, _ => h
  | ch :: cs, R, k + 1, h, hf => rowsK_bu cs (stepB ch R) k (h.step (hf ch (by simp))) fun x hx => hf x (by simp [hx])
theorem stN_le : ∀ (chs : List ChM) (R : Nat → List Row), stN chs R ≤ chs.length
  | [], _ => Nat.le_refl _
  | ch :: cs, R => by
    unfold stN
    by_cases h : stopB ch R
    · rw [if_pos h]; exact Nat.zero_le _
    · rw [if_neg h]
      have := stN_le cs (stepB ch R)
      rw [List.length_cons]
      omega
theorem rowsK_step : ∀ (chs : List ChM) (R : Nat → List Row) (k : Nat) (hk : k < chs.length), rowsK chs R (k + 1) = stepB chs[k] (rowsK chs R k)
  | [], _, _, hk => absurd hk (Nat.not_lt_zero _)
  | ch :: cs, R, 0, _ => by
    cases cs <;> rfl
  | ch :: cs, R, k + 1, hk => by
    have hk' : k < cs.length := by rw [List.length_cons] at hk; omega
    show rowsK cs (stepB ch R) (k + 1) = stepB (cs[k]'hk') (rowsK cs (stepB ch R) k)
    exact rowsK_step cs (stepB ch R) k hk'
theorem stN_spec : ∀ (chs : List ChM) (R : Nat → List Row) (k : Nat) (hk : k < chs.length), k ≤ stN chs R → (k < stN chs R ∧ ¬ stopB chs[k] (rowsK chs R k)) ∨ (k = stN chs R ∧ stopB chs[k] (rowsK chs R k))
  | [], _, _, hk, _ => absurd hk (Nat.not_lt_zero _)
  | ch :: cs, R, 0, _, _ => by
    show (0 < stN (ch :: cs) R ∧ ¬ stopB ch R) ∨ (0 = stN (ch :: cs) R ∧ stopB ch R)
    unfold stN
    by_cases h : stopB ch R
    · rw [if_pos h]; exact .inr ⟨rfl, h⟩
    · rw [if_neg h]; exact .inl ⟨Nat.succ_pos _, h⟩
  | ch :: cs, R, k + 1, hk, hle => by
    have hk' : k < cs.length := by rw [List.length_cons] at hk; omega
    unfold stN at hle ⊢
    by_cases h : stopB ch R
    · rw [if_pos h] at hle; exact absurd hle (Nat.not_succ_le_zero _)
    · rw [if_neg h] at hle ⊢
      rcases stN_spec cs (stepB ch R) k hk' (by omega) with h1 | h1
      · exact .inl ⟨by omega, h1.2⟩
      · exact .inr ⟨by omega, h1.2⟩
theorem runB_eq : ∀ (chs : List ChM) (R : Nat → List Row), runB chs R = if stN chs R = chs.length then some (rowsK chs R chs.length) else none
  | [], R => rfl
  | ch :: cs, R => by
    have ih := runB_eq cs (stepB ch R)
    unfold runB stN
    by_cases h : stopB ch R
    · rw [if_pos h, if_pos h, if_neg (by simp)]
    · rw [if_neg h, if_neg h, ih, List.length_cons]
      by_cases h2 : stN cs (stepB ch R) = cs.length
      · rw [if_pos h2, if_pos (by omega)]; rfl
      · rw [if_neg h2, if_neg (by omega)]

/-- An instance of the base schema in memory. -/
def InB (R : Nat → List Row) (W : World) (v : Value) : Prop :=
  ∃ A c A0 c0 k0 A1 c1 k1, v = .slice A 2 c ∧ InOk (· < W.heap.size) W A [⟨nItem, A0, c0, k0⟩, ⟨nOrder, A1, c1, k1⟩] ∧ k0.map Key.row = R 0 ∧ k1.map Key.row = R 1
theorem InB.on {R : Nat → List Row} {W W' : World} {v : Value} (h : InB R W v) (hb : Below W.heap.size W W') : InB R W' v := by
  obtain ⟨A, c, A0, c0, k0, A1, c1, k1, h1, h2, h3⟩ := h
  exact ⟨A, c, A0, c0, k0, A1, c1, k1, h1, h2.on hb, h3⟩
theorem inB_of {R : Nat → List Row} {W : World} {g : Nat} {v0 v1 : Value} (hI : IsB g v0 v1 W) (h0 : SrtAt (R 0) (But g W) W v0) (h1 : SrtAt (R 1) (But g W) W v1) :
    ∃ R', InB R' W (.slice (some ⟨g, 0, none⟩) 2 2) ∧ (∀ i, i < 2 → (R' i).Perm (R i)) ∧ ∀ i, i < 2 → SrtR [0] (R' i) := by
  obtain ⟨A0, c0, k0, rfl, p0, s0, r0⟩ := h0
  obtain ⟨A1, c1, k1, rfl, p1, s1, r1⟩ := h1
  have hg : g < W.heap.size := (Array.getElem?_eq_some_iff.1 hI).1
  refine ⟨fun i => if i = 0 then k0.map Key.row else k1.map Key.row, ⟨some ⟨g, 0, none⟩, 2, A0, c0, k0, A1, c1, k1, rfl, ⟨?_, fun r hr => ?_⟩, rfl, rfl⟩, fun i hi => ?_, fun i hi => ?_⟩
  · have h : Elems 2 RelM.cs W (fun x => x = g) (some ⟨g, 0, none⟩) [⟨nItem, A0, c0, k0⟩, ⟨nOrder, A1, c1, k1⟩] := elems_block relLay hI rfl (by show 2 ≤ maxLen; decide) rfl
    exact h.more fun x hx => by rw [hx]; exact hg
  · simp only [List.mem_cons, List.not_mem_nil, or_false] at hr
    rcases hr with rfl | rfl
    · exact r0.more fun x hx => hx.1
    · exact r1.more fun x hx => hx.1
  · have : i = 0 ∨ i = 1 := by omega
    rcases this with rfl | rfl
    · exact p0
    · exact p1
  · have : i = 0 ∨ i = 1 := by omega
    rcases this with rfl | rfl
    · exact s0
    · exact s1
/-- The schema's tables are the base schema's. -/
def SB (s : Sc) : Prop := ∃ IA IP OA OP, s.tabs = [bItem IA IP, bOrder OA OP]
theorem tabI_nTab {ti : Nat} (h : ti < 2) (IA IP OA OP : Option Addr) : tabI (nTab ti) [bItem IA IP, bOrder OA OP] = (ti : Int) := by
  have : ti = 0 ∨ ti = 1 := by omega
  rcases this with rfl | rfl
  · exact bSc_item (T := none) (IA := IA) (IP := IP) (OA := OA) (OP := OP) (F := none) (FC := none) (N := none)
  · exact bSc_order (T := none) (IA := IA) (IP := IP) (OA := OA) (OP := OP) (F := none) (FC := none) (N := none)
theorem FitB.stepF {s : Sc} {ch : ChM} (hs : SB s) (h : FitB ch) : StepF s ch (tiOf ch) (kkOf ch) := by
  obtain ⟨IA, IP, OA, OP, ht⟩ := hs
  obtain ⟨TA, tc, tabs, FA, fc, fks, NA, nc, cns⟩ := s
  simp only at ht
  subst ht
  obtain ⟨⟨hn, ht2⟩, hfit⟩ := h
  have hcols : ∀ (i : Nat) (hi : i < 2), ([bItem IA IP, bOrder OA OP][i]'hi).cols = bCols i ∧ ([bItem IA IP, bOrder OA OP][i]'hi).pk = [0] ∧ ([bItem IA IP, bOrder OA OP][i]'hi).cols.length ≤ 1000 := fun i hi => by
    rcases i with _ | _ | i
    · exact ⟨rfl, rfl, by show 4 ≤ 1000; omega⟩
    · exact ⟨rfl, rfl, by show 3 ≤ 1000; omega⟩
    · omega
  have hkey : ∀ (i : Nat) (hi : i < 2) (d : Nat), d < 8 → KeyC ([bItem IA IP, bOrder OA OP][i]'hi) (ik (d : Int)) := fun i hi d hd => by
    have hk : ∀ t : Tbl, t.pk = [0] → (∃ c cs, t.cols = c :: cs ∧ c.kind = 1) → KeyC t (ik (d : Int)) := fun t h1 ⟨c, cs, h2, h3⟩ => by
      refine ⟨by rw [h1]; rfl, fun v hv => ?_, ?_⟩
      · simp only [ik, List.mem_cons, List.not_mem_nil, or_false] at hv
        subst hv
        exact dErr (by omega)
      · intro j hj hj'
        have hj : j < 1 := hj
        obtain rfl : j = 0 := by omega
        refine ⟨by simp [h1], by simp [h1, h2], ?_⟩
        simp [h1, h2, h3, ik]
    rcases i with _ | _ | i
    · exact hk _ rfl ⟨_, _, rfl, rfl⟩
    · exact hk _ rfl ⟨_, _, rfl, rfl⟩
    · omega
  obtain ⟨hc1, hc2, hc3⟩ := hcols (tiOf ch) ht2
  refine ⟨ht2, ⟨ht2, by rw [hn]; rw [tiOf_tab ht2 hn]; exact tabI_nTab ht2 _ _ _ _, ⟨hc3, by show _ ≤ 12; rw [hc2]; decide⟩, ?_⟩, hn, ?_, ?_⟩
  · rcases hfit with ⟨hk, hkey', hr⟩ | ⟨hk, hrow, hkr, hd⟩
    · exact .inl ⟨hk, by rw [hkey']; rfl, by show RowC ([bItem IA IP, bOrder OA OP][tiOf ch]'ht2).cols _; rw [hc1]; exact hr.fit⟩
    · exact .inr ⟨hk, by rw [hrow]; rfl, by rw [hkr]; exact hkey (tiOf ch) ht2 _ hd⟩
  · rcases hfit with ⟨hk, -, hr⟩ | ⟨-, -, -, hd⟩
    · have := hr.dig
      unfold kkOf
      rw [if_pos hk]
      omega
    · omega
  · rcases hfit with ⟨hk, -, hr⟩ | ⟨hk, -, hkr, -⟩
    · refine .inl ⟨hk, ?_⟩
      unfold kkOf
      rw [if_pos hk]
      exact hr.key
    · exact .inr ⟨hk, hkr⟩

theorem rApplyB (s : Sc) (v : Value) (CA : Option Addr) (cc : Nat) (chs : List ChM) (R0 : Nat → List Row) (w : World) (hs : ScOk (· < w.heap.size) w s) (hsb : SB s)
    (hVS : ∀ W, Below w.heap.size w W → Calls Tryz.prog 27 #[s.v] W fun e w' => e = .returned (.int .i64 0) ∧ Below W.heap.size W w')
    (hi : InB R0 w v) (hR : BG R0) (hch : Elems 4 ChM.cs w (· < w.heap.size) CA chs) (hco : ∀ ch ∈ chs, ChOk (· < w.heap.size) w ch) (hm : chs.length ≤ 24) (hf : ∀ ch ∈ chs, FitB ch) :
    Calls Tryz.prog 11 #[s.v, v, .slice CA chs.length cc] w fun e w' => Below w.heap.size w w' ∧ ((∃ R' Rs v', runB chs R0 = some R' ∧ e = .returned (.tuple #[v', .int .i64 0]) ∧ InB Rs w' v' ∧ BG Rs ∧ ∀ i, i < 2 → (Rs i).Perm (R' i)) ∨ (runB chs R0 = none ∧ e = .returned (.tuple #[.slice none 0 0, .int .i64 9]))) := by
  obtain ⟨A, c, A0, c0, k0, A1, c1, k1, rfl, hin, e0, e1⟩ := hi
  have hinC : InC s.tabs [⟨nItem, A0, c0, k0⟩, ⟨nOrder, A1, c1, k1⟩] := by
    obtain ⟨IA, IP, OA, OP, ht⟩ := hsb
    rw [ht]
    exact hR.inC e0 e1
  have htl : s.tabs.length = 2 := by obtain ⟨IA, IP, OA, OP, ht⟩ := hsb; rw [ht]; rfl
  have hnm : ∀ i (h : i < s.tabs.length), s.tabs[i].name = nTab i := by
    obtain ⟨IA, IP, OA, OP, ht⟩ := hsb
    intro i h
    have h2 : i < 2 := by omega
    simp only [ht]
    rcases i with _ | _ | i
    · rfl
    · rfl
    · omega
  have hpk : ∀ t ∈ s.tabs, t.pk = [0] := by
    obtain ⟨IA, IP, OA, OP, ht⟩ := hsb
    intro t h
    rw [ht] at h
    simp only [List.mem_cons, List.not_mem_nil, or_false] at h
    rcases h with rfl | rfl <;> rfl
  have hbu := fun k => rowsK_bu chs R0 k hR.bu hf
  refine (rApply s A0 c0 k0 A1 c1 k1 A c CA cc chs (rowsK chs R0) w hs htl hnm hpk hVS hin hinC hch hco hm (stN chs R0) (stN_le _ _) (by rw [e0]; cases chs <;> rfl) (by rw [e1]; cases chs <;> rfl) (fun k hk hks => ?_) (fun k _ i hi => ⟨(hbu k).digs hi, by have := (hbu k).len hi; omega⟩)).mono ?_
  · refine ⟨tiOf chs[k], kkOf chs[k], (hf _ (List.getElem_mem hk)).stepF hsb, ?_⟩
    rcases stN_spec chs R0 k hk hks with ⟨h1, h2⟩ | ⟨h1, h2⟩
    · exact .inl ⟨h1, rowsK_step chs R0 k hk, h2⟩
    · exact .inr ⟨h1, h2⟩
  · rintro e w' ⟨hb, ⟨hst, g, v0, v1, rfl, -, hI, h0, h1⟩ | ⟨hst, rfl⟩⟩
    · obtain ⟨Rs, hin', hp, hsr⟩ := inB_of hI h0 h1
      refine ⟨hb, .inl ⟨rowsK chs R0 chs.length, Rs, _, by rw [runB_eq, if_pos hst], rfl, hin', (hbu (stN chs R0)).sorted hp hsr, fun i hi => ?_⟩⟩
      rw [← hst]
      exact hp i hi
    · exact ⟨hb, .inr ⟨by rw [runB_eq, if_neg (by omega)], rfl⟩⟩
end Go.Proofs.YtefifkleamiabaaGreatDoor

namespace Go.Proofs.YtefifkleamiabaaGreatDoor
open Go.RowKit Go.Sort

theorem c1_ge (x y : Int) : 0 ≤ c1 x y ↔ y ≤ x := by
  unfold c1
  by_cases h : x < y
  · rw [if_pos h]; omega
  · rw [if_neg h]
    by_cases h2 : y < x
    · rw [if_pos h2]; omega
    · rw [if_neg h2]; omega
theorem c1_zero (x y : Int) : c1 x y = 0 ↔ x = y := by
  unfold c1
  by_cases h : x < y
  · rw [if_pos h]; omega
  · rw [if_neg h]
    by_cases h2 : y < x
    · rw [if_pos h2]; omega
    · rw [if_neg h2]; omega
theorem rff_srt {cols : List Col} (x : Nat) : ∀ (rows : List Row), (∀ r ∈ rows, RG cols r) → SrtS rows → rff [0] (ik (x : Int)) rows = rows.any fun r => decide (dgK [0] r = x)
  | [], _, _ => rfl
  | r :: rs, hr, hs => by
    have ih := rff_srt x rs (fun y hy => hr y (by simp [hy])) (List.pairwise_cons.1 hs).2
    have hk := (hr r (by simp)).key
    rw [List.any_cons]
    by_cases hp : 0 ≤ cmpR (keyOf [0] r) (ik (x : Int))
    · have h0 : rff [0] (ik (x : Int)) (r :: rs) = decide (cmpR (keyOf [0] r) (ik (x : Int)) = 0) := by
        unfold rff rfi
        rw [List.findIdx_cons, decide_eq_true hp]
        rfl
      rw [hk, cmpR_ik, c1_ge] at hp
      rw [h0, hk, cmpR_ik]
      by_cases he : dgK [0] r = x
      · rw [decide_eq_true ((c1_zero _ _).2 (by omega)), decide_eq_true he]
        rfl
      · rw [decide_eq_false (fun h => he (by have := (c1_zero _ _).1 h; omega)), decide_eq_false he, Bool.false_or]
        symm
        rw [List.any_eq_false]
        intro y hy
        have := (List.pairwise_cons.1 hs).1 y hy
        simp only [decide_eq_true_eq]
        omega
    · have h0 : rff [0] (ik (x : Int)) (r :: rs) = rff [0] (ik (x : Int)) rs := by
        unfold rff rfi
        rw [List.findIdx_cons, decide_eq_false hp]
        rfl
      rw [h0, ih]
      rw [hk, cmpR_ik, c1_ge] at hp
      rw [decide_eq_false (by omega), Bool.false_or]

end Go.Proofs.YtefifkleamiabaaGreatDoor
