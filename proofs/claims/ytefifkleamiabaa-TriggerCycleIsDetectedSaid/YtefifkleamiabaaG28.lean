/-
  The walk of (*executor).apply at the greatest depth, and so at depth 0; the walk of trigger.Expand.
-/
import Derived.Test.YtefifkleamiabaaG27
namespace Go.Proofs.Ytefifkleamiabaa
open Go.RowKit Go.Sort

set_option maxRecDepth 100000 in
set_option maxHeartbeats 8000000 in
theorem applyEnd {B px : Nat} {s : Sc} {TA RA RB AA AB : Option Addr} {tc ac : Nat} {a b : Int} (hs : BsS s a b) : ApH B px s TA tc [tRem RA RB, tAdd AA AB ac] a b 2 7 := by
  intro ch IA ic rs va qs w h
  have hck := h.ck
  have hcn := h.cn
  have hkl : ch.key.row.length = 1 := by rcases h.cd with ⟨h1, h2, h3⟩ | ⟨h1, h2, h3⟩ <;> first | (exact absurd h1 (by decide)) | (rw [h2]; rfl)
  have hrl : ch.row.row.length = 0 := by rcases h.cd with ⟨h1, h2, h3⟩ | ⟨h1, h2, h3⟩ <;> first | (exact absurd h1 (by decide)) | (rw [h3]; rfl)
  obtain ⟨w1, hw1⟩ : ∃ w1, w1 = w.alloc (.cells ch.cells 50) := ⟨_, rfl⟩
  have hb1 : Below w.heap.size w w1 := by rw [hw1]; exact (Below.refl _ _).alloc (Nat.le_refl _) _
  have hg1 : w1.heap[w.heap.size]? = some (.cells ch.cells 50 (0, 0)) := by rw [hw1]; exact heap_alloc_new w _
  have hs1 : w.heap.size < w1.heap.size := by rw [hw1]; simp
  have HCB : Hid (∀ W, Below w1.heap.size w1 W → W.cell? ⟨w.heap.size, 0, none⟩ = some (.int .i64 2) ∧ W.cell? ⟨w.heap.size, 1, none⟩ = some (.string nItem) ∧ W.cell? ⟨w.heap.size, 2, none⟩ = some (.slice ch.key.A 1 ch.key.c) ∧ W.cell? ⟨w.heap.size, 3, none⟩ = some (.slice ch.row.A 0 ch.row.c)) := Lib.hid fun W hW => by
    have hW := CB4.of ((hW.block _ hs1).trans hg1)
    unfold CB4 at hW
    rw [hck, hcn, hkl, hrl] at hW
    exact hW
  have HCU := Lib.hid fun W (hW : Below w.heap.size w W) => (h.currentD hs hW)
  have HBB : Hid (B ≤ w.heap.size) := Lib.hid (Nat.le_trans h.x.hB (Nat.le_of_lt h.x.lt))
  have HB1 := Lib.hid hb1
  have HW1 := Lib.hid hw1
  obtain ⟨k0, k1, k2, k3⟩ := HCB.out w1 (Below.refl _ _)
  unfold ChM.cells at HW1 HCU ⊢
  rw [hck, hcn, hkl, hrl] at HW1 HCU ⊢
  clear h hck hcn hkl hrl hb1 hg1 hs1 hw1 hs
  go_enter Try.func12, Try.ntmps12
  go_upto_region 1 with fail
  rw [← HW1.out]
  go_wp2_with fail
  refine (HCU.out w1 HB1.out).mono ?_
  rintro e w2 ⟨⟨oA, oc, rfl, hoA, -⟩, hb2⟩
  obtain ⟨oa, rfl⟩ := hoA
  have hEN : ∀ W, (binOp .eql 23 (.slice (some oa) 4 oc) (.slice none 0 0)).run Try.prog W = .ok (.bool false) W := fun W => Lib.run_eql_slice_nil W _ _ _ _ _ _ _ Try.underlying23
  have HB2 := Lib.hid (And.intro hb2 (HB1.out.trans (hb2.mono HB1.out.size)))
  clear hb2 k0 k1 k2 k3 HCU
  obtain ⟨k0, k1, k2, k3⟩ := HCB.out w2 HB2.out.1
  go_wp2_with fail
  go_ret
  exact ⟨rfl, HB2.out.2.mono HBB.out⟩

theorem applyAll {B px : Nat} {s : Sc} {TA RA RB AA AB : Option Addr} {tc ac : Nat} {a b : Int} (hs : BsS s a b) : ApH B px s TA tc [tRem RA RB, tAdd AA AB ac] a b 1 0 :=
  applyUp hs (by omega) (applyDn hs (by omega) (applyUp hs (by omega) (applyDn hs (by omega) (applyUp hs (by omega) (applyDn hs (by omega) (applyUp hs (by omega) (applyEnd hs)))))))

/-- The executor is made. -/
def ExP (B : Nat) (s : Sc) (TA : Option Addr) (tc : Nat) (ts : List Tr) (a b : Int) (v13 : Value) (wx : World) : Prop :=
  ∃ px A4 c4 rs', v13 = ptr px ∧ XIn B px s TA tc ts A4 c4 rs' (.slice none 0 0) [] wx ∧ rs'.map RelM.d = iData false a b

set_option maxRecDepth 100000 in
set_option maxHeartbeats 8000000 in
theorem expandW (s : Sc) (a b : Int) (TA RA RB AA AB IA CA : Option Addr) (tc ac ic cc : Nat) (rs : List RelM) (ch : ChM) (w : World) (hs : BsS s a b) (hsc : ScOk (· < w.heap.size) w s) (htg : TgOk (· < w.heap.size) w TA [tRem RA RB, tAdd AA AB ac]) (htc : ∀ t ∈ [tRem RA RB, tAdd AA AB ac], TrC s t) (hin : InOk (· < w.heap.size) w IA rs) (hd : rs.map RelM.d = iData false a b)
    (hel : Elems 4 ChM.cs w (· < w.heap.size) CA [ch]) (hco : ChOk (· < w.heap.size) w ch) (hck : ch.kind = 1) (hcn : ch.name = nItem) (hkr : ch.key.row = []) (hrr : ch.row.row = iRow a b) :
    Calls Try.prog 6 #[s.v, .slice IA 2 ic, .slice TA 2 tc, .slice CA 1 cc] w fun e w' => e = .returned (.tuple #[.slice none 0 0, .slice none 0 0, .int .i64 14]) ∧ Below w.heap.size w w' := by
  have hrl : rs.length = 2 := by
    have h := congrArg List.length hd
    rwa [List.length_map] at h
  have hfit := hs.fit _ _ hd
  obtain ⟨w1, hw1⟩ : ∃ w1, w1 = w.alloc (.cells s.cells 39) := ⟨_, rfl⟩
  have hb1 : Below w.heap.size w w1 := by rw [hw1]; exact (Below.refl _ _).alloc (Nat.le_refl _) _
  have hg1 : w1.heap[w.heap.size]? = some (.cells s.cells 39 (0, 0)) := by rw [hw1]; exact heap_alloc_new w _
  have hs1 : w.heap.size < w1.heap.size := by rw [hw1]; simp
  have HBK : Hid (∀ W, Below w1.heap.size w1 W → W.cell? ⟨w.heap.size, 0, none⟩ = some (.slice s.TA s.tabs.length s.tc) ∧ W.cell? ⟨w.heap.size, 1, none⟩ = some (.slice s.FA s.fks.length s.fc) ∧ W.cell? ⟨w.heap.size, 2, none⟩ = some (.slice s.NA s.cns.length s.nc)) := Lib.hid fun W hW => by
    have h0 := (hW.block w.heap.size hs1).trans hg1
    unfold Sc.cells at h0
    exact ⟨cell_of_row _ _ 0 _ _ _ h0, cell_of_row _ _ 1 _ _ _ h0, cell_of_row _ _ 2 _ _ _ h0⟩
  have HCT := Lib.hid fun W (hW : Below w.heap.size w W) => checkTriggers s TA tc [tRem RA RB, tAdd AA AB ac] W (hsc.on hW) hs.val (htg.on hW) htc (by show 2 ≤ 8; omega)
  have HCF := Lib.hid fun W (hW : Below w.heap.size w W) => conforms s IA ic rs W (hsc.on hW) (hin.on hW) hfit
  have HCL : Hid (∀ W, Below w.heap.size w W → Calls Try.prog 11 #[.slice IA 2 ic] W fun e w4 => ∃ A4 c4, e = .returned (.slice A4 2 c4) ∧ Below W.heap.size W w4 ∧ Hid (ExP w.heap.size s TA tc [tRem RA RB, tAdd AA AB ac] a b (ptr w4.heap.size) (w4.alloc (.cells #[.slice s.TA s.tabs.length s.tc, .slice s.FA s.fks.length s.fc, .slice s.NA s.cns.length s.nc, .slice TA 2 tc, .slice A4 2 c4, .slice none 0 0] 68)))) := Lib.hid fun W hW => by
    have h := instClone IA ic rs W (hin.on hW) (by omega) (fun r hr => by
      obtain ⟨j, hj, rfl⟩ := List.getElem_of_mem hr
      have := (hfit.rel j hj (by rw [← hfit.len]; exact hj)).len
      omega)
    rw [hrl] at h
    refine h.mono ?_
    rintro e w4 ⟨v4, rs', rfl, ho⟩
    have hl' : rs'.length = 2 := by
      have h := congrArg List.length ho.dat
      rwa [List.length_map, List.length_map, hrl] at h
    obtain ⟨A4, c4, rfl, -, -⟩ := ho.own.form
    rw [hl'] at ho ⊢
    refine ⟨A4, c4, rfl, ho.bel, Lib.hid ⟨_, A4, c4, rs', rfl, ?_, ho.dat.trans hd⟩⟩
    obtain ⟨w5, hw5⟩ : ∃ w5, w5 = w4.alloc (.cells #[.slice s.TA s.tabs.length s.tc, .slice s.FA s.fks.length s.fc, .slice s.NA s.cns.length s.nc, .slice TA 2 tc, .slice A4 2 c4, .slice none 0 0] 68) := ⟨_, rfl⟩
    have hb5 : Below w4.heap.size w4 w5 := by rw [hw5]; exact (Below.refl _ _).alloc (Nat.le_refl _) _
    have hg5 : w5.heap[w4.heap.size]? = some (.cells #[.slice s.TA s.tabs.length s.tc, .slice s.FA s.fks.length s.fc, .slice s.NA s.cns.length s.nc, .slice TA 2 tc, .slice A4 2 c4, .slice none 0 0] 68 (0, 0)) := by rw [hw5]; exact heap_alloc_new w4 _
    rw [← hw5]
    have hbW := hW.trans (ho.bel.mono hW.size)
    have hb05 := hbW.trans (hb5.mono hbW.size)
    refine ⟨hbW.size, ?_, hsc.keep (Keeps.of_below hb05 fun _ h => h), htg.keep (Keeps.of_below hb05 fun _ h => h), ?_, Own.nil _, by intro h; cases h⟩
    · unfold exC
      rw [hl']
      exact hg5
    · have hi : InOk (· < w4.heap.size) w4 A4 rs' := ho.inOk
      have hs5 := hb5.size
      have hlt : w4.heap.size < w5.heap.size := by rw [hw5]; simp
      exact (hi.keep (Keeps.of_below hb5 fun _ h => h)).more fun g hg => ⟨by omega, by omega, by intro h; cases h⟩
  have HCC := Lib.hid fun W (hW : Below w.heap.size w W) => cloneChange ch W (hco.on hW)
  have HEL := Lib.hid hel
  have HDT := Lib.hid (And.intro hck (And.intro hcn (And.intro hkr hrr)))
  have HAA : Hid (∀ px, ApH w.heap.size px s TA tc [tRem RA RB, tAdd AA AB ac] a b 1 0) := Lib.hid fun px => applyAll hs
  have HB1 := Lib.hid hb1
  have HW1 := Lib.hid hw1
  rw [hrl] at HCF
  obtain ⟨c0, c1, c2⟩ := HBK.out w1 (Below.refl _ _)
  unfold Sc.cells at HW1
  unfold Sc.v Sc.cells at HCT HCF ⊢
  unfold ChM.cells at HCC
  rw [hck, hcn, hkr, hrr] at HCC
  clear hs hsc htg htc hin hd hel hco hck hcn hkr hrr hrl hfit hb1 hg1 hs1 hw1
  go_enter Try.func6, Try.ntmps6
  go_upto_region 1 with fail
  rw [← HW1.out]
  go_wp2_with fail
  refine (HCT.out w1 HB1.out).mono ?_
  rintro e w2 ⟨rfl, hb2⟩
  have HB2 := Lib.hid (And.intro hb2 (HB1.out.trans (hb2.mono HB1.out.size)))
  clear hb2 c0 c1 c2 HCT
  obtain ⟨c0, c1, c2⟩ := HBK.out w2 HB2.out.1
  go_wp2_with fail
  refine (HCF.out w2 HB2.out.2).mono ?_
  rintro e w3 ⟨rfl, hb3⟩
  have HB3 := Lib.hid (And.intro (HB2.out.1.trans (hb3.mono HB2.out.1.size)) (HB2.out.2.trans (hb3.mono HB2.out.2.size)))
  clear hb3 c0 c1 c2 HCF
  obtain ⟨c0, c1, c2⟩ := HBK.out w3 HB3.out.1
  go_upto_region 7 with fail
  go_cut [13] from 29 to 34 (fun v13 wx => ExP w.heap.size s TA tc [tRem RA RB, tAdd AA AB ac] a b v13 wx ∧ Below w.heap.size w wx)
  case first =>
    have HC4 : Hid (∀ m, Calls Try.prog 11 #[.slice IA 2 ic] (w3.drewN m) fun e w4 => ∃ A4 c4, e = .returned (.slice A4 2 c4) ∧ (w4.cell? ⟨w.heap.size, 0, none⟩ = some (.slice s.TA s.tabs.length s.tc) ∧ w4.cell? ⟨w.heap.size, 1, none⟩ = some (.slice s.FA s.fks.length s.fc) ∧ w4.cell? ⟨w.heap.size, 2, none⟩ = some (.slice s.NA s.cns.length s.nc))
        ∧ Hid (Below w.heap.size w w4) ∧ Hid (∀ o, (w4.alloc o).cell? ⟨w.heap.size, 0, none⟩ = some (.slice s.TA s.tabs.length s.tc) ∧ (w4.alloc o).cell? ⟨w.heap.size, 1, none⟩ = some (.slice s.FA s.fks.length s.fc) ∧ (w4.alloc o).cell? ⟨w.heap.size, 2, none⟩ = some (.slice s.NA s.cns.length s.nc))
        ∧ Hid (ExP w.heap.size s TA tc [tRem RA RB, tAdd AA AB ac] a b (ptr w4.heap.size) (w4.alloc (.cells #[.slice s.TA s.tabs.length s.tc, .slice s.FA s.fks.length s.fc, .slice s.NA s.cns.length s.nc, .slice TA 2 tc, .slice A4 2 c4, .slice none 0 0] 68)))) := Lib.hid fun m => by
      have hd : Below w3.heap.size w3 (w3.drewN m) := below_drewN (Below.refl _ _) m
      refine (HCL.out (w3.drewN m) (HB3.out.2.trans (hd.mono HB3.out.2.size))).mono ?_
      rintro e w4 ⟨A4, c4, rfl, hb4, hex⟩
      have hb34 := hd.trans hb4
      have h14 := HB3.out.1.trans (hb34.mono HB3.out.1.size)
      exact ⟨A4, c4, rfl, HBK.out w4 h14, Lib.hid (HB3.out.2.trans (hb34.mono HB3.out.2.size)), Lib.hid fun o => HBK.out _ (h14.alloc h14.size o), hex⟩
    clear HCL
    go_region_held3 (fun W => W.cell? ⟨w.heap.size, 0, none⟩ = some (.slice s.TA s.tabs.length s.tc) ∧ W.cell? ⟨w.heap.size, 1, none⟩ = some (.slice s.FA s.fks.length s.fc) ∧ W.cell? ⟨w.heap.size, 2, none⟩ = some (.slice s.NA s.cns.length s.nc)) (first | exact ⟨c0, c1, c2⟩ | exact s4 | exact HSA.out _)
      (first
      | (go_at_call 11; refine (HC4.out 1).mono ?_; rintro e w4 ⟨A4, c4, rfl, s4, HB4, HSA, HEX⟩))
    all_goals
      clear s4
      go_wp2_with fail
      go_meet
      exact ⟨HEX.out, HB4.out.alloc HB4.out.size _⟩
  case rest =>
    obtain ⟨⟨px, A4, c4, rs', rfl, hx, hd4⟩, hb5⟩ := hcut
    obtain ⟨w5, rfl⟩ : ∃ w5, w5 = wc := ⟨_, rfl⟩
    have HX := Lib.hid (And.intro hx hd4)
    have HB5 := Lib.hid hb5
    clear hx hd4 hb5 c0 c1 c2 HCL
    go_wp2_with fail
    go_loopw [37] (fun vi wr => vi = .int .i64 0 ∧ w5 = wr) (fun _ _ => 0)
    case atStart => exact ⟨rfl, rfl⟩
    case round =>
      obtain ⟨rfl, rfl⟩ := hrel
      obtain ⟨b1, off, rfl, -, e0, e1, e2, e3⟩ := (HEL.out.on HB5.out).chm
      rw [HDT.out.1] at e0
      rw [HDT.out.2.1] at e1
      rw [HDT.out.2.2.1] at e2
      rw [HDT.out.2.2.2] at e3
      replace e2 : w5.cell? ⟨b1, off + 2, none⟩ = some (.slice ch.key.A 0 ch.key.c) := e2
      replace e3 : w5.cell? ⟨b1, off + 3, none⟩ = some (.slice ch.row.A 4 ch.row.c) := e3
      obtain ⟨w6, hw6⟩ : ∃ w6, w6 = w5.alloc (.cells #[.int .i64 1, .string nItem, .slice ch.key.A 0 ch.key.c, .slice ch.row.A 4 ch.row.c] 50) := ⟨_, rfl⟩
      have hb6 : Below w5.heap.size w5 w6 := by rw [hw6]; exact (Below.refl _ _).alloc (Nat.le_refl _) _
      have hg6 : w6.heap[w5.heap.size]? = some (.cells #[.int .i64 1, .string nItem, .slice ch.key.A 0 ch.key.c, .slice ch.row.A 4 ch.row.c] 50 (0, 0)) := by rw [hw6]; exact heap_alloc_new w5 _
      have k0 := cell_of_row _ _ 0 _ _ _ hg6
      have k1 := cell_of_row _ _ 1 _ _ _ hg6
      have k2 := cell_of_row _ _ 2 _ _ _ hg6
      have k3 := cell_of_row _ _ 3 _ _ _ hg6
      have hb06 := HB5.out.trans (hb6.mono HB5.out.size)
      have HCH : Hid (Calls Try.prog 13 #[.agg #[.int .i64 1, .string nItem, .slice ch.key.A 0 ch.key.c, .slice ch.row.A 4 ch.row.c]] w6 fun e w7 => ∃ ch', e = .returned (.agg ch') ∧ Hid (Calls Try.prog 12 #[ptr px, .agg ch', .int .i64 0] w7 fun e w' => e = .returned (.int .i64 14) ∧ Below w.heap.size w w')) := Lib.hid (by
        refine (HCC.out w6 hb06).mono ?_
        rintro e w7 ⟨ch', rfl, q1, q2, q3, q4, q5, hb7⟩
        have hb57 := hb6.trans (hb7.mono hb6.size)
        refine ⟨ch'.cells, rfl, Lib.hid ?_⟩
        have hpx := HX.out.1.lt
        have hs6 := hb6.size
        have h := HAA.out px ch' _ _ _ _ _ w7 ⟨HX.out.1.below hb57, HX.out.2, Nat.le_refl _, q5.more fun g hg => ⟨hg.2, by omega, by intro h; cases h⟩, q1, q2, .inl ⟨rfl, q3, q4⟩⟩
        refine Calls.mono h ?_
        rintro e w' ⟨rfl, hb⟩
        exact ⟨rfl, (HB5.out.trans (hb57.mono HB5.out.size)).trans hb⟩)
      have HW6 := Lib.hid hw6
      clear hw6 hb6 hg6 hb06 HCC
      go_upto_region 11 with fail
      rw [← HW6.out]
      go_wp2_with fail
      refine HCH.out.mono ?_
      rintro e w7 ⟨ch', rfl, HAP⟩
      go_wp2_with fail
      refine HAP.out.mono ?_
      rintro e w8 ⟨rfl, hb8⟩
      have HF := Lib.hid hb8
      clear hb8
      go_wp2_with fail
      go_ret3
      exact ⟨rfl, HF.out⟩
end Go.Proofs.Ytefifkleamiabaa
