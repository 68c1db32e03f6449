/-
  The walk of (*executor).apply at the greatest depth, and so at depth 0; the walk of trigger.Expand.
  The walks of Mod, itemRow, BaseSchema, EmptyInstance.
  The walks of strconv.Itoa at one digit, of sized and foreignKeyID.
  The walks of the reference's ValidateValue, ConformsRow, project, KeyOf, LessValue, CompareRows.
  Contracts of Go's library laid at this dump, in plain words (printed by the kit's lay-plain.mjs, one laying by hand; of the seat mig.ZD alone): strings.Builder, strings.Trim, strings.Contains.
-/
import Derived.Test.YtefifkleamiabaaGreatDoorVm09
import Derived.Test.YtefifkleamiabaaGreatDoorVm01
import Derived.Shelf.Strings.Builder1
import Derived.Shelf.Strings.SlTrimAscii
import Derived.Shelf.Strings.Search1
import Derived.Shelf.Strings.Search2
import Derived.Shelf.Strings.Search3
import Derived.Test.YtefifkleamiabaaGreatDoorProg
namespace Go.Proofs.YtefifkleamiabaaGreatDoor
open Go.RowKit Go.Sort

set_option maxRecDepth 100000 in
set_option maxHeartbeats 8000000 in
theorem applyEnd {B px : Nat} {s : Sc} {TA RA RB AA AB : Option Addr} {tc ac : Nat} {a b : Int} (hs : BsS s a b) : ApH B px s TA tc [tRem RA RB, tAdd AA AB ac] a b 2 7 := by
  intro ch IA ic rs va qs w h
  have hck := h.ck
  have hcn := h.cn
  have hkl : ch.key.row.length = 1 := by rcases h.cd with ⟨h1, h2, h3⟩ | ⟨h1, h2, h3⟩ <;> first | (exact absurd h1 (by decide)) | (rw [h2]; rfl)
  have hrl : ch.row.row.length = 0 := by rcases h.cd with ⟨h1, h2, h3⟩ | ⟨h1, h2, h3⟩ <;> first | (exact absurd h1 (by decide)) | (rw [h3]; rfl)
  obtain ⟨w1, hw1⟩ : ∃ w1, w1 = w.alloc (.cells ch.cells 51) := ⟨_, rfl⟩
  have hb1 : Below w.heap.size w w1 := by rw [hw1]; exact (Below.refl _ _).alloc (Nat.le_refl _) _
  have hg1 : w1.heap[w.heap.size]? = some (.cells ch.cells 51 (0, 0)) := by rw [hw1]; exact heap_alloc_new w _
  have hs1 : w.heap.size < w1.heap.size := by rw [hw1]; simp
  have HCB : Hid (∀ W, Below w1.heap.size w1 W → W.cell? ⟨w.heap.size, 0, none⟩ = some (.int .i64 2) ∧ W.cell? ⟨w.heap.size, 1, none⟩ = some (.string nItem) ∧ W.cell? ⟨w.heap.size, 2, none⟩ = some (.slice ch.key.A 1 ch.key.c) ∧ W.cell? ⟨w.heap.size, 3, none⟩ = some (.slice ch.row.A 0 ch.row.c)) := Lib.hid fun W hW => by
    have hW := CB4.of ((hW.block _ hs1).trans hg1)
    unfold CB4 at hW
    rw [hck, hcn, hkl, hrl] at hW
    exact hW
  have HCU := Lib.hid fun W (hW : Below w.heap.size w W) => (h.currentD hs hW)
  have HBB : Hid (B ≤ w.heap.size) := Lib.hid (Nat.le_trans h.x.hB (Nat.le_of_lt h.x.lt))
  have HB1 := Lib.hid hb1
  have HW1 := Lib.hid hw1
  obtain ⟨k0, k1, k2, k3⟩ := HCB.out w1 (Below.refl _ _)
  unfold ChM.cells at HW1 HCU ⊢
  rw [hck, hcn, hkl, hrl] at HW1 HCU ⊢
  clear h hck hcn hkl hrl hb1 hg1 hs1 hw1 hs
  go_enter Tryz.func40, Tryz.ntmps40
  go_upto_region 1 with fail
  rw [← HW1.out]
  go_wp2_with fail
  refine (HCU.out w1 HB1.out).mono ?_
  rintro e w2 ⟨⟨oA, oc, rfl, hoA, -⟩, hb2⟩
  obtain ⟨oa, rfl⟩ := hoA
  have hEN : ∀ W, (binOp .eql 48 (.slice (some oa) 4 oc) (.slice none 0 0)).run Tryz.prog W = .ok (.bool false) W := fun W => Lib.run_eql_slice_nil W _ _ _ _ _ _ _ Tryz.underlying48
  have HB2 := Lib.hid (And.intro hb2 (HB1.out.trans (hb2.mono HB1.out.size)))
  clear hb2 k0 k1 k2 k3 HCU
  obtain ⟨k0, k1, k2, k3⟩ := HCB.out w2 HB2.out.1
  go_wp2_with fail
  go_ret
  exact ⟨rfl, HB2.out.2.mono HBB.out⟩

theorem applyAll {B px : Nat} {s : Sc} {TA RA RB AA AB : Option Addr} {tc ac : Nat} {a b : Int} (hs : BsS s a b) : ApH B px s TA tc [tRem RA RB, tAdd AA AB ac] a b 1 0 :=
  applyUp hs (by omega) (applyDn hs (by omega) (applyUp hs (by omega) (applyDn hs (by omega) (applyUp hs (by omega) (applyDn hs (by omega) (applyUp hs (by omega) (applyEnd hs)))))))

/-- The executor is made. -/
def ExP (B : Nat) (s : Sc) (TA : Option Addr) (tc : Nat) (ts : List Tr) (a b : Int) (v13 : Value) (wx : World) : Prop :=
  ∃ px A4 c4 rs', v13 = ptr px ∧ XIn B px s TA tc ts A4 c4 rs' (.slice none 0 0) [] wx ∧ rs'.map RelM.d = iData false a b

set_option maxRecDepth 100000 in
set_option maxHeartbeats 8000000 in
theorem expandW (s : Sc) (a b : Int) (TA RA RB AA AB IA CA : Option Addr) (tc ac ic cc : Nat) (rs : List RelM) (ch : ChM) (w : World) (hs : BsS s a b) (hsc : ScOk (· < w.heap.size) w s) (htg : TgOk (· < w.heap.size) w TA [tRem RA RB, tAdd AA AB ac]) (htc : ∀ t ∈ [tRem RA RB, tAdd AA AB ac], TrC s t) (hin : InOk (· < w.heap.size) w IA rs) (hd : rs.map RelM.d = iData false a b)
    (hel : Elems 4 ChM.cs w (· < w.heap.size) CA [ch]) (hco : ChOk (· < w.heap.size) w ch) (hck : ch.kind = 1) (hcn : ch.name = nItem) (hkr : ch.key.row = []) (hrr : ch.row.row = iRow a b) :
    Calls Tryz.prog 12 #[s.v, .slice IA 2 ic, .slice TA 2 tc, .slice CA 1 cc] w fun e w' => e = .returned (.tuple #[.slice none 0 0, .slice none 0 0, .int .i64 14]) ∧ Below w.heap.size w w' := by
  have hrl : rs.length = 2 := by
    have h := congrArg List.length hd
    rwa [List.length_map] at h
  have hfit := hs.fit _ _ hd
  obtain ⟨w1, hw1⟩ : ∃ w1, w1 = w.alloc (.cells s.cells 27) := ⟨_, rfl⟩
  have hb1 : Below w.heap.size w w1 := by rw [hw1]; exact (Below.refl _ _).alloc (Nat.le_refl _) _
  have hg1 : w1.heap[w.heap.size]? = some (.cells s.cells 27 (0, 0)) := by rw [hw1]; exact heap_alloc_new w _
  have hs1 : w.heap.size < w1.heap.size := by rw [hw1]; simp
  have HBK : Hid (∀ W, Below w1.heap.size w1 W → W.cell? ⟨w.heap.size, 0, none⟩ = some (.slice s.TA s.tabs.length s.tc) ∧ W.cell? ⟨w.heap.size, 1, none⟩ = some (.slice s.FA s.fks.length s.fc) ∧ W.cell? ⟨w.heap.size, 2, none⟩ = some (.slice s.NA s.cns.length s.nc)) := Lib.hid fun W hW => by
    have h0 := (hW.block w.heap.size hs1).trans hg1
    unfold Sc.cells at h0
    exact ⟨cell_of_row _ _ 0 _ _ _ h0, cell_of_row _ _ 1 _ _ _ h0, cell_of_row _ _ 2 _ _ _ h0⟩
  have HCT := Lib.hid fun W (hW : Below w.heap.size w W) => checkTriggers s TA tc [tRem RA RB, tAdd AA AB ac] W (hsc.on hW) hs.val (htg.on hW) htc (by show 2 ≤ 8; omega)
  have HCF := Lib.hid fun W (hW : Below w.heap.size w W) => conforms s IA ic rs W (hsc.on hW) (hin.on hW) hfit
  have HCL : Hid (∀ W, Below w.heap.size w W → Calls Tryz.prog 39 #[.slice IA 2 ic] W fun e w4 => ∃ A4 c4, e = .returned (.slice A4 2 c4) ∧ Below W.heap.size W w4 ∧ Hid (ExP w.heap.size s TA tc [tRem RA RB, tAdd AA AB ac] a b (ptr w4.heap.size) (w4.alloc (.cells #[.slice s.TA s.tabs.length s.tc, .slice s.FA s.fks.length s.fc, .slice s.NA s.cns.length s.nc, .slice TA 2 tc, .slice A4 2 c4, .slice none 0 0] 96)))) := Lib.hid fun W hW => by
    have h := instClone IA ic rs W (hin.on hW) (by omega) (fun r hr => by
      obtain ⟨j, hj, rfl⟩ := List.getElem_of_mem hr
      have := (hfit.rel j hj (by rw [← hfit.len]; exact hj)).len
      omega)
    rw [hrl] at h
    refine h.mono ?_
    rintro e w4 ⟨v4, rs', rfl, ho⟩
    have hl' : rs'.length = 2 := by
      have h := congrArg List.length ho.dat
      rwa [List.length_map, List.length_map, hrl] at h
    obtain ⟨A4, c4, rfl, -, -⟩ := ho.own.form
    rw [hl'] at ho ⊢
    refine ⟨A4, c4, rfl, ho.bel, Lib.hid ⟨_, A4, c4, rs', rfl, ?_, ho.dat.trans hd⟩⟩
    obtain ⟨w5, hw5⟩ : ∃ w5, w5 = w4.alloc (.cells #[.slice s.TA s.tabs.length s.tc, .slice s.FA s.fks.length s.fc, .slice s.NA s.cns.length s.nc, .slice TA 2 tc, .slice A4 2 c4, .slice none 0 0] 96) := ⟨_, rfl⟩
    have hb5 : Below w4.heap.size w4 w5 := by rw [hw5]; exact (Below.refl _ _).alloc (Nat.le_refl _) _
    have hg5 : w5.heap[w4.heap.size]? = some (.cells #[.slice s.TA s.tabs.length s.tc, .slice s.FA s.fks.length s.fc, .slice s.NA s.cns.length s.nc, .slice TA 2 tc, .slice A4 2 c4, .slice none 0 0] 96 (0, 0)) := by rw [hw5]; exact heap_alloc_new w4 _
    rw [← hw5]
    have hbW := hW.trans (ho.bel.mono hW.size)
    have hb05 := hbW.trans (hb5.mono hbW.size)
    refine ⟨hbW.size, ?_, hsc.keep (Keeps.of_below hb05 fun _ h => h), htg.keep (Keeps.of_below hb05 fun _ h => h), ?_, Own.nil _, by intro h; cases h⟩
    · unfold exC
      rw [hl']
      exact hg5
    · have hi : InOk (· < w4.heap.size) w4 A4 rs' := ho.inOk
      have hs5 := hb5.size
      have hlt : w4.heap.size < w5.heap.size := by rw [hw5]; simp
      exact (hi.keep (Keeps.of_below hb5 fun _ h => h)).more fun g hg => ⟨by omega, by omega, by intro h; cases h⟩
  have HCC := Lib.hid fun W (hW : Below w.heap.size w W) => cloneChange ch W (hco.on hW)
  have HEL := Lib.hid hel
  have HDT := Lib.hid (And.intro hck (And.intro hcn (And.intro hkr hrr)))
  have HAA : Hid (∀ px, ApH w.heap.size px s TA tc [tRem RA RB, tAdd AA AB ac] a b 1 0) := Lib.hid fun px => applyAll hs
  have HB1 := Lib.hid hb1
  have HW1 := Lib.hid hw1
  rw [hrl] at HCF
  obtain ⟨c0, c1, c2⟩ := HBK.out w1 (Below.refl _ _)
  unfold Sc.cells at HW1
  unfold Sc.v Sc.cells at HCT HCF ⊢
  unfold ChM.cells at HCC
  rw [hck, hcn, hkr, hrr] at HCC
  clear hs hsc htg htc hin hd hel hco hck hcn hkr hrr hrl hfit hb1 hg1 hs1 hw1
  go_enter Tryz.func12, Tryz.ntmps12
  go_upto_region 1 with fail
  rw [← HW1.out]
  go_wp2_with fail
  refine (HCT.out w1 HB1.out).mono ?_
  rintro e w2 ⟨rfl, hb2⟩
  have HB2 := Lib.hid (And.intro hb2 (HB1.out.trans (hb2.mono HB1.out.size)))
  clear hb2 c0 c1 c2 HCT
  obtain ⟨c0, c1, c2⟩ := HBK.out w2 HB2.out.1
  go_wp2_with fail
  refine (HCF.out w2 HB2.out.2).mono ?_
  rintro e w3 ⟨rfl, hb3⟩
  have HB3 := Lib.hid (And.intro (HB2.out.1.trans (hb3.mono HB2.out.1.size)) (HB2.out.2.trans (hb3.mono HB2.out.2.size)))
  clear hb3 c0 c1 c2 HCF
  obtain ⟨c0, c1, c2⟩ := HBK.out w3 HB3.out.1
  go_upto_region 7 with fail
  go_cut [13] from 29 to 34 (fun v13 wx => ExP w.heap.size s TA tc [tRem RA RB, tAdd AA AB ac] a b v13 wx ∧ Below w.heap.size w wx)
  case first =>
    have HC4 : Hid (∀ m, Calls Tryz.prog 39 #[.slice IA 2 ic] (w3.drewN m) fun e w4 => ∃ A4 c4, e = .returned (.slice A4 2 c4) ∧ (w4.cell? ⟨w.heap.size, 0, none⟩ = some (.slice s.TA s.tabs.length s.tc) ∧ w4.cell? ⟨w.heap.size, 1, none⟩ = some (.slice s.FA s.fks.length s.fc) ∧ w4.cell? ⟨w.heap.size, 2, none⟩ = some (.slice s.NA s.cns.length s.nc))
        ∧ Hid (Below w.heap.size w w4) ∧ Hid (∀ o, (w4.alloc o).cell? ⟨w.heap.size, 0, none⟩ = some (.slice s.TA s.tabs.length s.tc) ∧ (w4.alloc o).cell? ⟨w.heap.size, 1, none⟩ = some (.slice s.FA s.fks.length s.fc) ∧ (w4.alloc o).cell? ⟨w.heap.size, 2, none⟩ = some (.slice s.NA s.cns.length s.nc))
        ∧ Hid (ExP w.heap.size s TA tc [tRem RA RB, tAdd AA AB ac] a b (ptr w4.heap.size) (w4.alloc (.cells #[.slice s.TA s.tabs.length s.tc, .slice s.FA s.fks.length s.fc, .slice s.NA s.cns.length s.nc, .slice TA 2 tc, .slice A4 2 c4, .slice none 0 0] 96)))) := Lib.hid fun m => by
      have hd : Below w3.heap.size w3 (w3.drewN m) := below_drewN (Below.refl _ _) m
      refine (HCL.out (w3.drewN m) (HB3.out.2.trans (hd.mono HB3.out.2.size))).mono ?_
      rintro e w4 ⟨A4, c4, rfl, hb4, hex⟩
      have hb34 := hd.trans hb4
      have h14 := HB3.out.1.trans (hb34.mono HB3.out.1.size)
      exact ⟨A4, c4, rfl, HBK.out w4 h14, Lib.hid (HB3.out.2.trans (hb34.mono HB3.out.2.size)), Lib.hid fun o => HBK.out _ (h14.alloc h14.size o), hex⟩
    clear HCL
    go_region_held3 (fun W => W.cell? ⟨w.heap.size, 0, none⟩ = some (.slice s.TA s.tabs.length s.tc) ∧ W.cell? ⟨w.heap.size, 1, none⟩ = some (.slice s.FA s.fks.length s.fc) ∧ W.cell? ⟨w.heap.size, 2, none⟩ = some (.slice s.NA s.cns.length s.nc)) (first | exact ⟨c0, c1, c2⟩ | exact s4 | exact HSA.out _)
      (first
      | (go_at_call 39; refine (HC4.out 1).mono ?_; rintro e w4 ⟨A4, c4, rfl, s4, HB4, HSA, HEX⟩))
    all_goals
      clear s4
      go_wp2_with fail
      go_meet
      exact ⟨HEX.out, HB4.out.alloc HB4.out.size _⟩
  case rest =>
    obtain ⟨⟨px, A4, c4, rs', rfl, hx, hd4⟩, hb5⟩ := hcut
    obtain ⟨w5, rfl⟩ : ∃ w5, w5 = wc := ⟨_, rfl⟩
    have HX := Lib.hid (And.intro hx hd4)
    have HB5 := Lib.hid hb5
    clear hx hd4 hb5 c0 c1 c2 HCL
    go_wp2_with fail
    go_loopw [37] (fun vi wr => vi = .int .i64 0 ∧ w5 = wr) (fun _ _ => 0)
    case atStart => exact ⟨rfl, rfl⟩
    case round =>
      obtain ⟨rfl, rfl⟩ := hrel
      obtain ⟨b1, off, rfl, -, e0, e1, e2, e3⟩ := (HEL.out.on HB5.out).chm
      rw [HDT.out.1] at e0
      rw [HDT.out.2.1] at e1
      rw [HDT.out.2.2.1] at e2
      rw [HDT.out.2.2.2] at e3
      replace e2 : w5.cell? ⟨b1, off + 2, none⟩ = some (.slice ch.key.A 0 ch.key.c) := e2
      replace e3 : w5.cell? ⟨b1, off + 3, none⟩ = some (.slice ch.row.A 4 ch.row.c) := e3
      obtain ⟨w6, hw6⟩ : ∃ w6, w6 = w5.alloc (.cells #[.int .i64 1, .string nItem, .slice ch.key.A 0 ch.key.c, .slice ch.row.A 4 ch.row.c] 51) := ⟨_, rfl⟩
      have hb6 : Below w5.heap.size w5 w6 := by rw [hw6]; exact (Below.refl _ _).alloc (Nat.le_refl _) _
      have hg6 : w6.heap[w5.heap.size]? = some (.cells #[.int .i64 1, .string nItem, .slice ch.key.A 0 ch.key.c, .slice ch.row.A 4 ch.row.c] 51 (0, 0)) := by rw [hw6]; exact heap_alloc_new w5 _
      have k0 := cell_of_row _ _ 0 _ _ _ hg6
      have k1 := cell_of_row _ _ 1 _ _ _ hg6
      have k2 := cell_of_row _ _ 2 _ _ _ hg6
      have k3 := cell_of_row _ _ 3 _ _ _ hg6
      have hb06 := HB5.out.trans (hb6.mono HB5.out.size)
      have HCH : Hid (Calls Tryz.prog 41 #[.agg #[.int .i64 1, .string nItem, .slice ch.key.A 0 ch.key.c, .slice ch.row.A 4 ch.row.c]] w6 fun e w7 => ∃ ch', e = .returned (.agg ch') ∧ Hid (Calls Tryz.prog 40 #[ptr px, .agg ch', .int .i64 0] w7 fun e w' => e = .returned (.int .i64 14) ∧ Below w.heap.size w w')) := Lib.hid (by
        refine (HCC.out w6 hb06).mono ?_
        rintro e w7 ⟨ch', rfl, q1, q2, q3, q4, q5, hb7⟩
        have hb57 := hb6.trans (hb7.mono hb6.size)
        refine ⟨ch'.cells, rfl, Lib.hid ?_⟩
        have hpx := HX.out.1.lt
        have hs6 := hb6.size
        have h := HAA.out px ch' _ _ _ _ _ w7 ⟨HX.out.1.below hb57, HX.out.2, Nat.le_refl _, q5.more fun g hg => ⟨hg.2, by omega, by intro h; cases h⟩, q1, q2, .inl ⟨rfl, q3, q4⟩⟩
        refine Calls.mono h ?_
        rintro e w' ⟨rfl, hb⟩
        exact ⟨rfl, (HB5.out.trans (hb57.mono HB5.out.size)).trans hb⟩)
      have HW6 := Lib.hid hw6
      clear hw6 hb6 hg6 hb06 HCC
      go_upto_region 11 with fail
      rw [← HW6.out]
      go_wp2_with fail
      refine HCH.out.mono ?_
      rintro e w7 ⟨ch', rfl, HAP⟩
      go_wp2_with fail
      refine HAP.out.mono ?_
      rintro e w8 ⟨rfl, hb8⟩
      have HF := Lib.hid hb8
      clear hb8
      go_wp2_with fail
      go_ret3
      exact ⟨rfl, HF.out⟩
end Go.Proofs.YtefifkleamiabaaGreatDoor

namespace Go.Proofs.YtefifkleamiabaaGreatDoor
open Go.RowKit Go.Sort

/-- What Mod answers. -/
def md (k n : Int) : Nat := ((if k < 0 then -(k + 1) else k) % n).toNat
theorem md_lt {k n : Int} (h : 0 < n) : (md k n : Int) < n := by
  unfold md
  have := Int.emod_lt_of_pos (if k < 0 then -(k + 1) else k) h
  have := Int.emod_nonneg (if k < 0 then -(k + 1) else k) (b := n) (by omega)
  omega

set_option maxRecDepth 100000 in
set_option maxHeartbeats 400000 in
theorem modW (k n : Int) (w : World) (hk : -9223372036854775808 ≤ k ∧ k ≤ 9223372036854775807) (h0 : 0 < n) (hn : n ≤ 9223372036854775807) :
    Calls Tryz.prog 24 #[.int .i64 k, .int .i64 n] w fun e w' => e = .returned (.int .i64 (md k n)) ∧ w = w' := by
  obtain ⟨hk1, hk2⟩ := hk
  by_cases hneg : k < 0
  · have hp : 0 ≤ -(k + 1) := by omega
    have hlt := Int.emod_lt_of_pos (-(k + 1)) h0
    have hge := Int.emod_nonneg (-(k + 1)) (b := n) (by omega)
    have hm : -(k + 1) % n = ((md k n : Nat) : Int) := by unfold md; rw [if_pos hneg]; omega
    have HM := Lib.hid hm
    clear hm
    generalize md k n = m at *
    go_enter Tryz.func24, Tryz.ntmps24
    go_wp2_with fail
    go_ret
    exact ⟨ret_int (by rw [← Int.neg_tmod, Int.tmod_eq_emod_of_nonneg hp]; exact HM.out), rfl⟩
  · have hp : 0 ≤ k := by omega
    have hlt := Int.emod_lt_of_pos k h0
    have hge := Int.emod_nonneg k (b := n) (by omega)
    have hm : k % n = ((md k n : Nat) : Int) := by unfold md; rw [if_neg hneg]; omega
    have HM := Lib.hid hm
    clear hm
    generalize md k n = m at *
    go_enter Tryz.func24, Tryz.ntmps24
    go_wp2_with fail
    go_ret
    exact ⟨ret_int HM.out, rfl⟩

set_option maxRecDepth 100000 in
theorem itemRowW (x y : Int) (w : World) (hx : I64 x) (hy : I64 y) :
    Calls Tryz.prog 16 #[.int .i64 x, .int .i64 y] w fun e w' => e = .returned (.slice (some ⟨w.heap.size, 0, none⟩) 4 4) ∧ Elems 3 Val.cs w' (fun g => g = w.heap.size) (some ⟨w.heap.size, 0, none⟩) (iRow (md x 5 : Nat) (md y 7 : Nat)) ∧ Below w.heap.size w w' ∧ w'.heap.size = w.heap.size + 1 := by
  have HX := Lib.hid fun W => modW x 5 W hx (by omega) (by omega)
  have HY := Lib.hid fun W => modW y 7 W hy (by omega) (by omega)
  clear hx hy
  generalize md x 5 = m at *
  generalize md y 7 = n at *
  go_enter Tryz.func16, Tryz.ntmps16
  go_wp2_with fail
  refine (HX.out w).mono ?_
  rintro e w' ⟨rfl, rfl⟩
  go_wp2_with fail
  refine (HY.out w).mono ?_
  rintro e w' ⟨rfl, rfl⟩
  go_wp2_with fail
  go_ret
  exact ⟨rfl, elems_block valLay (xs := iRow (m : Nat) (n : Nat)) (heap_alloc_new w _) rfl (by show 4 ≤ maxLen; decide) rfl, (Below.refl _ _).alloc (Nat.le_refl _) _, by simp⟩

theorem three_new (w : World) (a b c : Obj) : (((w.alloc a).alloc b).alloc c).heap[w.heap.size]? = some a ∧ (((w.alloc a).alloc b).alloc c).heap[w.heap.size + 1]? = some b ∧ (((w.alloc a).alloc b).alloc c).heap[w.heap.size + 1 + 1]? = some c ∧ Below w.heap.size w (((w.alloc a).alloc b).alloc c) ∧ (((w.alloc a).alloc b).alloc c).heap.size = w.heap.size + 3 := by
  refine ⟨?_, ?_, ?_, (((Below.refl _ _).alloc (Nat.le_refl _) _).alloc (le_size1 (Nat.le_refl _) _) _).alloc (le_size2 (Nat.le_refl _) _ _) _, by simp⟩
  · rw [Below.heap_alloc _ _ _ (by simp; omega), Below.heap_alloc _ _ _ (by simp)]
    exact heap_alloc_new w a
  · rw [Below.heap_alloc _ _ _ (by simp)]
    exact alloc2_at w a b
  · have h := heap_alloc_new ((w.alloc a).alloc b) c
    simpa using h
theorem four_new (w : World) (a b c d : Obj) : ((((w.alloc a).alloc b).alloc c).alloc d).heap[w.heap.size]? = some a ∧ ((((w.alloc a).alloc b).alloc c).alloc d).heap[w.heap.size + 1]? = some b ∧ ((((w.alloc a).alloc b).alloc c).alloc d).heap[w.heap.size + 1 + 1]? = some c ∧ ((((w.alloc a).alloc b).alloc c).alloc d).heap[w.heap.size + 1 + 1 + 1]? = some d ∧ Below w.heap.size w ((((w.alloc a).alloc b).alloc c).alloc d) ∧ ((((w.alloc a).alloc b).alloc c).alloc d).heap.size = w.heap.size + 4 := by
  obtain ⟨h0, h1, h2, h3, h4⟩ := three_new w a b c
  refine ⟨?_, ?_, ?_, ?_, h3.alloc h3.size _, by simp⟩
  · rw [Below.heap_alloc _ _ _ (by omega)]; exact h0
  · rw [Below.heap_alloc _ _ _ (by omega)]; exact h1
  · rw [Below.heap_alloc _ _ _ (by omega)]; exact h2
  · have h := heap_alloc_new (((w.alloc a).alloc b).alloc c) d
    rw [h4] at h
    exact h

theorem ret_base {a b c : Value} {g : Nat} {w : World} (tmps : Array Value) (hp : tmps.getD 0 undef = .pointer (some ⟨g, 0, none⟩)) (hg : w.heap[g]? = some (.cells #[a, b, c] 27 (0, 0))) :
    (results Tryz.f8 tmps).run Tryz.prog w = .ok (.agg #[a, b, c]) w :=
  results_cell_row (P := Tryz.prog) Tryz.results8 tmps w g 27 _ (0, 0) _ hp hg Tryz.underlying27 rfl (by kernel_rfl)
theorem set3 {w : World} {g : Nat} {t : TypeId} {a b c a' b' c' : Value} (h : w.heap[g]? = some (.cells #[a, b, c] t (0, 0))) :
    (((w.setCell ⟨g, 0, none⟩ a').setCell ⟨g, 1, none⟩ b').setCell ⟨g, 2, none⟩ c').heap[g]? = some (.cells #[a', b', c'] t (0, 0)) := by
  rw [heap_setCell_at (heap_setCell_at (heap_setCell_at h _) _) _]
  rfl

set_option maxRecDepth 100000 in
set_option maxHeartbeats 4000000 in
theorem baseSchemaW (w : World) : Calls Tryz.prog 8 #[] w fun e w' => ∃ T IA IP OA OP F FC N, e = .returned (bSc T IA IP OA OP F FC N).v ∧ ScOk (· < w'.heap.size) w' (bSc T IA IP OA OP F FC N) ∧ Below w.heap.size w w' := by
  obtain ⟨w0, hw0⟩ : ∃ w0, w0 = w.alloc (.cells #[.slice none 0 0, .slice none 0 0, .slice none 0 0] 27) := ⟨_, rfl⟩
  have hb0 : Below w.heap.size w w0 := by rw [hw0]; exact (Below.refl _ _).alloc (Nat.le_refl _) _
  have hg0 : w0.heap[w.heap.size]? = some (.cells #[.slice none 0 0, .slice none 0 0, .slice none 0 0] 27 (0, 0)) := by rw [hw0]; exact heap_alloc_new w _
  have hs0 : w0.heap.size = w.heap.size + 1 := by rw [hw0]; simp
  obtain ⟨w1, hw1⟩ : ∃ w1, w1 = ((w0.alloc (.cells #[.string ⟨#[105, 100]⟩, .int .i64 1, .bool false, .string ⟨#[115, 105, 122, 101]⟩, .int .i64 1, .bool true, .string ⟨#[102, 105, 114, 115, 116]⟩, .int .i64 3, .bool false, .string ⟨#[108, 97, 115, 116]⟩, .int .i64 3, .bool false] 68)).alloc (.cells #[.int .i64 0] 3)).alloc (.cells #[.string ⟨#[105, 116, 101, 109]⟩, .slice (some ⟨w0.heap.size, 0, none⟩) 4 4, .slice (some ⟨w0.heap.size + 1, 0, none⟩) 1 1] 71) := ⟨_, rfl⟩
  obtain ⟨a0, a1, a2, a3, a4⟩ := three_new w0 (.cells #[.string ⟨#[105, 100]⟩, .int .i64 1, .bool false, .string ⟨#[115, 105, 122, 101]⟩, .int .i64 1, .bool true, .string ⟨#[102, 105, 114, 115, 116]⟩, .int .i64 3, .bool false, .string ⟨#[108, 97, 115, 116]⟩, .int .i64 3, .bool false] 68) (.cells #[.int .i64 0] 3) (.cells #[.string ⟨#[105, 116, 101, 109]⟩, .slice (some ⟨w0.heap.size, 0, none⟩) 4 4, .slice (some ⟨w0.heap.size + 1, 0, none⟩) 1 1] 71)
  rw [← hw1] at a0 a1 a2 a3 a4
  obtain ⟨w2, hw2⟩ : ∃ w2, w2 = ((w1.alloc (.cells #[.string ⟨#[105, 100]⟩, .int .i64 1, .bool false, .string ⟨#[105, 116, 101, 109]⟩, .int .i64 1, .bool true, .string ⟨#[112, 97, 105, 100]⟩, .int .i64 2, .bool false] 68)).alloc (.cells #[.int .i64 0] 3)).alloc (.cells #[.string ⟨#[111, 114, 100, 101, 114]⟩, .slice (some ⟨w1.heap.size, 0, none⟩) 3 3, .slice (some ⟨w1.heap.size + 1, 0, none⟩) 1 1] 71) := ⟨_, rfl⟩
  obtain ⟨b0, b1, b2, b3, b4⟩ := three_new w1 (.cells #[.string ⟨#[105, 100]⟩, .int .i64 1, .bool false, .string ⟨#[105, 116, 101, 109]⟩, .int .i64 1, .bool true, .string ⟨#[112, 97, 105, 100]⟩, .int .i64 2, .bool false] 68) (.cells #[.int .i64 0] 3) (.cells #[.string ⟨#[111, 114, 100, 101, 114]⟩, .slice (some ⟨w1.heap.size, 0, none⟩) 3 3, .slice (some ⟨w1.heap.size + 1, 0, none⟩) 1 1] 71)
  rw [← hw2] at b0 b1 b2 b3 b4
  obtain ⟨w3, hw3⟩ : ∃ w3, w3 = (((w2.alloc (.cells #[.string ⟨#[105, 116, 101, 109]⟩, .slice (some ⟨w0.heap.size, 0, none⟩) 4 4, .slice (some ⟨w0.heap.size + 1, 0, none⟩) 1 1, .string ⟨#[111, 114, 100, 101, 114]⟩, .slice (some ⟨w1.heap.size, 0, none⟩) 3 3, .slice (some ⟨w1.heap.size + 1, 0, none⟩) 1 1] 71)).alloc (.cells #[.int .i64 1] 3)).alloc (.cells #[.string ⟨#[111, 114, 100, 101, 114]⟩, .slice (some ⟨w2.heap.size + 1, 0, none⟩) 1 1, .string ⟨#[105, 116, 101, 109]⟩] 73)).alloc (.cells #[.string ⟨#[105, 116, 101, 109]⟩, .int .i64 1, .string ⟨#[60, 61]⟩, .int .i64 (-1), .int .i64 1, .int .i64 6, .string ⟨#[]⟩] 62) := ⟨_, rfl⟩
  obtain ⟨c0, c1, c2, c3, c4, c5⟩ := four_new w2 (.cells #[.string ⟨#[105, 116, 101, 109]⟩, .slice (some ⟨w0.heap.size, 0, none⟩) 4 4, .slice (some ⟨w0.heap.size + 1, 0, none⟩) 1 1, .string ⟨#[111, 114, 100, 101, 114]⟩, .slice (some ⟨w1.heap.size, 0, none⟩) 3 3, .slice (some ⟨w1.heap.size + 1, 0, none⟩) 1 1] 71) (.cells #[.int .i64 1] 3) (.cells #[.string ⟨#[111, 114, 100, 101, 114]⟩, .slice (some ⟨w2.heap.size + 1, 0, none⟩) 1 1, .string ⟨#[105, 116, 101, 109]⟩] 73) (.cells #[.string ⟨#[105, 116, 101, 109]⟩, .int .i64 1, .string ⟨#[60, 61]⟩, .int .i64 (-1), .int .i64 1, .int .i64 6, .string ⟨#[]⟩] 62)
  rw [← hw3] at c0 c1 c2 c3 c4 c5
  have t0 := cell_of_row _ _ 0 _ _ _ a2
  have t1 := cell_of_row _ _ 1 _ _ _ a2
  have t2 := cell_of_row _ _ 2 _ _ _ a2
  have a2' := (b3.block _ (by omega)).trans a2
  have p0 := cell_of_row _ _ 0 _ _ _ a2'
  have p1 := cell_of_row _ _ 1 _ _ _ a2'
  have p2 := cell_of_row _ _ 2 _ _ _ a2'
  have q0 := cell_of_row _ _ 0 _ _ _ b2
  have q1 := cell_of_row _ _ 1 _ _ _ b2
  have q2 := cell_of_row _ _ 2 _ _ _ b2
  have hb13 : Below w1.heap.size w1 w3 := b3.trans (c4.mono b3.size)
  have hb03 : Below w0.heap.size w0 w3 := a3.trans (hb13.mono a3.size)
  have hr3 := (hb03.block w.heap.size (by omega)).trans hg0
  have hb02 : Below w0.heap.size w0 w2 := a3.trans (b3.mono (by omega))
  have hr2 := (hb02.block w.heap.size (by omega)).trans hg0
  have hn4 : ∀ a b c d, ((((w2.alloc a).alloc b).alloc c).alloc d).heap[w.heap.size]? = some (.cells #[.slice none 0 0, .slice none 0 0, .slice none 0 0] 27 (0, 0)) := fun a b c d => ((four_new w2 a b c d).2.2.2.2.1.block _ (by omega)).trans hr2
  have n0 : ∀ a b c d, ((((w2.alloc a).alloc b).alloc c).alloc d).cell? ⟨w.heap.size, 0, none⟩ = some (.slice none 0 0) := fun a b c d => cell_of_row _ _ 0 _ _ _ (hn4 a b c d)
  have n1 : ∀ a b c d, ((((w2.alloc a).alloc b).alloc c).alloc d).cell? ⟨w.heap.size, 1, none⟩ = some (.slice none 0 0) := fun a b c d => cell_of_row _ _ 1 _ _ _ (hn4 a b c d)
  have n2 : ∀ a b c d, ((((w2.alloc a).alloc b).alloc c).alloc d).cell? ⟨w.heap.size, 2, none⟩ = some (.slice none 0 0) := fun a b c d => cell_of_row _ _ 2 _ _ _ (hn4 a b c d)
  have f0 : ∀ a b c d i, ((((w2.alloc a).alloc b).alloc c).alloc d).frozen? ⟨w.heap.size, i, none⟩ = false := fun a b c d i => frozen_of_row _ _ i _ _ (hn4 a b c d)
  have HFIN : Hid (∀ v0 v1 v2, ScOk (· < w3.heap.size) (((w3.setCell ⟨w.heap.size, 0, none⟩ v0).setCell ⟨w.heap.size, 1, none⟩ v1).setCell ⟨w.heap.size, 2, none⟩ v2) (bSc (some ⟨w2.heap.size, 0, none⟩) (some ⟨w0.heap.size, 0, none⟩) (some ⟨w0.heap.size + 1, 0, none⟩) (some ⟨w1.heap.size, 0, none⟩) (some ⟨w1.heap.size + 1, 0, none⟩) (some ⟨w2.heap.size + 1 + 1, 0, none⟩) (some ⟨w2.heap.size + 1, 0, none⟩) (some ⟨w2.heap.size + 1 + 1 + 1, 0, none⟩))) := Lib.hid fun v0 v1 v2 => by
    have hsc : ScOk (fun g => w.heap.size < g ∧ g < w3.heap.size) w3 (bSc (some ⟨w2.heap.size, 0, none⟩) (some ⟨w0.heap.size, 0, none⟩) (some ⟨w0.heap.size + 1, 0, none⟩) (some ⟨w1.heap.size, 0, none⟩) (some ⟨w1.heap.size + 1, 0, none⟩) (some ⟨w2.heap.size + 1 + 1, 0, none⟩) (some ⟨w2.heap.size + 1, 0, none⟩) (some ⟨w2.heap.size + 1 + 1 + 1, 0, none⟩)) := by
      refine ⟨(elems_block tblLay (xs := (bSc (some ⟨w2.heap.size, 0, none⟩) (some ⟨w0.heap.size, 0, none⟩) (some ⟨w0.heap.size + 1, 0, none⟩) (some ⟨w1.heap.size, 0, none⟩) (some ⟨w1.heap.size + 1, 0, none⟩) (some ⟨w2.heap.size + 1 + 1, 0, none⟩) (some ⟨w2.heap.size + 1, 0, none⟩) (some ⟨w2.heap.size + 1 + 1 + 1, 0, none⟩)).tabs) c0 rfl (by show 2 ≤ maxLen; decide) rfl).more fun g hg => ⟨by omega, by omega⟩, fun t ht => ?_, (elems_block fkLay (xs := [⟨nOrder, some ⟨w2.heap.size + 1, 0, none⟩, 1, [1], nItem⟩]) c2 rfl (by show 1 ≤ maxLen; decide) rfl).more fun g hg => ⟨by omega, by omega⟩, fun f hf => ?_, (elems_block cnLay (xs := [⟨nItem, 1, ⟨#[60, 61]⟩, -1, ⟨1, 6, ⟨#[]⟩⟩⟩]) c3 rfl (by show 1 ≤ maxLen; decide) rfl).more fun g hg => ⟨by omega, by omega⟩⟩
      · simp only [bSc, List.mem_cons, List.not_mem_nil, or_false] at ht
        rcases ht with rfl | rfl
        · exact ⟨(elems_block colLay (xs := itemCols) ((hb13.block _ (by omega)).trans a0) rfl (by decide) rfl).more fun g hg => ⟨by omega, by omega⟩, (elems_block intLay (xs := [0]) ((hb13.block _ (by omega)).trans a1) rfl (by decide) rfl).more fun g hg => ⟨by omega, by omega⟩⟩
        · exact ⟨(elems_block colLay (xs := orderCols) ((c4.block _ (by omega)).trans b0) rfl (by decide) rfl).more fun g hg => ⟨by omega, by omega⟩, (elems_block intLay (xs := [0]) ((c4.block _ (by omega)).trans b1) rfl (by decide) rfl).more fun g hg => ⟨by omega, by omega⟩⟩
      · simp only [bSc, List.mem_cons, List.not_mem_nil, or_false] at hf
        subst hf
        exact (elems_block intLay (xs := [1]) c1 rfl (by decide) rfl).more fun g hg => ⟨by omega, by omega⟩
    refine (hsc.keep fun g hg => ?_).more fun g hg => hg.2
    rw [Below.heap_setCell _ _ _ _ (by show g ≠ w.heap.size; omega), Below.heap_setCell _ _ _ _ (by show g ≠ w.heap.size; omega), Below.heap_setCell _ _ _ _ (by show g ≠ w.heap.size; omega)]
  have HB : Hid (Below w.heap.size w w3) := Lib.hid (hb0.trans (hb03.mono hb0.size))
  have HR3 := Lib.hid hr3
  have HW0 := Lib.hid hw0
  have HW1 := Lib.hid hw1
  have HW2 := Lib.hid hw2
  have HW3 := Lib.hid hw3
  clear hw0 hw1 hw2 hw3 hb0 hg0 hs0 a0 a1 a2 a2' a3 a4 b0 b1 b2 b3 b4 c0 c1 c2 c3 c4 c5 hb13 hb03 hr3 hn4
  go_enter Tryz.func8, Tryz.ntmps8
  go_upto_region 1 with fail
  rw [← HW0.out]
  go_upto_region 2 with fail
  rw [← HW1.out]
  go_upto_region 3 with fail
  rw [← HW2.out]
  go_wp2_with fail
  rw [← HW3.out]
  refine bodyPost_ret (ret_base _ rfl (set3 HR3.out)) rfl ?_
  exact ⟨_, _, _, _, _, _, _, _, rfl, (HFIN.out _ _ _).more fun g hg => by simpa [World.setCell] using hg, ((HB.out.setCell (p := ⟨w.heap.size, 0, none⟩) (Nat.le_refl _) _).setCell (p := ⟨w.heap.size, 1, none⟩) (Nat.le_refl _) _).setCell (p := ⟨w.heap.size, 2, none⟩) (Nat.le_refl _) _⟩

theorem make_rels : ∀ W : World, (Instr.makeSlice 30 (.int .i64 2) (.int .i64 2)).run Tryz.prog W = .ok (.slice (some ⟨W.heap.size, 0, none⟩) 2 2) (W.alloc (.cells #[.string ⟨#[]⟩, .slice none 0 0, .string ⟨#[]⟩, .slice none 0 0] 78)) := by
  intro W
  have h : (Tryz.prog.info? 78).map (fun i => (i.zero, i.size, i.bytes)) = some (some (.agg #[.string ByteArray.empty, .slice none 0 0]), 2, 40) := by kernel_rfl
  obtain ⟨i, hi, hz, h1, h2⟩ := info_parts h
  have := run_makeSlice (P := Tryz.prog) W 30 78 i _ Tryz.underlying30 hi hz .i64 .i64 2 2 (by omega) (Int.le_refl _) (by rw [h1]; decide) (by rw [h2]; omega) (by omega)
  rw [h1] at this
  have e : madeCells (Value.agg #[.string ByteArray.empty, .slice none 0 0]).cells ((2 : Int).toNat * 2) = #[.string ⟨#[]⟩, .slice none 0 0, .string ⟨#[]⟩, .slice none 0 0] := by kernel_rfl
  rw [e] at this
  exact this

/-- The instance's block. -/
def EiB (w : World) (g : Nat) (n0 n1 : ByteArray) (W : World) : Prop := W.heap[g]? = some (.cells #[.string n0, .slice none 0 0, .string n1, .slice none 0 0] 78 (0, 0)) ∧ Below w.heap.size w W
theorem EiB.at {w W : World} {g : Nat} {n0 n1 : ByteArray} (h : EiB w g n0 n1 W) : (∃ q, W.cell? ⟨g, 0, none⟩ = some q) ∧ (∃ q, W.cell? ⟨g, 2, none⟩ = some q) ∧ (∀ i, W.frozen? ⟨g, i, none⟩ = false) :=
  ⟨⟨_, cell_of_row _ _ 0 _ _ _ h.1⟩, ⟨_, cell_of_row _ _ 2 _ _ _ h.1⟩, fun i => frozen_of_row _ _ i _ _ h.1⟩
theorem EiB.new {w w1 : World} (hb : Below w.heap.size w w1) : EiB w w1.heap.size ⟨#[]⟩ ⟨#[]⟩ (w1.alloc (.cells #[.string ⟨#[]⟩, .slice none 0 0, .string ⟨#[]⟩, .slice none 0 0] 78)) := ⟨heap_alloc_new w1 _, hb.alloc hb.size _⟩
theorem EiB.set0 {w W : World} {g : Nat} {n0 n1 n : ByteArray} (h : EiB w g n0 n1 W) (hg : w.heap.size ≤ g) : EiB w g n n1 (W.setCell ⟨g, 0, none⟩ (.string n)) := ⟨heap_setCell_at h.1 _, h.2.setCell (p := ⟨g, 0, none⟩) hg _⟩
theorem EiB.set1 {w W : World} {g : Nat} {n0 n1 n : ByteArray} (h : EiB w g n0 n1 W) (hg : w.heap.size ≤ g) : EiB w g n0 n (W.setCell ⟨g, 2, none⟩ (.string n)) := ⟨heap_setCell_at h.1 _, h.2.setCell (p := ⟨g, 2, none⟩) hg _⟩
theorem EiB.grow {w W W' : World} {g : Nat} {n0 n1 : ByteArray} (h : EiB w g n0 n1 W) (hb : Below W.heap.size W W') : EiB w g n0 n1 W' := ⟨(hb.block g (Array.getElem?_eq_some_iff.1 h.1).1).trans h.1, h.2.trans (hb.mono h.2.size)⟩
theorem EiB.inst {w W : World} {g : Nat} (h : EiB w g nItem nOrder W) : InOk (· < W.heap.size) W (some ⟨g, 0, none⟩) [⟨nItem, none, 0, []⟩, ⟨nOrder, none, 0, []⟩] := by
  refine ⟨(elems_block relLay (xs := [⟨nItem, none, 0, []⟩, ⟨nOrder, none, 0, []⟩]) h.1 rfl (by decide) rfl).more fun k hk => ?_, fun r hr => ?_⟩
  · have hk : k = g := hk
    rw [hk]
    exact (Array.getElem?_eq_some_iff.1 h.1).1
  · have he : RsOk (· < W.heap.size) W none [] := ⟨((Own.nil (base := 0) (e := 48) W).elems keyLay.len rfl).more (fun g hg => by cases hg), fun k hk => by cases hk⟩
    simp only [List.mem_cons, List.not_mem_nil, or_false] at hr
    rcases hr with rfl | rfl <;> exact he

set_option maxRecDepth 100000 in
set_option maxHeartbeats 4000000 in
theorem emptyW (s : Sc) (w : World) (hs : ScOk (· < w.heap.size) w s) (h2 : s.tabs.length = 2) (hn0 : ∀ h : 0 < s.tabs.length, s.tabs[0].name = nItem) (hn1 : ∀ h : 1 < s.tabs.length, s.tabs[1].name = nOrder) :
    Calls Tryz.prog 23 #[s.v] w fun e w' => ∃ IA ic, e = .returned (.slice IA 2 ic) ∧ InOk (· < w'.heap.size) w' IA [⟨nItem, none, 0, []⟩, ⟨nOrder, none, 0, []⟩] ∧ Below w.heap.size w w' := by
  have h0l : 0 < s.tabs.length := by omega
  have h1l : 1 < s.tabs.length := by omega
  obtain ⟨w1, hw1⟩ : ∃ w1, w1 = w.alloc (.cells s.cells 27) := ⟨_, rfl⟩
  have hb1 : Below w.heap.size w w1 := by rw [hw1]; exact (Below.refl _ _).alloc (Nat.le_refl _) _
  have hg0 : w1.heap[w.heap.size]? = some (.cells s.cells 27 (0, 0)) := by rw [hw1]; exact heap_alloc_new w _
  have hs1 : w.heap.size < w1.heap.size := by rw [hw1]; simp
  obtain ⟨tb, toff, hTA, -, -⟩ := hs.tabs.tbl h0l
  have HTB : Hid (∀ W, Below w.heap.size w W → (W.cell? ⟨tb, toff, none⟩ = some (.string nItem) ∧ W.cell? ⟨tb, toff + 1, none⟩ = some (.slice s.tabs[0].CA s.tabs[0].cols.length s.tabs[0].cc) ∧ W.cell? ⟨tb, toff + 2, none⟩ = some (.slice s.tabs[0].PA s.tabs[0].pk.length s.tabs[0].pc)) ∧ W.cell? ⟨tb, toff + 3, none⟩ = some (.string nOrder) ∧ W.cell? ⟨tb, toff + 3 + 1, none⟩ = some (.slice s.tabs[1].CA s.tabs[1].cols.length s.tabs[1].cc) ∧ W.cell? ⟨tb, toff + 3 + 2, none⟩ = some (.slice s.tabs[1].PA s.tabs[1].pk.length s.tabs[1].pc)) := Lib.hid fun W hW => by
    obtain ⟨tb', toff', e, -, p0, p1, p2⟩ := (hs.on hW).tabs.tbl h0l
    obtain ⟨tb2, toff2, e2, -, q0, q1, q2⟩ := (hs.on hW).tabs.tbl h1l
    rw [hTA] at e e2
    injection e with e
    injection e with e3 e4
    injection e2 with e2
    injection e2 with e5 e6
    subst e3 e4 e5 e6
    rw [hn0] at p0
    rw [hn1] at q0
    rw [Nat.zero_mul, Nat.add_zero] at p0 p1 p2
    rw [Nat.one_mul] at q0 q1 q2
    exact ⟨⟨p0, p1, p2⟩, q0, q1, q2⟩
  have HBK : Hid (∀ W, Below w1.heap.size w1 W → W.cell? ⟨w.heap.size, 0, none⟩ = some (.slice (some ⟨tb, toff, none⟩) 2 s.tc)) := Lib.hid fun W hW => by
    have h0 := (hW.block w.heap.size hs1).trans hg0
    unfold Sc.cells at h0
    rw [hTA, h2] at h0
    exact cell_of_row _ _ 0 _ _ _ h0
  have HB1 := Lib.hid hb1
  have HS1 := Lib.hid hs1
  have HW1 := Lib.hid hw1
  have c0 := HBK.out w1 (Below.refl _ _)
  have hmk := make_rels
  have HE1 := Lib.hid (EiB.new hb1)
  unfold Sc.cells at HW1
  unfold Sc.v Sc.cells
  rw [hTA, h2] at HW1 ⊢
  clear hs hn0 hn1 hb1 hg0 hs1 hw1 hTA h2
  go_enter Tryz.func23, Tryz.ntmps23
  go_upto_region 1 with fail
  rw [← HW1.out]
  go_upto_region 2 with fail
  obtain ⟨w2, hw2⟩ : ∃ w2, w2 = w1.alloc (.cells #[.string ⟨#[]⟩, .slice none 0 0, .string ⟨#[]⟩, .slice none 0 0] 78) := ⟨_, rfl⟩
  rw [← hw2] at HE1 ⊢
  have hb12 : Below w1.heap.size w1 w2 := by rw [hw2]; exact (Below.refl _ _).alloc (Nat.le_refl _) _
  have c2 := HBK.out w2 hb12
  have HG : Hid (w.heap.size ≤ w1.heap.size) := Lib.hid HB1.out.size
  generalize w1.heap.size = g at *
  clear hw2 hb12 c0
  go_wp2_with fail
  go_loopw [13] (fun vi wr => (vi = .int .i64 0 ∧ EiB w g ⟨#[]⟩ ⟨#[]⟩ wr) ∨ (vi = .int .i64 1 ∧ EiB w g nItem ⟨#[]⟩ wr) ∨ (vi = .int .i64 2 ∧ EiB w g nItem nOrder wr)) (fun vi _ => 2 - (intOf vi).toNat)
  case atStart => exact .inl ⟨rfl, HE1.out⟩
  case round =>
    obtain ⟨wo, rfl⟩ : ∃ wo, wo = wr := ⟨_, rfl⟩
    rcases hrel with ⟨rfl, hE⟩ | ⟨rfl, hE⟩ | ⟨rfl, hE⟩
    · obtain ⟨⟨p0, p1, p2⟩, -⟩ := HTB.out wo hE.2
      obtain ⟨w5, hw5⟩ : ∃ w5, w5 = wo.alloc (.cells #[.string nItem, .slice s.tabs[0].CA s.tabs[0].cols.length s.tabs[0].cc, .slice s.tabs[0].PA s.tabs[0].pk.length s.tabs[0].pc] 71) := ⟨_, rfl⟩
      have hb5 : Below wo.heap.size wo w5 := by rw [hw5]; exact (Below.refl _ _).alloc (Nat.le_refl _) _
      have hg5 : w5.heap[wo.heap.size]? = some (.cells #[.string nItem, .slice s.tabs[0].CA s.tabs[0].cols.length s.tabs[0].cc, .slice s.tabs[0].PA s.tabs[0].pk.length s.tabs[0].pc] 71 (0, 0)) := by rw [hw5]; exact heap_alloc_new wo _
      have t0 := cell_of_row _ _ 0 _ _ _ hg5
      have hE5 := hE.grow hb5
      obtain ⟨⟨q0, y0⟩, ⟨q2, y2⟩, y3⟩ := hE5.at
      have HF := Lib.hid (hE5.set0 (n := nItem) HG.out)
      have HW5 := Lib.hid hw5
      clear hE hw5 hb5 hg5 hE5
      go_upto_region 5 with fail
      rw [← HW5.out]
      go_wp2_with fail
      go_roundw
      case rel => exact .inr (.inl ⟨by go_num, HF.out⟩)
      case measure => simp [intOf]
    · obtain ⟨-, p0, p1, p2⟩ := HTB.out wo hE.2
      obtain ⟨w5, hw5⟩ : ∃ w5, w5 = wo.alloc (.cells #[.string nOrder, .slice s.tabs[1].CA s.tabs[1].cols.length s.tabs[1].cc, .slice s.tabs[1].PA s.tabs[1].pk.length s.tabs[1].pc] 71) := ⟨_, rfl⟩
      have hb5 : Below wo.heap.size wo w5 := by rw [hw5]; exact (Below.refl _ _).alloc (Nat.le_refl _) _
      have hg5 : w5.heap[wo.heap.size]? = some (.cells #[.string nOrder, .slice s.tabs[1].CA s.tabs[1].cols.length s.tabs[1].cc, .slice s.tabs[1].PA s.tabs[1].pk.length s.tabs[1].pc] 71 (0, 0)) := by rw [hw5]; exact heap_alloc_new wo _
      have t0 := cell_of_row _ _ 0 _ _ _ hg5
      have hE5 := hE.grow hb5
      obtain ⟨⟨q0, y0⟩, ⟨q2, y2⟩, y3⟩ := hE5.at
      have HF := Lib.hid (hE5.set1 (n := nOrder) HG.out)
      have HW5 := Lib.hid hw5
      clear hE hw5 hb5 hg5 hE5
      go_upto_region 5 with fail
      rw [← HW5.out]
      go_wp2_with fail
      go_roundw
      case rel => exact .inr (.inr ⟨by go_num, HF.out⟩)
      case measure => simp [intOf]
    · have HF := Lib.hid (And.intro hE.inst hE.2)
      clear hE
      go_wp2_with fail
      go_ret
      exact ⟨_, _, rfl, HF.out.1, HF.out.2⟩
end Go.Proofs.YtefifkleamiabaaGreatDoor

namespace Go.Proofs.YtefifkleamiabaaGreatDoor
open Go.RowKit Go.Sort

theorem quiet_same {P : Program} {f : FuncId} {args : Array Value} {w : World} {n : Nat} {v : Value}
    (h : Calls P f args (w.drewN n) fun e w' => e = .returned v ∧ w.drewN n = w') : Calls P f args (w.drewN n) fun e w'' => e = .returned v ∧ ∃ m, w'' = w.drewN m :=
  h.mono fun _ _ ⟨he, hm⟩ => ⟨he, n, hm.symm⟩
/-- One digit. -/
def dg (k : Nat) : ByteArray := ⟨#[UInt8.ofNat (48 + k)]⟩

set_option maxRecDepth 100000 in
theorem small1 (k : Nat) (hk : k < 10) (w : World) :
    Calls Tryz.prog 140 #[.int .i64 (k : Int)] w fun e w' => e = .returned (.string (dg k)) ∧ w = w' := by
  have h : k = 0 ∨ k = 1 ∨ k = 2 ∨ k = 3 ∨ k = 4 ∨ k = 5 ∨ k = 6 ∨ k = 7 ∨ k = 8 ∨ k = 9 := by omega
  rcases h with rfl | rfl | rfl | rfl | rfl | rfl | rfl | rfl | rfl | rfl
  all_goals
    go_enter Tryz.func140, Tryz.ntmps140
    go_wp2_with fail
    go_ret
    exact ⟨rfl, rfl⟩

set_option maxRecDepth 100000 in
theorem formatInt1 (k : Nat) (hk : k < 10) (w : World) :
    Calls Tryz.prog 121 #[.int .i64 (k : Int), .int .i64 10] w fun e w' => e = .returned (.string (dg k)) ∧ w = w' := by
  have HS := Lib.hid (small1 k hk w)
  have h1 : (0 : Int) ≤ (k : Int) := by omega
  have h2 : (k : Int) < 100 := by omega
  go_enter Tryz.func121, Tryz.ntmps121
  go_wp2_with fail
  refine HS.out.mono ?_
  rintro e w' ⟨rfl, rfl⟩
  go_wp2_with fail
  go_ret
  exact ⟨rfl, rfl⟩

theorem itoaIn1 (k : Nat) (hk : k < 10) (w : World) :
    Calls Tryz.prog 98 #[.int .i64 (k : Int)] w fun e w' => e = .returned (.string (dg k)) ∧ w = w' := by
  have HS := Lib.hid (formatInt1 k hk w)
  go_enter Tryz.func98, Tryz.ntmps98
  go_wp2_with fail
  refine HS.out.mono ?_
  rintro e w' ⟨rfl, rfl⟩
  go_wp2_with fail
  go_ret
  exact ⟨rfl, rfl⟩

theorem itoa1 (k : Nat) (hk : k < 10) (w : World) :
    Calls Tryz.prog 61 #[.int .i64 (k : Int)] w fun e w' => e = .returned (.string (dg k)) ∧ w = w' := by
  have HS := Lib.hid (itoaIn1 k hk w)
  go_enter Tryz.func61, Tryz.ntmps61
  go_wp2_with fail
  refine HS.out.mono ?_
  rintro e w' ⟨rfl, rfl⟩
  go_wp2_with fail
  go_ret
  exact ⟨rfl, rfl⟩

/-- A text with its length ahead. -/
def sz (s : ByteArray) : ByteArray := dg s.size ++ ⟨#[58]⟩ ++ s
theorem sz_size (s : ByteArray) : (sz s).size = 2 + s.size := by unfold sz; rw [ByteArray.size_append, ByteArray.size_append]; rfl
set_option maxRecDepth 100000 in
theorem sizedW (s : ByteArray) (hs : s.size < 10) (w : World) :
    Calls Tryz.prog 94 #[.string s] w fun e w' => e = .returned (.string (sz s)) ∧ w = w' := by
  have HS := Lib.hid (itoa1 s.size hs w)
  have h1 : (dg s.size).size = 1 := rfl
  have hz1 : ¬ 9223372036854775807 < (dg s.size).size + 1 := by omega
  have hz2 : ¬ 9223372036854775807 < (dg s.size).size + 1 + s.size := by omega
  clear h1
  go_enter Tryz.func94, Tryz.ntmps94
  go_wp2_with fail
  refine HS.out.mono ?_
  rintro e w' ⟨rfl, rfl⟩
  go_wp2_with fail
  go_ret
  exact ⟨rfl, rfl⟩

set_option maxRecDepth 100000 in
set_option maxHeartbeats 4000000 in
theorem foreignKeyIDW (f : FkM) (w : World) (hf : Elems 1 intCs w (· < w.heap.size) f.A f.cols) (hn : f.name.size < 10) (hr : f.ref.size < 10) (hl : f.cols.length ≤ 6) (hc : ∀ c ∈ f.cols, 0 ≤ c ∧ c < 10) :
    Calls Tryz.prog 55 #[f.val] w fun e w' => (∃ t, e = .returned (.string t)) ∧ Below w.heap.size w w' := by
  obtain ⟨w1, hw1⟩ : ∃ w1, w1 = w.alloc (.cells #[.string f.name, .slice f.A f.cols.length f.c, .string f.ref] 73) := ⟨_, rfl⟩
  have hb1 : Below w.heap.size w w1 := by rw [hw1]; exact (Below.refl _ _).alloc (Nat.le_refl _) _
  have hg1 : w1.heap[w.heap.size]? = some (.cells #[.string f.name, .slice f.A f.cols.length f.c, .string f.ref] 73 (0, 0)) := by rw [hw1]; exact heap_alloc_new w _
  have x0 := cell_of_row _ _ 0 _ _ _ hg1
  have x1 := cell_of_row _ _ 1 _ _ _ hg1
  have x2 := cell_of_row _ _ 2 _ _ _ hg1
  have HS1 := Lib.hid fun W => sizedW f.name hn W
  have HS2 := Lib.hid fun W => sizedW f.ref hr W
  have HF := Lib.hid (Elems.on hf hb1)
  have HC := Lib.hid hc
  have HB1 := Lib.hid hb1
  have HW1 := Lib.hid hw1
  have hs1 := sz_size f.name
  have hs2 := sz_size f.ref
  have hz : ¬ 9223372036854775807 < (sz f.name).size + (sz f.ref).size := by omega
  have HZ : Hid ((sz f.name ++ sz f.ref).size ≤ 30) := Lib.hid (by rw [ByteArray.size_append]; omega)
  obtain ⟨n, hl2⟩ : ∃ n, f.cols.length = n := ⟨_, rfl⟩
  rw [hl2] at hl
  have HL := Lib.hid hl2
  unfold FkM.val
  rw [hl2] at HW1 x1 ⊢
  clear hf hn hr hc hb1 hw1 hg1 hl2 hs1 hs2
  generalize sz f.name = t1 at *
  generalize sz f.ref = t2 at *
  go_enter Tryz.func55, Tryz.ntmps55
  go_upto_region 1 with fail
  rw [← HW1.out]
  go_quiet (first | (go_at_call 94; exact quiet_same (HS1.out _)) | (go_at_call 94; exact quiet_same (HS2.out _)))
  go_wp2_with fail
  go_loopw [3, 16] (fun v3 vi wr => ∃ (k : Nat) (t : ByteArray), vi = .int .i64 (k : Int) ∧ k ≤ n ∧ v3 = .string t ∧ t.size ≤ 30 + 2 * k ∧ Below w1.heap.size w1 wr) (fun _ vi _ => n - (intOf vi).toNat)
  case atStart => exact ⟨0, _, rfl, by omega, rfl, HZ.out, by first | exact Below.refl _ _ | exact below_drewN (Below.refl _ _) _⟩
  case round =>
    obtain ⟨k, t, rfl, hkn, rfl, hts, hb⟩ := hrel
    obtain ⟨wo, rfl⟩ : ∃ wo, wo = wr := ⟨_, rfl⟩
    by_cases hlt : k < n
    · have hki : k < f.cols.length := by have := HL.out; omega
      obtain ⟨b, off, hA, -, q0⟩ := (HF.out.on hb).int hki
      obtain ⟨hc0, hc1⟩ := HC.out _ (List.getElem_mem hki)
      obtain ⟨c, hcc⟩ := Int.eq_ofNat_of_zero_le hc0
      rw [hcc] at q0
      have hc10 : c < 10 := by omega
      have HI := Lib.hid (itoa1 c hc10 wo)
      have hlt' : (k : Int) < (n : Int) := by omega
      have hd1 : (dg c).size = 1 := rfl
      have ha1 : ((⟨#[44]⟩ : ByteArray) ++ dg c).size = 2 := by rw [ByteArray.size_append]; rfl
      have hz1 : ¬ 9223372036854775807 < 1 + (dg c).size := by omega
      have hz2 : ¬ 9223372036854775807 < t.size + (1 + (dg c).size) := by omega
      have HT2 : Hid ((t ++ (⟨#[44]⟩ ++ dg c)).size ≤ 30 + 2 * (k + 1)) := Lib.hid (by rw [ByteArray.size_append, ha1]; omega)
      have HB := Lib.hid hb
      rw [hA]
      clear hd1 ha1 hc0 hc1 hcc hb hts
      go_wp2_with fail
      refine HI.out.mono ?_
      rintro e w' ⟨rfl, rfl⟩
      go_wp2_with fail
      go_roundw
      case rel => exact ⟨k + 1, _, by go_num, by omega, rfl, HT2.out, HB.out⟩
      case measure => simp [intOf]; omega
    · have hkn' : k = n := by omega
      subst hkn'
      have HF2 := Lib.hid (HB1.out.trans (hb.mono HB1.out.size))
      clear hb
      go_wp2_with fail
      go_ret
      exact ⟨⟨_, rfl⟩, HF2.out⟩
end Go.Proofs.YtefifkleamiabaaGreatDoor

namespace Go.Proofs.YtefifkleamiabaaGreatDoor
open Go.RowKit Go.Sort

theorem nil_of_empty {s : ByteArray} (h : s.toList.isEmpty = true) : s = ⟨#[]⟩ := by
  have h1 : s.toList = [] := List.isEmpty_iff.1 h
  have h2 : s.data.toList = [] := by rw [ByteArray.toList_eq] at h1; exact h1
  obtain ⟨a⟩ := s
  obtain ⟨l⟩ := a
  have h2 : l = [] := h2
  subst h2
  rfl
/-- A valid value, kind by kind. -/
theorem err_cases {v : Val} (h : v.err = 0) : (v = ⟨0, 0, ⟨#[]⟩⟩) ∨ (v.kind = 1 ∧ v.text = ⟨#[]⟩ ∧ -1000000000000 ≤ v.int ∧ v.int ≤ 1000000000000) ∨ (v.kind = 2 ∧ v.text = ⟨#[]⟩ ∧ (v.int = 0 ∨ v.int = 1)) ∨ (v.kind = 3 ∧ v.int = 0 ∧ v.text.size ≤ 24) := by
  obtain ⟨k, n, s⟩ := v
  have h : vErr k n s = 0 := h
  unfold vErr at h
  by_cases h0 : k = 0
  · rw [if_pos h0] at h
    by_cases h1 : n = 0 ∧ s.toList.isEmpty = true
    · refine .inl ?_
      rw [h0, h1.1, nil_of_empty h1.2]
    · rw [if_neg h1] at h; cases h
  · rw [if_neg h0] at h
    by_cases h1 : k = 1 ∨ k = 2
    · rw [if_pos h1] at h
      by_cases h2 : s.toList.isEmpty = false
      · rw [if_pos h2] at h; cases h
      · rw [if_neg h2] at h
        have hs : s = ⟨#[]⟩ := nil_of_empty (by simpa using h2)
        by_cases h3 : (k = 2 ∧ n ≠ 0 ∧ n ≠ 1) ∨ n < -1000000000000 ∨ 1000000000000 < n
        · rw [if_pos h3] at h; cases h
        · rcases h1 with h1 | h1
          · exact .inr (.inl ⟨h1, hs, by show -1000000000000 ≤ n; omega, by show n ≤ 1000000000000; omega⟩)
          · exact .inr (.inr (.inl ⟨h1, hs, by show n = 0 ∨ n = 1; omega⟩))
    · rw [if_neg h1] at h
      by_cases h2 : k = 3
      · rw [if_pos h2] at h
        by_cases h3 : n ≠ 0
        · rw [if_pos h3] at h; cases h
        · rw [if_neg h3] at h
          by_cases h4 : 24 < s.size
          · rw [if_pos h4] at h; cases h
          · exact .inr (.inr (.inr ⟨h2, by simpa using h3, by show s.size ≤ 24; omega⟩))
      · rw [if_neg h2] at h; cases h

set_option maxRecDepth 100000 in
set_option maxHeartbeats 4000000 in
theorem rValidate (v : Val) (w : World) (h : v.err = 0) :
    Calls Tryz.prog 59 #[.agg #[.int .i64 v.kind, .int .i64 v.int, .string v.text]] w fun e w' => e = .returned (.int .i64 0) ∧ Below w.heap.size w w' := by
  have HB : Hid (∀ o, Below w.heap.size w (w.alloc o)) := Lib.hid fun o => (Below.refl _ _).alloc (Nat.le_refl _) o
  obtain ⟨k, n, s⟩ := v
  rcases err_cases h with h1 | ⟨h1, h2, h3, h4⟩ | ⟨h1, h2, h3⟩ | ⟨h1, h2, h3⟩
  · injection h1 with e1 e2 e3
    subst e1 e2 e3
    clear h
    simp only
    go_enter Tryz.func59, Tryz.ntmps59
    go_wp2_with fail
    go_ret
    exact ⟨rfl, HB.out _⟩
  · simp only at h1 h2 h3 h4
    subst h1 h2
    have h5 : ¬ (1000000000000 : Int) < n := by omega
    have h6 : ¬ n < (-1000000000000 : Int) := by omega
    clear h
    simp only
    go_enter Tryz.func59, Tryz.ntmps59
    go_wp2_with fail
    go_ret
    exact ⟨rfl, HB.out _⟩
  · simp only at h1 h2 h3
    subst h1 h2
    clear h
    simp only
    rcases h3 with rfl | rfl
    · go_enter Tryz.func59, Tryz.ntmps59
      go_wp2_with fail
      go_ret
      exact ⟨rfl, HB.out _⟩
    · go_enter Tryz.func59, Tryz.ntmps59
      go_wp2_with fail
      go_ret
      exact ⟨rfl, HB.out _⟩
  · simp only at h1 h2 h3
    subst h1 h2
    have h5 : ¬ (24 : Int) < (s.size : Int) := by omega
    clear h h3
    simp only
    go_enter Tryz.func59, Tryz.ntmps59
    go_wp2_with fail
    go_ret
    exact ⟨rfl, HB.out _⟩
set_option maxRecDepth 100000 in
set_option maxHeartbeats 1000000 in
theorem projectB (A : Option Addr) (c : Nat) (row : Row) (B : Option Addr) (d : Nat) (pk : List Int) (w : World) (hx : Elems 3 Val.cs w (· < w.heap.size) A row) (hy : Elems 1 intCs w (· < w.heap.size) B pk) (hp : pk.length ≤ 1000) :
    Calls Tryz.prog 52 #[.slice A row.length c, .slice B pk.length d] w fun e w' => ∃ v, e = .returned v ∧ Own 3 Val.cs 60 w.heap.size w' v (keyOf pk row) ∧ Below w.heap.size w w' := by
  have HP := Lib.hid hy
  have HX := Lib.hid hx
  obtain ⟨n, hn⟩ : ∃ n, pk.length = n := ⟨_, rfl⟩
  rw [hn] at hp ⊢
  have HN := Lib.hid hn
  clear hx hy hn
  go_enter Tryz.func52, Tryz.ntmps52
  go_wp2_with fail
  go_loopw [5, 11] (fun v5 vi wr => ∃ k : Nat, vi = .int .i64 (k : Int) ∧ k ≤ n ∧ Own 3 Val.cs 60 w.heap.size wr v5 (keyOf (pk.take k) row) ∧ Below w.heap.size w wr) (fun _ vi _ => n - (intOf vi).toNat)
  case atStart => exact ⟨0, rfl, by omega, Own.nil _, Below.refl _ _⟩
  case round =>
    obtain ⟨k, rfl, hkn, ho, hb⟩ := hrel
    by_cases hlt : k < n
    · have hki : k < pk.length := by have := HN.out; omega
      obtain ⟨b, off, rfl, hbs, c0⟩ := (HP.out.on hb).int hki
      have HKO := Lib.hid (keyOf_take (row := row) hki)
      have HX1 := Lib.hid (HX.out.on hb)
      have hki' : (k : Int) < (n : Int) := by omega
      generalize pk[k] = col at *
      have HL1 : Hid (((keyOf (pk.take k) row).length + 1) * 32 ≤ 140737488355328) := Lib.hid (by unfold keyOf; rw [List.length_map, List.length_take]; omega)
      have HL2 : Hid ((keyOf (pk.take k) row).length + 1 ≤ maxLen) := Lib.hid (by unfold keyOf maxLen; rw [List.length_map, List.length_take]; omega)
      have HO1 : Hid (∀ o, Own 3 Val.cs 60 w.heap.size (wr.alloc o) u5 (keyOf (pk.take k) row)) := Lib.hid fun o => ho.alloc o
      have HS1 : Hid (∀ o, w.heap.size ≤ (wr.alloc o).heap.size) := Lib.hid fun o => le_size1 hb.size o
      have HFR : Hid (∀ o w2 v2, Ext (wr.alloc o) u5 w2 v2 → Below w.heap.size w w2) := Lib.hid fun o w2 v2 hx => (hb.alloc hb.size o).trans (hx.below (le_size1 hb.size o) fun g hg => (ho.lt g hg).1)
      have hcrow : ∀ o, Elems 3 Val.cs (wr.alloc o) (fun k => k < (wr.alloc o).heap.size) A row := fun o => HX1.out.on ((Below.refl _ _).alloc (Nat.le_refl _) o)
      by_cases hin : 0 ≤ col ∧ col < (row.length : Int)
      · obtain ⟨j, rfl⟩ := Int.eq_ofNat_of_zero_le hin.1
        have hj : j < row.length := by omega
        have hka : keyAt row (j : Int) = row[j] := by
          unfold keyAt
          rw [if_pos hin, Int.toNat_natCast, List.getD_eq_getElem?_getD, List.getElem?_eq_getElem hj]
          rfl
        have HKA := Lib.hid hka
        obtain ⟨b', off', rfl, hbs', -⟩ := HX1.out.val hj
        have e0 : ∀ o, (wr.alloc o).cell? ⟨b', off' + j * 3, none⟩ = some (.int .i64 row[j].kind) ∧ (wr.alloc o).cell? ⟨b', off' + j * 3 + 1, none⟩ = some (.int .i64 row[j].int) ∧ (wr.alloc o).cell? ⟨b', off' + j * 3 + 2, none⟩ = some (.string row[j].text) := fun o => by
          obtain ⟨b'', off'', e, -, h⟩ := (hcrow o).val hj
          injection e with e
          injection e with e1 e2
          subst e1 e2
          exact h
        have d0 := fun o => (e0 o).1
        have d1 := fun o => (e0 o).2.1
        have d2 := fun o => (e0 o).2.2
        have hj2 : (j : Int) < (row.length : Int) := hin.2
        have HB2 := Lib.hid hb
        clear hka hin ho e0 hcrow hbs' hb
        generalize row[j] = x at *
        go_wp2_with (at_builtin; refine wpList_app rfl (.tmp 28) (.tmp 30) _ _ rfl rfl rfl (run_push elem_val valLay _ _ _ (keyOf (pk.take k) row) x _ (HO1.out _) rfl HL1.out HL2.out (HS1.out _) (size1 _ _)) ?_; rintro v2 w2 ⟨ho2, hx2⟩)
        have HF : Hid (Own 3 Val.cs 60 w.heap.size w2 v2 (keyOf (pk.take (k + 1)) row) ∧ Below w.heap.size w w2) := Lib.hid ⟨by rw [HKO.out, HKA.out]; exact ho2, HFR.out _ _ _ hx2⟩
        clear ho2 hx2
        go_wp2_with fail
        go_roundw
        case rel => exact ⟨k + 1, by go_num, by omega, HF.out.1, HF.out.2⟩
        case measure => simp [intOf]; omega
      · have HKA : Hid (keyAt row col = zeroV) := Lib.hid (if_neg hin)
        rcases Int.lt_or_le col 0 with hc | hc
        · clear hin hb ho hcrow
          go_wp2_with (at_builtin; refine wpList_app rfl (.tmp 28) (.tmp 30) _ _ rfl rfl rfl (run_push elem_val valLay _ _ _ (keyOf (pk.take k) row) zeroV _ (HO1.out _) rfl HL1.out HL2.out (HS1.out _) (size1 _ _)) ?_; rintro v2 w2 ⟨ho2, hx2⟩)
          have HF : Hid (Own 3 Val.cs 60 w.heap.size w2 v2 (keyOf (pk.take (k + 1)) row) ∧ Below w.heap.size w w2) := Lib.hid ⟨by rw [HKO.out, HKA.out]; exact ho2, HFR.out _ _ _ hx2⟩
          clear ho2 hx2
          go_wp2_with fail
          go_roundw
          case rel => exact ⟨k + 1, by go_num, by omega, HF.out.1, HF.out.2⟩
          case measure => simp [intOf]; omega
        · have hc2 : (row.length : Int) ≤ col := by omega
          clear hin hb ho hcrow
          go_wp2_with (at_builtin; refine wpList_app rfl (.tmp 28) (.tmp 30) _ _ rfl rfl rfl (run_push elem_val valLay _ _ _ (keyOf (pk.take k) row) zeroV _ (HO1.out _) rfl HL1.out HL2.out (HS1.out _) (size1 _ _)) ?_; rintro v2 w2 ⟨ho2, hx2⟩)
          have HF : Hid (Own 3 Val.cs 60 w.heap.size w2 v2 (keyOf (pk.take (k + 1)) row) ∧ Below w.heap.size w w2) := Lib.hid ⟨by rw [HKO.out, HKA.out]; exact ho2, HFR.out _ _ _ hx2⟩
          clear ho2 hx2
          go_wp2_with fail
          go_roundw
          case rel => exact ⟨k + 1, by go_num, by omega, HF.out.1, HF.out.2⟩
          case measure => simp [intOf]; omega
    · have hkn' : k = n := by omega
      subst hkn'
      have HF : Hid (Own 3 Val.cs 60 w.heap.size wr u5 (keyOf pk row) ∧ Below w.heap.size w wr) := Lib.hid ⟨by rwa [List.take_of_length_le (by have := HN.out; omega)] at ho, hb⟩
      clear ho hb
      go_wp2_with fail
      go_ret
      exact ⟨_, rfl, HF.out.1, HF.out.2⟩


set_option maxRecDepth 100000 in
set_option maxHeartbeats 1000000 in
theorem keyOfB (t : Tbl) (A : Option Addr) (c : Nat) (row : Row) (w : World) (ht : TOk (· < w.heap.size) w t) (hx : Elems 3 Val.cs w (· < w.heap.size) A row) (hp : t.pk.length ≤ 1000) :
    Calls Tryz.prog 25 #[t.val, .slice A row.length c] w fun e w' => ∃ v, e = .returned v ∧ Own 3 Val.cs 60 w.heap.size w' v (keyOf t.pk row) ∧ Below w.heap.size w w' := by
  obtain ⟨name, CA, cc, cols, PA, pc, pk⟩ := t
  have HP : Hid (∀ o, Calls Tryz.prog 52 #[.slice A row.length c, .slice PA pk.length pc] (w.alloc o) fun e w' => ∃ v, e = .returned v ∧ Own 3 Val.cs 60 w.heap.size w' v (keyOf pk row) ∧ Below w.heap.size w w') := Lib.hid fun o => by
    have hb : Below w.heap.size w (w.alloc o) := (Below.refl _ _).alloc (Nat.le_refl _) o
    refine (projectB A c row PA pc pk (w.alloc o) (hx.on hb) (ht.pk.on hb) hp).mono ?_
    rintro e w' ⟨v, rfl, ho, hb'⟩
    exact ⟨v, rfl, ho.mono hb.size, hb.trans (hb'.mono hb.size)⟩
  clear ht hx hp
  unfold Tbl.val
  simp only
  generalize pk.length = n at *
  generalize row.length = m at *
  go_enter Tryz.func25, Tryz.ntmps25
  go_wp2_with fail
  refine (HP.out _).mono ?_
  rintro e w' ⟨v, rfl, ho, hb⟩
  have HF : Hid (Own 3 Val.cs 60 w.heap.size w' v (keyOf pk row) ∧ Below w.heap.size w w') := Lib.hid ⟨ho, hb⟩
  clear ho hb
  go_wp2_with fail
  go_ret
  exact ⟨_, rfl, HF.out.1, HF.out.2⟩

/-- How the reference compares two keys of one integer. -/
def c1 (x y : Int) : Int := if x < y then -1 else if y < x then 1 else 0
set_option maxRecDepth 100000 in
theorem rLess1 (x y : Int) (w : World) :
    Calls Tryz.prog 96 #[.agg #[.int .i64 1, .int .i64 x, .string ⟨#[]⟩], .agg #[.int .i64 1, .int .i64 y, .string ⟨#[]⟩]] w fun e w' => e = .returned (.bool (decide (x < y))) ∧ Below w.heap.size w w' := by
  have HB : Hid (∀ o o', Below w.heap.size w ((w.alloc o).alloc o')) := Lib.hid fun o o' => ((Below.refl _ _).alloc (Nat.le_refl _) o).alloc (le_size1 (Nat.le_refl _) _) o'
  by_cases hxy : x = y
  · subst hxy
    have hl : decide (x < x) = false := decide_eq_false (by omega)
    rw [hl]
    have HL := Lib.hid hl
    clear hl
    have hb : Op.bytesLess (⟨#[]⟩ : ByteArray).toList (⟨#[]⟩ : ByteArray).toList = false := by decide +kernel
    go_enter Tryz.func96, Tryz.ntmps96
    go_wp2_with fail
    go_ret
    exact ⟨by first | rfl | exact ret_bool hb, HB.out _ _⟩
  · have hne : (x != y) = true := by simpa using hxy
    go_enter Tryz.func96, Tryz.ntmps96
    go_wp2_with fail
    go_ret
    exact ⟨by simp, HB.out _ _⟩
end Go.Proofs.YtefifkleamiabaaGreatDoor

namespace Go.Proofs
open Go.Shelf
def Tryz.lays169_ren : Go.Shelf.Ren := ⟨fun | 169 => 62 | n => n, fun | 70 => 122 | 9 => 9 | 0 => 0 | 72 => 125 | 37 => 123 | 127 => 155 | 3 => 3 | 5 => 5 | n => n, fun | n => n⟩
theorem Tryz.lays169 : Go.Proofs.Lays.n169 Tryz.prog Tryz.lays169_ren := {
  mixed := by kernel_rfl
  f169 := Tryz.func62.trans (congrArg some (by kernel_rfl))
  t0 := Tryz.underlying0
  a0 := Tryz.isAgg0
  z0 := Tryz.sizeOf0
  v0 := Tryz.zeroValue0
  t3 := Tryz.underlying3
  a3 := Tryz.isAgg3
  z3 := Tryz.sizeOf3
  v3 := Tryz.zeroValue3
  t9 := Tryz.underlying9
  a9 := Tryz.isAgg9
  z9 := Tryz.sizeOf9
  v9 := Tryz.zeroValue9
  t37 := Tryz.underlying123
  a37 := Tryz.isAgg123
  z37 := Tryz.sizeOf123
  v37 := Tryz.zeroValue123
  t70 := Tryz.underlying122
  a70 := Tryz.isAgg122
  z70 := Tryz.sizeOf122
  v70 := Tryz.zeroValue122
  t72 := Tryz.underlying125
  a72 := Tryz.isAgg125
  z72 := Tryz.sizeOf125
  v72 := Tryz.zeroValue125
  t127 := Tryz.underlying155
  a127 := Tryz.isAgg155
  z127 := Tryz.sizeOf155
  v127 := Tryz.zeroValue155 }
theorem Tryz.Builder_Extra_169 : Builder.Extra Tryz.prog Tryz.lays169_ren := {
  sizeBuilder := by kernel_rfl
  liesBuilder := by kernel_rfl
  t5 := Tryz.underlying5
  a5 := Tryz.isAgg5
  z5 := Tryz.sizeOf5
  v5 := Tryz.zeroValue5
  infoByte := by kernel_rfl
  cellsByte := by kernel_rfl
  sizeByte := by kernel_rfl
  neB5 := by decide }
open Go.RowKit in
theorem Tryz.Builder_String_any (B b : Nat) (l : List UInt8) (w : World) (h : Lib.IsBuilder 125 5 B b (Lib.byteCells l) w) (hBw : B ≤ w.heap.size) :
    Calls Tryz.prog 62 #[.pointer (some ⟨b, 0, none⟩)] w fun e w' => e = .returned (.string ⟨l.toArray⟩) ∧ Below B w w' := Any.Builder_String_any Tryz.lays169 Tryz.Builder_Extra_169 B b l w h hBw
def Tryz.lays160_ren : Go.Shelf.Ren := ⟨fun | 160 => 119 | 232 => 134 | 231 => 133 | 227 => 135 | 234 => 137 | 233 => 136 | 236 => 139 | 235 => 138 | 228 => 149 | 271 => 152 | 151 => 151 | 197 => 150 | 120 => 167 | 152 => 166 | 260 => 165 | 137 => 173 | 119 => 174 | 224 => 163 | 225 => 162 | 217 => 161 | 266 => 171 | n => n, fun | 9 => 9 | 4 => 4 | 3 => 3 | 5 => 5 | 117 => 189 | 116 => 188 | 0 => 0 | 124 => 192 | 21 => 21 | 105 => 202 | 46 => 199 | 119 => 218 | 139 => 221 | 138 => 220 | n => n, fun | 3 => 2 | 4 => 3 | n => n⟩
theorem Tryz.lays160 : Go.Proofs.Lays.n160 Tryz.prog Tryz.lays160_ren := {
  mixed := by kernel_rfl
  f119 := Tryz.func174.trans (congrArg some (by kernel_rfl))
  f120 := Tryz.func167.trans (congrArg some (by kernel_rfl))
  f137 := Tryz.func173.trans (congrArg some (by kernel_rfl))
  f151 := Tryz.func151.trans (congrArg some (by kernel_rfl))
  f152 := Tryz.func166.trans (congrArg some (by kernel_rfl))
  f160 := Tryz.func119.trans (congrArg some (by kernel_rfl))
  f197 := Tryz.func150.trans (congrArg some (by kernel_rfl))
  f217 := Tryz.func161.trans (congrArg some (by kernel_rfl))
  f224 := Tryz.func163.trans (congrArg some (by kernel_rfl))
  f225 := Tryz.func162.trans (congrArg some (by kernel_rfl))
  f227 := Tryz.func135.trans (congrArg some (by kernel_rfl))
  f228 := Tryz.func149.trans (congrArg some (by kernel_rfl))
  f231 := Tryz.func133.trans (congrArg some (by kernel_rfl))
  f232 := Tryz.func134.trans (congrArg some (by kernel_rfl))
  f233 := Tryz.func136.trans (congrArg some (by kernel_rfl))
  f234 := Tryz.func137.trans (congrArg some (by kernel_rfl))
  f235 := Tryz.func138.trans (congrArg some (by kernel_rfl))
  f236 := Tryz.func139.trans (congrArg some (by kernel_rfl))
  f260 := Tryz.func165.trans (congrArg some (by kernel_rfl))
  f266 := Tryz.func171.trans (congrArg some (by kernel_rfl))
  f271 := Tryz.func152.trans (congrArg some (by kernel_rfl))
  t0 := Tryz.underlying0
  a0 := Tryz.isAgg0
  z0 := Tryz.sizeOf0
  v0 := Tryz.zeroValue0
  t3 := Tryz.underlying3
  a3 := Tryz.isAgg3
  z3 := Tryz.sizeOf3
  v3 := Tryz.zeroValue3
  t4 := Tryz.underlying4
  a4 := Tryz.isAgg4
  z4 := Tryz.sizeOf4
  v4 := Tryz.zeroValue4
  t5 := Tryz.underlying5
  a5 := Tryz.isAgg5
  z5 := Tryz.sizeOf5
  v5 := Tryz.zeroValue5
  t9 := Tryz.underlying9
  a9 := Tryz.isAgg9
  z9 := Tryz.sizeOf9
  v9 := Tryz.zeroValue9
  t21 := Tryz.underlying21
  a21 := Tryz.isAgg21
  z21 := Tryz.sizeOf21
  v21 := Tryz.zeroValue21
  t46 := Tryz.underlying199
  a46 := Tryz.isAgg199
  z46 := Tryz.sizeOf199
  v46 := Tryz.zeroValue199
  t105 := Tryz.underlying202
  a105 := Tryz.isAgg202
  z105 := Tryz.sizeOf202
  v105 := Tryz.zeroValue202
  t116 := Tryz.underlying188
  a116 := Tryz.isAgg188
  z116 := Tryz.sizeOf188
  t117 := Tryz.underlying189
  a117 := Tryz.isAgg189
  z117 := Tryz.sizeOf189
  v117 := Tryz.zeroValue189
  t119 := Tryz.underlying218
  a119 := Tryz.isAgg218
  z119 := Tryz.sizeOf218
  t124 := Tryz.underlying192
  a124 := Tryz.isAgg192
  z124 := Tryz.sizeOf192
  v124 := Tryz.zeroValue192
  t138 := Tryz.underlying220
  a138 := Tryz.isAgg220
  z138 := Tryz.sizeOf220
  v138 := Tryz.zeroValue220
  t139 := Tryz.underlying221
  a139 := Tryz.isAgg221
  z139 := Tryz.sizeOf221
  v139 := Tryz.zeroValue221
  g3 := by kernel_rfl
  g4 := by kernel_rfl }
def Tryz.lays144_ren : Go.Shelf.Ren := ⟨fun | 144 => 118 | 143 => 132 | 219 => 148 | 217 => 161 | 225 => 162 | 224 => 163 | 267 => 164 | 266 => 171 | 314 => 172 | n => n, fun | 9 => 9 | 4 => 4 | 3 => 3 | 5 => 5 | 46 => 199 | 146 => 216 | 51 => 208 | n => n, fun | 1 => 1 | n => n⟩
theorem Tryz.lays144 : Go.Proofs.Lays.n144 Tryz.prog Tryz.lays144_ren := {
  mixed := by kernel_rfl
  f143 := Tryz.func132.trans (congrArg some (by kernel_rfl))
  f144 := Tryz.func118.trans (congrArg some (by kernel_rfl))
  f217 := Tryz.func161.trans (congrArg some (by kernel_rfl))
  f219 := Tryz.func148.trans (congrArg some (by kernel_rfl))
  f224 := Tryz.func163.trans (congrArg some (by kernel_rfl))
  f225 := Tryz.func162.trans (congrArg some (by kernel_rfl))
  f266 := Tryz.func171.trans (congrArg some (by kernel_rfl))
  f267 := Tryz.func164.trans (congrArg some (by kernel_rfl))
  f314 := Tryz.func172.trans (congrArg some (by kernel_rfl))
  t3 := Tryz.underlying3
  a3 := Tryz.isAgg3
  z3 := Tryz.sizeOf3
  v3 := Tryz.zeroValue3
  t4 := Tryz.underlying4
  a4 := Tryz.isAgg4
  z4 := Tryz.sizeOf4
  v4 := Tryz.zeroValue4
  t5 := Tryz.underlying5
  a5 := Tryz.isAgg5
  z5 := Tryz.sizeOf5
  v5 := Tryz.zeroValue5
  t9 := Tryz.underlying9
  a9 := Tryz.isAgg9
  z9 := Tryz.sizeOf9
  v9 := Tryz.zeroValue9
  t46 := Tryz.underlying199
  a46 := Tryz.isAgg199
  z46 := Tryz.sizeOf199
  v46 := Tryz.zeroValue199
  t51 := Tryz.underlying208
  a51 := Tryz.isAgg208
  z51 := Tryz.sizeOf208
  v51 := Tryz.zeroValue208
  t146 := Tryz.underlying216
  a146 := Tryz.isAgg216
  z146 := Tryz.sizeOf216
  v146 := Tryz.zeroValue216
  g1 := by kernel_rfl }
open Go.RowKit Go.Lib in
theorem Tryz.strings_Contains_one (s : ByteArray) (c : UInt8) (w : World) :
    Calls Tryz.prog 118 #[.string s, .string ⟨#[c]⟩] w fun e w' => e = .returned (.bool (decide (0 ≤ Lib.indexByte s.data.toList c))) ∧ w' = w := Any.strings_Contains_one Tryz.lays144 s c w
def Tryz.lays166_ren : Go.Shelf.Ren := ⟨fun | 166 => 60 | 240 => 97 | 276 => 120 | n => n, fun | 20 => 20 | 37 => 123 | 70 => 122 | 72 => 125 | 75 => 127 | 164 => 174 | 80 => 131 | n => n, fun | n => n⟩
theorem Tryz.lays166 : Go.Proofs.Lays.n166 Tryz.prog Tryz.lays166_ren := {
  mixed := by kernel_rfl
  f166 := Tryz.func60.trans (congrArg some (by kernel_rfl))
  f240 := Tryz.func97.trans (congrArg some (by kernel_rfl))
  f276 := Tryz.func120.trans (congrArg some (by kernel_rfl))
  t0 := Tryz.underlying0
  a0 := Tryz.isAgg0
  z0 := Tryz.sizeOf0
  v0 := Tryz.zeroValue0
  t3 := Tryz.underlying3
  a3 := Tryz.isAgg3
  z3 := Tryz.sizeOf3
  v3 := Tryz.zeroValue3
  t4 := Tryz.underlying4
  a4 := Tryz.isAgg4
  z4 := Tryz.sizeOf4
  v4 := Tryz.zeroValue4
  t9 := Tryz.underlying9
  a9 := Tryz.isAgg9
  z9 := Tryz.sizeOf9
  v9 := Tryz.zeroValue9
  t20 := Tryz.underlying20
  a20 := Tryz.isAgg20
  z20 := Tryz.sizeOf20
  v20 := Tryz.zeroValue20
  t37 := Tryz.underlying123
  a37 := Tryz.isAgg123
  z37 := Tryz.sizeOf123
  v37 := Tryz.zeroValue123
  t70 := Tryz.underlying122
  a70 := Tryz.isAgg122
  z70 := Tryz.sizeOf122
  v70 := Tryz.zeroValue122
  t72 := Tryz.underlying125
  a72 := Tryz.isAgg125
  z72 := Tryz.sizeOf125
  v72 := Tryz.zeroValue125
  t75 := Tryz.underlying127
  a75 := Tryz.isAgg127
  z75 := Tryz.sizeOf127
  v75 := Tryz.zeroValue127
  t164 := Tryz.underlying174
  a164 := Tryz.isAgg174
  z164 := Tryz.sizeOf174
  v164 := Tryz.zeroValue174 }
theorem Tryz.Builder_Extra_166 : Builder.Extra Tryz.prog Tryz.lays166_ren := {
  sizeBuilder := by kernel_rfl
  liesBuilder := by kernel_rfl
  t5 := Tryz.underlying5
  a5 := Tryz.isAgg5
  z5 := Tryz.sizeOf5
  v5 := Tryz.zeroValue5
  infoByte := by kernel_rfl
  cellsByte := by kernel_rfl
  sizeByte := by kernel_rfl
  neB5 := by decide }
open Go.RowKit in
theorem Tryz.Builder_WriteString (B b : Nat) (bs : List Value) (s : ByteArray) (w : World) (h : Lib.IsBuilder 125 5 B b bs w) (hlen : bs.length + s.size ≤ 140737488355328) (hBw : B ≤ w.heap.size) :
    Calls Tryz.prog 60 #[.pointer (some ⟨b, 0, none⟩), .string s] w fun e w' => e = .returned (.tuple #[.int .i64 s.size, .nilIface]) ∧ (Lib.BuilderAt 125 5 B b (.pointer (some ⟨b, 0, none⟩)) (bs ++ Lib.strCells s) w' ∧ Below B w w') := Any.Builder_WriteString Tryz.lays166 Tryz.Builder_Extra_166 B b bs s w h hlen hBw
open Go.RowKit in
theorem Tryz.strings_Trim (s cutset : ByteArray) (w : World) (hs : s.size ≤ 9223372036854775807) (hcs : cutset.size < 4294967281) (hascii : ∀ (j : Nat) (b : UInt8), cutset.data.toList[j]? = some b → b.toNat < 128) :
    Calls Tryz.prog 119 #[.string s, .string cutset] w fun e w' => e = .returned (.string ⟨(Lib.trimS s.data.toList cutset.data.toList).toArray⟩) ∧ Below w.heap.size w w' := Any.strings_Trim_laid Tryz.lays160 (by kernel_rfl) s cutset w hs hcs hascii
end Go.Proofs
