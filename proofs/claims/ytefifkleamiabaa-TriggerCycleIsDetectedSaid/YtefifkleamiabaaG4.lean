/-
  The walk of schema.validateForeignKey, where the key is valid.
-/
import Derived.Test.YtefifkleamiabaaG3
import Derived.Deep.CutRange
import Derived.Deep.RegionLaw
import Derived.Deep.RegionHeld3
import Derived.BigRegion
namespace Go.Proofs.Ytefifkleamiabaa
open Go.RowKit

theorem two_new (w : World) (a b : Obj) : ((w.alloc a).alloc b).drew.heap[w.heap.size]? = some a ∧ ((w.alloc a).alloc b).drew.heap[w.heap.size + 1]? = some b ∧ Below w.heap.size w ((w.alloc a).alloc b).drew := by
  refine ⟨?_, alloc2_at w a b, (((Below.refl _ _).alloc (Nat.le_refl _) _).alloc (le_size1 (Nat.le_refl _) _) _).drew⟩
  show ((w.alloc a).alloc b).heap[w.heap.size]? = some a
  rw [Below.heap_alloc _ _ _ (by simp)]
  exact heap_alloc_new w a

/-- A valid foreign key: from table i to table k. -/
structure FkV (s : Sc) (f : FkM) (i k : Nat) : Prop where
  il : i < s.tabs.length
  kl : k < s.tabs.length
  fi : tabI f.name s.tabs = (i : Int)
  fk : tabI f.ref s.tabs = (k : Int)
  len : f.cols.length = s.tabs[k].pk.length
  col : ∀ (j : Nat) (h : j < f.cols.length) (h' : j < s.tabs[k].pk.length), 0 ≤ f.cols[j] ∧ f.cols[j] < (s.tabs[i].cols.length : Int) ∧ 0 ≤ s.tabs[k].pk[j] ∧ s.tabs[k].pk[j] < (s.tabs[k].cols.length : Int) ∧ (s.tabs[i].cols.getD f.cols[j].toNat ⟨⟨#[]⟩, 0, false⟩).kind = (s.tabs[k].cols.getD s.tabs[k].pk[j].toNat ⟨⟨#[]⟩, 0, false⟩).kind

set_option maxRecDepth 100000 in
set_option maxHeartbeats 4000000 in
theorem validateFk (s : Sc) (f : FkM) (i k : Nat) (w : World) (hs : ScOk (· < w.heap.size) w s) (hf : Elems 1 intCs w (· < w.heap.size) f.A f.cols) (hv : FkV s f i k) (hl : s.tabs.length ≤ 1000) (hfl : f.cols.length ≤ 1000) :
    Calls Try.prog 27 #[s.v, f.val] w fun e w' => e = .returned (.int .i64 0) ∧ Below w.heap.size w w' := by
  have hil := hv.il
  have hkl := hv.kl
  have HFT := Lib.hid fun W (hW : Below w.heap.size w W) nm => findTable s nm W (hs.on hW) hl
  have HTI := Lib.hid fun W (hW : Below w.heap.size w W) => (hs.on hW).tab _ (List.getElem_mem hil)
  have HTK := Lib.hid fun W (hW : Below w.heap.size w W) => (hs.on hW).tab _ (List.getElem_mem hkl)
  have HFA := Lib.hid fun W (hW : Below w.heap.size w W) => hf.on hW
  obtain ⟨w1, hw1⟩ : ∃ w1, w1 = (w.alloc (.cells s.cells 39)).alloc (.cells #[.string f.name, .slice f.A f.cols.length f.c, .string f.ref] 60) := ⟨_, rfl⟩
  have hb1 : Below w.heap.size w w1 := by rw [hw1]; exact ((Below.refl _ _).alloc (Nat.le_refl _) _).alloc (le_size1 (Nat.le_refl _) _) _
  have hg0 : w1.heap[w.heap.size]? = some (.cells s.cells 39 (0, 0)) := by
    rw [hw1, Below.heap_alloc _ _ _ (by simp)]
    exact heap_alloc_new w _
  have hg1 : w1.heap[w.heap.size + 1]? = some (.cells #[.string f.name, .slice f.A f.cols.length f.c, .string f.ref] 60 (0, 0)) := by rw [hw1]; exact alloc2_at w _ _
  have hs1 : w1.heap.size = w.heap.size + 2 := by rw [hw1]; simp
  obtain ⟨n, hn⟩ : ∃ n, s.tabs.length = n := ⟨_, rfl⟩
  have HBK : Hid (∀ W, Below w1.heap.size w1 W → W.cell? ⟨w.heap.size, 0, none⟩ = some (.slice s.TA n s.tc) ∧ W.cell? ⟨w.heap.size, 1, none⟩ = some (.slice s.FA s.fks.length s.fc) ∧ W.cell? ⟨w.heap.size, 2, none⟩ = some (.slice s.NA s.cns.length s.nc)
      ∧ W.cell? ⟨w.heap.size + 1, 0, none⟩ = some (.string f.name) ∧ W.cell? ⟨w.heap.size + 1, 1, none⟩ = some (.slice f.A f.cols.length f.c) ∧ W.cell? ⟨w.heap.size + 1, 2, none⟩ = some (.string f.ref)) := Lib.hid fun W hW => by
    have h0 := (hW.block w.heap.size (by omega)).trans hg0
    have h1 := (hW.block (w.heap.size + 1) (by omega)).trans hg1
    unfold Sc.cells at h0
    rw [hn] at h0
    exact ⟨by rw [cell_of_row _ _ _ _ _ _ h0]; rfl, by rw [cell_of_row _ _ _ _ _ _ h0]; rfl, by rw [cell_of_row _ _ _ _ _ _ h0]; rfl, by rw [cell_of_row _ _ _ _ _ _ h1]; rfl, by rw [cell_of_row _ _ _ _ _ _ h1]; rfl, by rw [cell_of_row _ _ _ _ _ _ h1]; rfl⟩
  have HTB := Lib.hid fun W (hW : Below w.heap.size w W) => And.intro ((hs.on hW).tabs.tbl hil) ((hs.on hW).tabs.tbl hkl)
  have HB1 := Lib.hid hb1
  have HW1 := Lib.hid hw1
  have hin : (i : Int) < (n : Int) := by omega
  have hkn : (k : Int) < (n : Int) := by omega
  have HFI := Lib.hid hv.fi
  have HFK := Lib.hid hv.fk
  have HCL : Hid (f.cols.length = (s.tabs[k]'hkl).pk.length) := Lib.hid hv.len
  have HCO : Hid (∀ (j : Nat) (h : j < f.cols.length) (h' : j < (s.tabs[k]'hkl).pk.length), 0 ≤ f.cols[j] ∧ f.cols[j] < ((s.tabs[i]'hil).cols.length : Int) ∧ 0 ≤ (s.tabs[k]'hkl).pk[j] ∧ (s.tabs[k]'hkl).pk[j] < ((s.tabs[k]'hkl).cols.length : Int) ∧ ((s.tabs[i]'hil).cols.getD f.cols[j].toNat ⟨⟨#[]⟩, 0, false⟩).kind = ((s.tabs[k]'hkl).cols.getD (s.tabs[k]'hkl).pk[j].toNat ⟨⟨#[]⟩, 0, false⟩).kind) := Lib.hid hv.col
  obtain ⟨c0, c1, c2, c3, c4, c5⟩ := HBK.out w1 (Below.refl _ _)
  unfold Sc.cells at HW1
  unfold Sc.v Sc.cells at HFT ⊢
  unfold FkM.val
  rw [hn] at HFT HW1 ⊢
  clear hs hf hv hw1 hb1 hg0 hg1 hs1 hn
  obtain ⟨TA, tc, tabs, FA, fc, fks, NA, nc, cns⟩ := s
  simp only at *
  generalize tabs[i]'hil = ti at *
  generalize tabs[k]'hkl = tk at *
  obtain ⟨m, hm⟩ : ∃ m, f.cols.length = m := ⟨_, rfl⟩
  rw [hm] at hfl HW1 c4 ⊢
  have HM := Lib.hid hm
  clear hm
  go_enter Try.func27, Try.ntmps27
  go_upto_region 1 with fail
  rw [← HW1.out]
  go_wp2_with fail
  refine (HFT.out w1 HB1.out f.name).mono ?_
  rintro e w2 ⟨rfl, hb2⟩
  rw [HFI.out]
  have hmi : max (i : Int) 0 = (i : Int) := by omega
  have hdi : decide (0 ≤ (i : Int)) = true := decide_eq_true (by omega)
  unfold findV
  rw [hmi, hdi]
  have HB2 := Lib.hid hb2
  obtain ⟨d0, d1, d2, d3, d4, d5⟩ := HBK.out w2 hb2
  clear hb2 c0 c1 c2 c3 c4 c5 hmi hdi
  go_wp2_with fail
  refine (HFT.out w2 (HB1.out.trans (HB2.out.mono HB1.out.size)) f.ref).mono ?_
  rintro e w3 ⟨rfl, hb3⟩
  rw [HFK.out]
  have hmk : max (k : Int) 0 = (k : Int) := by omega
  have hdk : decide (0 ≤ (k : Int)) = true := decide_eq_true (by omega)
  unfold findV
  rw [hmk, hdk]
  have hb3' := HB2.out.trans (hb3.mono HB2.out.size)
  have HB3 := Lib.hid hb3'
  have HB03 := Lib.hid (HB1.out.trans (hb3'.mono HB1.out.size))
  obtain ⟨e0, e1, e2, e3, e4, e5⟩ := HBK.out w3 hb3'
  clear hb3 hb3' d0 d1 d2 d3 d4 d5 hmk hdk
  obtain ⟨⟨b, off, hA, hbl, p0, p1, p2⟩, ⟨b', off', hA', -, q0, q1, q2⟩⟩ := HTB.out w3 HB03.out
  rw [hA] at hA'
  injection hA' with hA'
  injection hA' with h1 h2
  subst h1 h2
  rw [hA] at e0
  rw [HM.out] at e4
  clear hA
  have n0 := World.new_ne w3 _ e0
  have n1 := World.new_ne w3 _ p0
  have n2 := World.new_ne w3 _ p1
  have n3 := World.new_ne w3 _ p2
  have n4 := World.new_ne w3 _ q0
  have n5 := World.new_ne w3 _ q1
  have n6 := World.new_ne w3 _ q2
  go_upto_region 5 with fail
  go_cut [9, 10] from 33 to 42 (fun v9 v10 wx => ∃ g9 g10, v9 = ptr g9 ∧ v10 = ptr g10 ∧ wx.heap[g9]? = some (.cells #[.string ti.name, .slice ti.CA ti.cols.length ti.cc, .slice ti.PA ti.pk.length ti.pc] 58 (0, 0)) ∧ wx.heap[g10]? = some (.cells #[.string tk.name, .slice tk.CA tk.cols.length tk.cc, .slice tk.PA tk.pk.length tk.pc] 58 (0, 0)) ∧ Below w3.heap.size w3 wx)
  case first =>
    go_region_held3 (fun w' => w'.cell? ⟨w.heap.size, 0, none⟩ = some (.slice (some ⟨b, off, none⟩) n tc) ∧ w'.cell? ⟨b, off + i * 3, none⟩ = some (.string ti.name) ∧ w'.cell? ⟨b, off + i * 3 + 1, none⟩ = some (.slice ti.CA ti.cols.length ti.cc) ∧ w'.cell? ⟨b, off + i * 3 + 2, none⟩ = some (.slice ti.PA ti.pk.length ti.pc) ∧ w'.cell? ⟨b, off + k * 3, none⟩ = some (.string tk.name) ∧ w'.cell? ⟨b, off + k * 3 + 1, none⟩ = some (.slice tk.CA tk.cols.length tk.cc) ∧ w'.cell? ⟨b, off + k * 3 + 2, none⟩ = some (.slice tk.PA tk.pk.length tk.pc)) (go_keep) (fail)
    all_goals
      go_wp2_with fail
      go_meet
      first
        | exact ⟨w3.heap.size, w3.heap.size + 1, rfl, rfl, (two_new w3 _ _).1, (two_new w3 _ _).2.1, (two_new w3 _ _).2.2⟩
        | exact ⟨w3.heap.size + 1, w3.heap.size, rfl, rfl, (two_new w3 _ _).2.1, (two_new w3 _ _).1, (two_new w3 _ _).2.2⟩
  case rest =>
    obtain ⟨g9, g10, rfl, rfl, h9, h10, hbc⟩ := hcut
    obtain ⟨-, -, -, -, f4, -⟩ := HBK.out wc (HB3.out.trans (hbc.mono HB3.out.size))
    rw [HM.out] at f4
    have a1 : wc.cell? ⟨g9, 1, none⟩ = some (.slice ti.CA ti.cols.length ti.cc) := by rw [cell_of_row _ _ _ _ _ _ h9]; rfl
    have b1 : wc.cell? ⟨g10, 1, none⟩ = some (.slice tk.CA tk.cols.length tk.cc) := by rw [cell_of_row _ _ _ _ _ _ h10]; rfl
    have b2 : wc.cell? ⟨g10, 2, none⟩ = some (.slice tk.PA tk.pk.length tk.pc) := by rw [cell_of_row _ _ _ _ _ _ h10]; rfl
    have hpl : tk.pk.length = m := by rw [← HCL.out, HM.out]
    have HPL := Lib.hid hpl
    rw [hpl] at b2
    have HBC := Lib.hid (HB03.out.trans (hbc.mono HB03.out.size))
    clear h9 h10 hbc hpl p0 p1 p2 q0 q1 q2 e0 e1 e2 e3 e4 e5 n0 n1 n2 n3 n4 n5 n6 HFT HTB HBK
    obtain ⟨nti, hnti⟩ : ∃ nti, ti.cols.length = nti := ⟨_, rfl⟩
    obtain ⟨ntk, hntk⟩ : ∃ ntk, tk.cols.length = ntk := ⟨_, rfl⟩
    rw [hnti] at a1
    rw [hntk] at b1
    have HL := Lib.hid (And.intro hnti hntk)
    clear hnti hntk
    obtain ⟨wd, rfl⟩ : ∃ wd, wd = wc := ⟨_, rfl⟩
    go_wp2_with fail
    go_loopw [53] (fun vi wr => ∃ j : Nat, vi = .int .i64 (j : Int) ∧ j ≤ m ∧ ∃ nd, wr = wd.drewN nd) (fun vi _ => m - (intOf vi).toNat)
    case atStart => exact ⟨0, rfl, by omega, 0, rfl⟩
    case round =>
      obtain ⟨j, rfl, hjm, nd, rfl⟩ := hrel
      by_cases hlt : j < m
      · have hjc : j < f.cols.length := by have := HM.out; omega
        have hjp : j < tk.pk.length := by have := HPL.out; omega
        obtain ⟨x0, x1, y0, y1, hkk⟩ := HCO.out j hjc hjp
        have hBn : Below w.heap.size w (wd.drewN nd) := below_drewN HBC.out nd
        obtain ⟨b, off, hA, -, r0⟩ := (HFA.out _ hBn).int hjc
        obtain ⟨b2', off2, hA2, -, r1⟩ := (HTK.out _ hBn).pk.int hjp
        obtain ⟨x, hx⟩ := Int.eq_ofNat_of_zero_le x0
        obtain ⟨y, hy⟩ := Int.eq_ofNat_of_zero_le y0
        rw [hx] at x1 hkk r0
        rw [hy] at y1 hkk r1
        rw [Int.toNat_natCast, Int.toNat_natCast] at hkk
        have hxl : x < ti.cols.length := by omega
        have hyl : y < tk.cols.length := by omega
        obtain ⟨b3, off3, hA3, -, s0, s1, s2⟩ := (HTI.out _ hBn).cols.col hxl
        obtain ⟨b4, off4, hA4, -, t0, t1, t2⟩ := (HTK.out _ hBn).cols.col hyl
        have hkk' : ti.cols[x].kind = tk.cols[y].kind := by
          rw [List.getD_eq_getElem?_getD, List.getD_eq_getElem?_getD, List.getElem?_eq_getElem hxl, List.getElem?_eq_getElem hyl] at hkk
          exact hkk
        have a1n : (wd.drewN nd).cell? ⟨g9, 1, none⟩ = some (.slice ti.CA nti ti.cc) := a1
        have b1n : (wd.drewN nd).cell? ⟨g10, 1, none⟩ = some (.slice tk.CA ntk tk.cc) := b1
        have b2n : (wd.drewN nd).cell? ⟨g10, 2, none⟩ = some (.slice tk.PA m tk.pc) := b2
        rw [hA3] at a1n
        rw [hA4] at b1n
        rw [hA2] at b2n
        rw [hA]
        have hxn : (x : Int) < (nti : Int) := by have := HL.out.1; omega
        have hyn : (y : Int) < (ntk : Int) := by have := HL.out.2; omega
        have hjm' : (j : Int) < (m : Int) := by omega
        rw [hkk'] at s1
        have hne : (tk.cols[y].kind != tk.cols[y].kind) = false := by simp
        clear x0 x1 y0 y1 hkk hkk' hA hA2 hA3 hA4 hx hy s0 s2 t0 t2 hBn
        generalize tk.cols[y].kind = kd at *
        clear hxl hyl hjc hjp
        obtain ⟨we, hwe⟩ : ∃ we, we = wd.drewN nd := ⟨_, rfl⟩
        have HWE : Hid (∀ nq, we.drewN nq = wd.drewN (nd + nq)) := Lib.hid fun nq => by rw [hwe, World.drewN_drewN]
        rw [← hwe] at r0 r1 s1 t1 a1n b1n b2n ⊢
        clear hwe a1 b1 b2 f4
        go_wp2_with fail
        go_quiet (fail)
        go_wp2_with fail
        go_roundw
        case rel => exact ⟨j + 1, by go_num, by omega, _, HWE.out _⟩
        case measure => simp [intOf]; omega
      · have hjm' : j = m := by omega
        subst hjm'
        go_wp2_with fail
        go_ret
        exact ⟨rfl, below_drewN HBC.out nd⟩
end Go.Proofs.Ytefifkleamiabaa
