/-
  Changes in memory; the walk of change.Validate, where the change fits.
-/
import Derived.Test.YtefifkleamiabaaG13
namespace Go.Proofs.Ytefifkleamiabaa
open Go.RowKit Go.Sort

/-- A change: its kind, its table, its key and its row. -/
structure ChM where
  kind : Int
  name : ByteArray
  key : Key
  row : Key
def ChM.cells (c : ChM) : Array Value := #[.int .i64 c.kind, .string c.name, .slice c.key.A c.key.row.length c.key.c, .slice c.row.A c.row.row.length c.row.c]
structure ChOk (S : Nat → Prop) (w : World) (c : ChM) : Prop where
  key : KOk S w c.key
  row : KOk S w c.row
theorem ChOk.on {w w' : World} {c : ChM} (h : ChOk (· < w.heap.size) w c) (hb : Below w.heap.size w w') : ChOk (· < w'.heap.size) w' c := ⟨h.key.on hb, h.row.on hb⟩
/-- A change that fits table i. -/
structure ChC (s : Sc) (c : ChM) (i : Nat) : Prop where
  il : i < s.tabs.length
  fi : tabI c.name s.tabs = (i : Int)
  tab : s.tabs[i].cols.length ≤ 1000 ∧ s.tabs[i].pk.length ≤ 12
  fit : (c.kind = 1 ∧ c.key.row.length = 0 ∧ RowC s.tabs[i].cols c.row.row) ∨ (c.kind = 2 ∧ c.row.row.length = 0 ∧ KeyC s.tabs[i] c.key.row)

set_option maxRecDepth 100000 in
set_option maxHeartbeats 4000000 in
theorem validateCh (s : Sc) (c : ChM) (i : Nat) (w : World) (hs : ScOk (· < w.heap.size) w s) (ho : ChOk (· < w.heap.size) w c) (hc : ChC s c i) (hl : s.tabs.length ≤ 1000) :
    Calls Try.prog 40 #[s.v, .agg c.cells] w fun e w' => e = .returned (.int .i64 0) ∧ Below w.heap.size w w' := by
  have hil := hc.il
  have HFT := Lib.hid fun W (hW : Below w.heap.size w W) => findTable s c.name W (hs.on hW) hl
  have HTB := Lib.hid fun W (hW : Below w.heap.size w W) => (hs.on hW).tabs.tbl hil
  have HCR : Hid (RowC (s.tabs[i]'hil).cols c.row.row → ∀ W, Below w.heap.size w W → ∀ m, Calls Try.prog 17 #[(s.tabs[i]'hil).val, .slice c.row.A c.row.row.length c.row.c] (W.drewN m) fun e w' => e = .returned (.int .i64 0) ∧ Below W.heap.size W w') := Lib.hid fun hr W hW m => by
    have hd : Below W.heap.size W (W.drewN m) := below_drewN (Below.refl _ _) m
    have h0 := hW.trans (hd.mono hW.size)
    exact (conformsRow _ c.row.A c.row.c c.row.row (W.drewN m) ((hs.on h0).tab _ (List.getElem_mem hil)) (ho.row.on h0).el hc.tab.1 hr).mono fun e w' h => ⟨h.1, hd.trans h.2⟩
  have HVK : Hid (KeyC (s.tabs[i]'hil) c.key.row → ∀ W, Below w.heap.size w W → ∀ m, Calls Try.prog 50 #[(s.tabs[i]'hil).val, .slice c.key.A c.key.row.length c.key.c] (W.drewN m) fun e w' => e = .returned (.int .i64 0) ∧ Below W.heap.size W w') := Lib.hid fun hr W hW m => by
    have hd : Below W.heap.size W (W.drewN m) := below_drewN (Below.refl _ _) m
    have h0 := hW.trans (hd.mono hW.size)
    exact (validateKey _ c.key.A c.key.c c.key.row (W.drewN m) ((hs.on h0).tab _ (List.getElem_mem hil)) (ho.key.on h0).el hc.tab.2 hr).mono fun e w' h => ⟨h.1, hd.trans h.2⟩
  obtain ⟨w1, hw1⟩ : ∃ w1, w1 = (w.alloc (.cells s.cells 39)).alloc (.cells c.cells 50) := ⟨_, rfl⟩
  have hb1 : Below w.heap.size w w1 := by rw [hw1]; exact ((Below.refl _ _).alloc (Nat.le_refl _) _).alloc (le_size1 (Nat.le_refl _) _) _
  have hg0 : w1.heap[w.heap.size]? = some (.cells s.cells 39 (0, 0)) := by
    rw [hw1, Below.heap_alloc _ _ _ (by simp)]
    exact heap_alloc_new w _
  have hg1 : w1.heap[w.heap.size + 1]? = some (.cells c.cells 50 (0, 0)) := by rw [hw1]; exact alloc2_at w _ _
  have hs1 : w1.heap.size = w.heap.size + 2 := by rw [hw1]; simp
  obtain ⟨n, hn⟩ : ∃ n, s.tabs.length = n := ⟨_, rfl⟩
  have HBK : Hid (∀ W, Below w1.heap.size w1 W → W.cell? ⟨w.heap.size, 0, none⟩ = some (.slice s.TA n s.tc) ∧ W.cell? ⟨w.heap.size, 1, none⟩ = some (.slice s.FA s.fks.length s.fc) ∧ W.cell? ⟨w.heap.size, 2, none⟩ = some (.slice s.NA s.cns.length s.nc)
      ∧ W.cell? ⟨w.heap.size + 1, 0, none⟩ = some (.int .i64 c.kind) ∧ W.cell? ⟨w.heap.size + 1, 1, none⟩ = some (.string c.name) ∧ W.cell? ⟨w.heap.size + 1, 2, none⟩ = some (.slice c.key.A c.key.row.length c.key.c) ∧ W.cell? ⟨w.heap.size + 1, 3, none⟩ = some (.slice c.row.A c.row.row.length c.row.c)) := Lib.hid fun W hW => by
    have h0 := (hW.block w.heap.size (by omega)).trans hg0
    have h1 := (hW.block (w.heap.size + 1) (by omega)).trans hg1
    unfold Sc.cells at h0
    rw [hn] at h0
    exact ⟨by rw [cell_of_row _ _ _ _ _ _ h0]; rfl, by rw [cell_of_row _ _ _ _ _ _ h0]; rfl, by rw [cell_of_row _ _ _ _ _ _ h0]; rfl, by rw [cell_of_row _ _ _ _ _ _ h1]; rfl, by rw [cell_of_row _ _ _ _ _ _ h1]; rfl, by rw [cell_of_row _ _ _ _ _ _ h1]; rfl, by rw [cell_of_row _ _ _ _ _ _ h1]; rfl⟩
  have HB1 := Lib.hid hb1
  have HW1 := Lib.hid hw1
  have hin : (i : Int) < (n : Int) := by omega
  have HFI := Lib.hid hc.fi
  have hfit : (c.kind = 1 ∧ c.key.row.length = 0 ∧ RowC (s.tabs[i]'hil).cols c.row.row) ∨ (c.kind = 2 ∧ c.row.row.length = 0 ∧ KeyC (s.tabs[i]'hil) c.key.row) := hc.fit
  obtain ⟨c0, c1, c2, c3, c4, c5, c6⟩ := HBK.out w1 (Below.refl _ _)
  unfold Sc.cells ChM.cells at HW1
  unfold Sc.v Sc.cells at HFT ⊢
  unfold ChM.cells
  rw [hn] at HFT HW1 ⊢
  clear hs ho hc hw1 hb1 hg0 hg1 hs1 hn
  obtain ⟨TA, tc, tabs, FA, fc, fks, NA, nc, cns⟩ := s
  obtain ⟨ck, cn, ⟨kA, kc, kr⟩, ⟨rA, rc, rr⟩⟩ := c
  simp only at *
  generalize tabs[i]'hil = ti at *
  rcases hfit with ⟨rfl, hk0, hrc⟩ | ⟨rfl, hk0, hkc⟩
  · have HR := Lib.hid (HCR.out hrc)
    unfold Tbl.val at HR
    clear HCR HVK hrc
    rw [hk0] at HW1 HBK c5 ⊢
    clear hk0
    go_enter Try.func40, Try.ntmps40
    go_upto_region 1 with fail
    rw [← HW1.out]
    go_wp2_with fail
    refine (HFT.out w1 HB1.out).mono ?_
    rintro e w2 ⟨rfl, hb2⟩
    rw [HFI.out]
    have hmi : max (i : Int) 0 = (i : Int) := by omega
    have hdi : decide (0 ≤ (i : Int)) = true := decide_eq_true (by omega)
    unfold findV
    rw [hmi, hdi]
    have hb02 := HB1.out.trans (hb2.mono HB1.out.size)
    have HB2 := Lib.hid hb02
    obtain ⟨d0, d1, d2, d3, d4, d5, d6⟩ := HBK.out w2 hb2
    obtain ⟨b, off, hA, -, p0, p1, p2⟩ := HTB.out w2 hb02
    rw [hA] at d0
    have HR2 := Lib.hid (HR.out w2 hb02)
    clear hb2 hb02 c0 c1 c2 c3 c4 c5 c6 hmi hdi hA HTB
    go_upto_region 7 with fail
    go_region_law (first
      | (go_simp; go_at_call 17; refine (HR2.out 1).mono ?_; rintro e w3 ⟨rfl, hb3⟩))
    all_goals
      have HB3 := Lib.hid (HB2.out.trans (hb3.mono HB2.out.size))
      clear hb3
      go_wp2_with fail
      go_ret
      exact ⟨rfl, HB3.out⟩
  · have HR := Lib.hid (HVK.out hkc)
    unfold Tbl.val at HR
    clear HCR HVK hkc
    rw [hk0] at HW1 HBK c6 ⊢
    clear hk0
    go_enter Try.func40, Try.ntmps40
    go_upto_region 1 with fail
    rw [← HW1.out]
    go_wp2_with fail
    refine (HFT.out w1 HB1.out).mono ?_
    rintro e w2 ⟨rfl, hb2⟩
    rw [HFI.out]
    have hmi : max (i : Int) 0 = (i : Int) := by omega
    have hdi : decide (0 ≤ (i : Int)) = true := decide_eq_true (by omega)
    unfold findV
    rw [hmi, hdi]
    have hb02 := HB1.out.trans (hb2.mono HB1.out.size)
    have HB2 := Lib.hid hb02
    obtain ⟨d0, d1, d2, d3, d4, d5, d6⟩ := HBK.out w2 hb2
    obtain ⟨b, off, hA, -, p0, p1, p2⟩ := HTB.out w2 hb02
    rw [hA] at d0
    have HR2 := Lib.hid (HR.out w2 hb02)
    clear hb2 hb02 c0 c1 c2 c3 c4 c5 c6 hmi hdi hA HTB
    go_upto_region 8 with fail
    go_region_law (first
      | (go_simp; go_at_call 50; refine (HR2.out 1).mono ?_; rintro e w3 ⟨rfl, hb3⟩))
    all_goals
      have HB3 := Lib.hid (HB2.out.trans (hb3.mono HB2.out.size))
      clear hb3
      go_wp2_with fail
      go_ret
      exact ⟨rfl, HB3.out⟩
end Go.Proofs.Ytefifkleamiabaa
