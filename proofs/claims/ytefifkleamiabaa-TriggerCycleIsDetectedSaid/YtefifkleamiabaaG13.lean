/-
  The walk of change.validateKey, where the key fits.
-/
import Derived.Test.YtefifkleamiabaaG12
namespace Go.Proofs.Ytefifkleamiabaa
open Go.RowKit Go.Sort

/-- A key that fits the table. -/
structure KeyC (t : Tbl) (r : Row) : Prop where
  len : r.length = t.pk.length
  err : ∀ v ∈ r, v.err = 0
  col : ∀ (i : Nat) (h : i < r.length) (h' : i < t.pk.length), 0 ≤ t.pk[i] ∧ t.pk[i].toNat < t.cols.length ∧ r[i].kind = (t.cols.getD t.pk[i].toNat col0).kind

set_option maxRecDepth 100000 in
set_option maxHeartbeats 4000000 in
theorem validateKey (t : Tbl) (A : Option Addr) (c : Nat) (r : Row) (w : World) (ht : TOk (· < w.heap.size) w t) (hx : Elems 3 Val.cs w (· < w.heap.size) A r) (h12 : t.pk.length ≤ 12) (hr : KeyC t r) :
    Calls Try.prog 50 #[t.val, .slice A r.length c] w fun e w' => e = .returned (.int .i64 0) ∧ Below w.heap.size w w' := by
  obtain ⟨name, CA, cc, tc, PA, pc, pk⟩ := t
  have HC := Lib.hid ht
  have HX := Lib.hid hx
  have HR := Lib.hid hr
  obtain ⟨n, hn⟩ : ∃ n, pk.length = n := ⟨_, rfl⟩
  obtain ⟨l, hl⟩ : ∃ l, tc.length = l := ⟨_, rfl⟩
  have hrn : r.length = n := by rw [← hn]; exact hr.len
  have h12 : n ≤ 12 := by rw [← hn]; exact h12
  unfold Tbl.val
  simp only
  rw [hrn, hn, hl]
  have HN := Lib.hid (And.intro hn (And.intro hrn hl))
  obtain ⟨w1, hw1⟩ : ∃ w1, w1 = w.alloc (.cells #[.string name, .slice CA l cc, .slice PA n pc] 58) := ⟨_, rfl⟩
  have hbx := heap_alloc_new w (.cells #[.string name, .slice CA l cc, .slice PA n pc] 58)
  rw [← hw1] at hbx
  have hb1 : Below w.heap.size w w1 := by rw [hw1]; exact (Below.refl _ _).alloc (Nat.le_refl _) _
  have hs1 : w.heap.size < w1.heap.size := by rw [hw1]; simp
  have HBK : Hid (∀ W, Below w1.heap.size w1 W → W.cell? ⟨w.heap.size, 1, none⟩ = some (.slice CA l cc) ∧ W.cell? ⟨w.heap.size, 2, none⟩ = some (.slice PA n pc)) := Lib.hid fun W hW => by
    have h := (hW.block w.heap.size hs1).trans hbx
    exact ⟨by rw [cell_of_row _ _ _ _ _ _ h]; rfl, by rw [cell_of_row _ _ _ _ _ _ h]; rfl⟩
  have HB1 := Lib.hid hb1
  have HW1 := Lib.hid hw1
  obtain ⟨c1, c2⟩ := HBK.out w1 (Below.refl _ _)
  have HVL := Lib.hid fun k n s W => validate k n s W
  clear ht hx hr hn hrn hl hw1 hbx hb1 hs1
  go_enter Try.func50, Try.ntmps50
  go_upto_region 1 with fail
  rw [← HW1.out]
  go_wp2_with fail
  go_loopw [16] (fun vi wr => ∃ k : Nat, vi = .int .i64 (k : Int) ∧ k ≤ n ∧ Below w1.heap.size w1 wr) (fun vi _ => n - (intOf vi).toNat)
  case atStart => exact ⟨0, rfl, by omega, Below.refl _ _⟩
  case round =>
    obtain ⟨k, rfl, hkn, hb⟩ := hrel
    obtain ⟨wo, rfl⟩ : ∃ wo, wo = wr := ⟨_, rfl⟩
    have hbw : Below w.heap.size w wo := HB1.out.trans (hb.mono HB1.out.size)
    by_cases hlt : k < n
    · have hkr : k < r.length := by have := HN.out.2.1; omega
      have hkp : k < pk.length := by have := HN.out.1; omega
      have hxr := HX.out.on hbw
      obtain ⟨hp0, hp1, hkd⟩ := HR.out.col k hkr hkp
      have her : vErr r[k].kind r[k].int r[k].text = 0 := HR.out.err _ (List.getElem_mem hkr)
      obtain ⟨p, hp⟩ := Int.eq_ofNat_of_zero_le hp0
      have hpp : pk[k] = (p : Int) := hp
      have hpl : p < tc.length := by
        have h : pk[k].toNat < tc.length := hp1
        rwa [hpp, Int.toNat_natCast] at h
      have hkd' : r[k].kind = tc[p].kind := by
        have h : r[k].kind = (tc.getD pk[k].toNat col0).kind := hkd
        rw [hpp, Int.toNat_natCast, List.getD_eq_getElem?_getD, List.getElem?_eq_getElem hpl] at h
        exact h
      obtain ⟨b', off', hA', -, p0, p1, p2⟩ := hxr.val hkr
      have hba : ∀ o, Below wo.heap.size wo (wo.alloc o) := fun o => (Below.refl _ _).alloc (Nat.le_refl _) o
      have HCC : Hid (∀ W, Below wo.heap.size wo W → ∃ b off b2 off2, CA = some ⟨b, off, none⟩ ∧ PA = some ⟨b2, off2, none⟩ ∧ W.cell? ⟨b, off + p * 3 + 1, none⟩ = some (.int .i64 r[k].kind) ∧ W.cell? ⟨b2, off2 + k, none⟩ = some (.int .i64 (p : Int)) ∧ W.cell? ⟨w.heap.size, 1, none⟩ = some (.slice CA l cc) ∧ W.cell? ⟨w.heap.size, 2, none⟩ = some (.slice PA n pc)) := Lib.hid fun W hW => by
        have htk := HC.out.on (hbw.trans (hW.mono hbw.size))
        obtain ⟨b, off, hA, -, q0, q1, q2⟩ := htk.cols.col hpl
        obtain ⟨b2, off2, hA2, -, y0⟩ := htk.pk.int hkp
        obtain ⟨z1, z2⟩ := HBK.out W (hb.trans (hW.mono hb.size))
        have y0 : W.cell? ⟨b2, off2 + k, none⟩ = some (.int .i64 pk[k]) := y0
        rw [hpp] at y0
        have q1 : W.cell? ⟨b, off + p * 3 + 1, none⟩ = some (.int .i64 tc[p].kind) := q1
        rw [← hkd'] at q1
        exact ⟨b, off, b2, off2, hA, hA2, q1, y0, z1, z2⟩
      have HV := Lib.hid fun o => HVL.out r[k].kind r[k].int r[k].text (wo.alloc o)
      rw [her] at HV
      have hkn' : (k : Int) < (n : Int) := by omega
      have hpl' : (p : Int) < (l : Int) := by have := HN.out.2.2; omega
      have HBO := Lib.hid hb
      have HBA := Lib.hid hba
      rw [hA']
      clear hb hbw hxr her hA' hba HVL hp0 hp1 hkd hp hpp hkd' hpl
      generalize r[k] = v at *
      have g3 : (v.kind != v.kind) = false := by simp
      go_wp2_with fail
      refine (HV.out _).mono ?_
      rintro e w3 ⟨rfl, hb3⟩
      have hbo : Below wo.heap.size wo w3 := (HBA.out _).trans (hb3.mono (HBA.out _).size)
      have hcv : w3.heap[wo.heap.size]? = some (.cells #[.int .i64 v.kind, .int .i64 v.int, .string v.text] 26 (0, 0)) := (hb3.block wo.heap.size (by simp)).trans (heap_alloc_new wo _)
      have v0 : w3.cell? ⟨wo.heap.size, 0, none⟩ = some (.int .i64 v.kind) := by rw [cell_of_row _ _ _ _ _ _ hcv]; rfl
      obtain ⟨b, off, b2, off2, rfl, rfl, q1, q2, q3, q4⟩ := HCC.out w3 hbo
      have HB3 := Lib.hid (HBO.out.trans (hbo.mono HBO.out.size))
      clear hb3 hbo hcv
      go_wp2_with fail
      go_quiet (fail)
      go_wp2_with fail
      go_roundw
      case rel => exact ⟨k + 1, by go_num, by omega, below_drewN HB3.out _⟩
      case measure => simp [intOf]; omega
    · have hkn' : k = n := by omega
      subst hkn'
      have HE := Lib.hid hbw
      clear hb hbw
      go_wp2_with fail
      go_ret
      exact ⟨rfl, HE.out⟩
end Go.Proofs.Ytefifkleamiabaa
