/-
  The walks of trigger.checkOperand and trigger.derive.
-/
import Derived.Test.YtefifkleamiabaaG19
namespace Go.Proofs.Ytefifkleamiabaa
open Go.RowKit Go.Sort

set_option maxRecDepth 100000 in
set_option maxHeartbeats 4000000 in
theorem checkOperand (t : Tbl) (o : Int) (c : Col) (nl : Bool) (w : World) (ht : TOk (· < w.heap.size) w t) (hl : t.cols.length ≤ 1000) (ho : OpC t o c nl) :
    Calls Try.prog 35 #[t.val, .agg #[.int .i64 o, .int .i64 0, .int .i64 0, .string ⟨#[]⟩], .agg #[.string c.name, .int .i64 c.kind, .bool c.null], .bool nl] w fun e w' => e = .returned (.int .i64 0) ∧ Below w.heap.size w w' := by
  obtain ⟨name, CA, cc, tc, PA, pc, pk⟩ := t
  obtain ⟨h0, h1, h2, h3⟩ := ho
  obtain ⟨j, rfl⟩ := Int.eq_ofNat_of_zero_le h0
  rw [Int.toNat_natCast] at h1 h2 h3
  have hj : j < tc.length := h1
  have hgd : tc.getD j col0 = tc[j] := by rw [List.getD_eq_getElem?_getD, List.getElem?_eq_getElem hj]; rfl
  simp only at h2 h3
  rw [hgd] at h2 h3
  obtain ⟨n, hn⟩ : ∃ n, tc.length = n := ⟨_, rfl⟩
  obtain ⟨w1, hw1⟩ : ∃ w1, w1 = ((w.alloc (.cells #[.string name, .slice CA n cc, .slice PA pk.length pc] 58)).alloc (.cells #[.int .i64 (j : Int), .int .i64 0, .int .i64 0, .string ⟨#[]⟩] 28)).alloc (.cells #[.string c.name, .int .i64 c.kind, .bool c.null] 54) := ⟨_, rfl⟩
  have hb1 : Below w.heap.size w w1 := by rw [hw1]; exact (((Below.refl _ _).alloc (Nat.le_refl _) _).alloc (le_size1 (Nat.le_refl _) _) _).alloc (le_size2 (Nat.le_refl _) _ _) _
  have g0 : w1.heap[w.heap.size]? = some (.cells #[.string name, .slice CA n cc, .slice PA pk.length pc] 58 (0, 0)) := by
    rw [hw1, Below.heap_alloc _ _ _ (by simp; omega), Below.heap_alloc _ _ _ (by simp)]
    exact heap_alloc_new w _
  have g1 : w1.heap[w.heap.size + 1]? = some (.cells #[.int .i64 (j : Int), .int .i64 0, .int .i64 0, .string ⟨#[]⟩] 28 (0, 0)) := by
    rw [hw1, Below.heap_alloc _ _ _ (by simp)]
    exact alloc2_at w _ _
  have g2 : w1.heap[w.heap.size + 1 + 1]? = some (.cells #[.string c.name, .int .i64 c.kind, .bool c.null] 54 (0, 0)) := by
    rw [hw1]
    have h := heap_alloc_new ((w.alloc (.cells #[.string name, .slice CA n cc, .slice PA pk.length pc] 58)).alloc (.cells #[.int .i64 (j : Int), .int .i64 0, .int .i64 0, .string ⟨#[]⟩] 28)) (.cells #[.string c.name, .int .i64 c.kind, .bool c.null] 54)
    simpa using h
  obtain ⟨b, off, hA, -, p0, p1, p2⟩ := (ht.on hb1).cols.col hj
  have p0 : w1.cell? ⟨b, off + j * 3, none⟩ = some (.string tc[j].name) := p0
  have p1 : w1.cell? ⟨b, off + j * 3 + 1, none⟩ = some (.int .i64 tc[j].kind) := p1
  have p2 : w1.cell? ⟨b, off + j * 3 + 2, none⟩ = some (.bool tc[j].null) := p2
  have hA : CA = some ⟨b, off, none⟩ := hA
  rw [h2] at p1
  subst hA
  have x0 := cell_of_row _ _ 1 _ _ _ g0
  have x1 := cell_of_row _ _ 0 _ _ _ g1
  have x2 := cell_of_row _ _ 1 _ _ _ g1
  have x3 := cell_of_row _ _ 2 _ _ _ g1
  have x4 := cell_of_row _ _ 3 _ _ _ g1
  have x5 : ∀ o, (w1.alloc o).cell? ⟨w.heap.size + 1 + 1, 1, none⟩ = some (.int .i64 c.kind) := fun o => by
    have h := (Below.heap_alloc w1 o (w.heap.size + 1 + 1) (Array.getElem?_eq_some_iff.1 g2).1).trans g2
    exact cell_of_row _ _ 1 _ _ _ h
  have hn1 : n ≤ 1000 := by rw [← hn]; exact hl
  have hjn : (j : Int) < (n : Int) := by omega
  have hj0 : ¬ ((j : Int) = -1) := by omega
  have hj1 : ((j : Int) == -1) = false := by simp
  have h3' : (tc[j].null && !nl) = false := by rcases h3 with h | h <;> simp [h]
  have HH := Lib.hid h3
  have HB1 := Lib.hid hb1
  have HW1 := Lib.hid hw1
  unfold Tbl.val
  simp only
  rw [hn]
  clear ht hl h0 h2 h3 hb1 hw1 g0 g1 g2 hgd
  generalize tc[j].name = cn at *
  generalize tc[j].null = cl at *
  go_enter Try.func35, Try.ntmps35
  go_upto_region 1 with fail
  rw [← HW1.out]
  cases cl with
  | false =>
    go_wp2_with fail
    go_ret
    exact ⟨rfl, HB1.out.alloc HB1.out.size _⟩
  | true =>
    have hnl : nl = true := by simpa using h3'
    subst hnl
    go_wp2_with fail
    go_ret
    exact ⟨rfl, HB1.out.alloc HB1.out.size _⟩

theorem ret_derive {a b c d : Value} {g : Nat} {w : World} (tmps : Array Value) (hp : tmps.getD 4 undef = .pointer (some ⟨g, 0, none⟩)) (hg : w.heap[g]? = some (.cells #[a, b, c, d] 50 (0, 0))) :
    (results Try.f24 tmps).run Try.prog w = .ok (.agg #[a, b, c, d]) w :=
  results_cell_row (P := Try.prog) Try.results24 tmps w g 50 _ (0, 0) _ hp hg Try.underlying50 rfl (by kernel_rfl)
theorem set4 {w : World} {g : Nat} {t : TypeId} {a b c d a' b' c' d' : Value} (h : w.heap[g]? = some (.cells #[a, b, c, d] t (0, 0))) :
    ((((w.setCell ⟨g, 0, none⟩ a').setCell ⟨g, 1, none⟩ b').setCell ⟨g, 2, none⟩ c').setCell ⟨g, 3, none⟩ d').heap[g]? = some (.cells #[a', b', c', d'] t (0, 0)) := by
  rw [heap_setCell_at (heap_setCell_at (heap_setCell_at (heap_setCell_at h _) _) _) _]
  rfl

set_option maxRecDepth 100000 in
set_option maxHeartbeats 4000000 in
theorem deriveW (a : Ac) (A : Option Addr) (c : Nat) (row : Row) (w : World) (ho : Elems 4 opdCs w (· < w.heap.size) a.A a.ops) (hx : Elems 3 Val.cs w (· < w.heap.size) A row) (hl : a.ops.length ≤ 1000) (hr : ∀ k ∈ a.ops, 0 ≤ k ∧ k < (row.length : Int)) (hk : a.kind = 1 ∨ a.kind = 2) :
    Calls Try.prog 24 #[a.val, .slice A row.length c] w fun e w' => ∃ v, e = .returned (.agg #[.int .i64 a.kind, .string a.name, if a.kind = 2 then v else .slice none 0 0, if a.kind = 2 then .slice none 0 0 else v]) ∧ Own 3 Val.cs 26 w.heap.size w' v (keyOf a.ops row) ∧ Below w.heap.size w w' := by
  obtain ⟨kind, name, OA, oc, ops⟩ := a
  obtain ⟨n, hn⟩ : ∃ n, ops.length = n := ⟨_, rfl⟩
  obtain ⟨l, hrl⟩ : ∃ l, row.length = l := ⟨_, rfl⟩
  have hl : n ≤ 1000 := by rw [← hn]; exact hl
  obtain ⟨w1, hw1⟩ : ∃ w1, w1 = (w.alloc (.cells #[.int .i64 kind, .string name, .slice OA n oc] 31)).alloc (.cells #[.int .i64 0, .string ⟨#[]⟩, .slice none 0 0, .slice none 0 0] 50) := ⟨_, rfl⟩
  have hb1 : Below w.heap.size w w1 := by rw [hw1]; exact ((Below.refl _ _).alloc (Nat.le_refl _) _).alloc (le_size1 (Nat.le_refl _) _) _
  have hg0 : w1.heap[w.heap.size]? = some (.cells #[.int .i64 kind, .string name, .slice OA n oc] 31 (0, 0)) := by
    rw [hw1, Below.heap_alloc _ _ _ (by simp)]
    exact heap_alloc_new w _
  have hg1 : w1.heap[w.heap.size + 1]? = some (.cells #[.int .i64 0, .string ⟨#[]⟩, .slice none 0 0, .slice none 0 0] 50 (0, 0)) := by rw [hw1]; exact alloc2_at w _ _
  have hs1 : w1.heap.size = w.heap.size + 2 := by rw [hw1]; simp
  have HBK : Hid (∀ W, Below w1.heap.size w1 W → W.heap[w.heap.size]? = some (.cells #[.int .i64 kind, .string name, .slice OA n oc] 31 (0, 0)) ∧ W.heap[w.heap.size + 1]? = some (.cells #[.int .i64 0, .string ⟨#[]⟩, .slice none 0 0, .slice none 0 0] 50 (0, 0))) := Lib.hid fun W hW =>
    ⟨(hW.block w.heap.size (by omega)).trans hg0, (hW.block (w.heap.size + 1) (by omega)).trans hg1⟩
  have c2 := cell_of_row _ _ 2 _ _ _ hg0
  have HO := Lib.hid (Elems.on ho hb1)
  have HX := Lib.hid (Elems.on hx hb1)
  have HR := Lib.hid hr
  have HK := Lib.hid hk
  have HB1 := Lib.hid hb1
  have HS1 := Lib.hid hs1
  have HW1 := Lib.hid hw1
  have HN := Lib.hid (And.intro hn hrl)
  unfold Ac.val
  simp only at *
  rw [hn, hrl]
  clear ho hx hr hk hw1 hb1 hg0 hg1 hs1 hn hrl
  go_enter Try.func24, Try.ntmps24
  go_upto_region 1 with fail
  rw [← HW1.out]
  go_wp2_with fail
  go_loopw [5, 11] (fun v5 vi wr => ∃ k : Nat, vi = .int .i64 (k : Int) ∧ k ≤ n ∧ Own 3 Val.cs 26 w1.heap.size wr v5 (keyOf (ops.take k) row) ∧ Below w1.heap.size w1 wr) (fun _ vi _ => n - (intOf vi).toNat)
  case atStart => exact ⟨0, rfl, by omega, Own.nil _, Below.refl _ _⟩
  case round =>
    obtain ⟨k, rfl, hkn, hT⟩ := hrel
    obtain ⟨wo, rfl⟩ : ∃ wo, wo = wr := ⟨_, rfl⟩
    obtain ⟨v5, rfl⟩ : ∃ v5, v5 = u5 := ⟨_, rfl⟩
    obtain ⟨hw, hb⟩ := hT
    by_cases hlt : k < n
    · have hki : k < ops.length := by have := HN.out.1; omega
      obtain ⟨b, off, rfl, -, q0, q1, q2, q3⟩ := (HO.out.on hb).opd hki
      have hlt' : (k : Int) < (n : Int) := by omega
      obtain ⟨hp0, hp1⟩ := HR.out _ (List.getElem_mem hki)
      obtain ⟨j, hj⟩ := Int.eq_ofNat_of_zero_le hp0
      have hjr : j < row.length := by omega
      have hjl : (j : Int) < (l : Int) := by have := HN.out.2; omega
      have hka : keyAt row (ops[k]) = row[j] := by
        rw [hj]
        unfold keyAt
        rw [if_pos ⟨by omega, by omega⟩, Int.toNat_natCast, List.getD_eq_getElem?_getD, List.getElem?_eq_getElem hjr]
        rfl
      have HKO : Hid (keyOf (ops.take (k + 1)) row = keyOf (ops.take k) row ++ [row[j]]) := Lib.hid (by rw [keyOf_take (row := row) hki, hka])
      rw [hj] at q0
      obtain ⟨w2, hw2⟩ : ∃ w2, w2 = wo.alloc (.cells #[.int .i64 (j : Int), .int .i64 0, .int .i64 0, .string ⟨#[]⟩] 28) := ⟨_, rfl⟩
      have hb2 : Below wo.heap.size wo w2 := by rw [hw2]; exact (Below.refl _ _).alloc (Nat.le_refl _) _
      have hg2 : w2.heap[wo.heap.size]? = some (.cells #[.int .i64 (j : Int), .int .i64 0, .int .i64 0, .string ⟨#[]⟩] 28 (0, 0)) := by rw [hw2]; exact heap_alloc_new wo _
      have y0 := cell_of_row _ _ 0 _ _ _ hg2
      have hbw : Below w1.heap.size w1 w2 := hb.trans (hb2.mono hb.size)
      obtain ⟨b', off', rfl, -, e0, e1, e2⟩ := (HX.out.on hbw).val hjr
      have hlen : (keyOf (ops.take k) row).length = k := by
        unfold keyOf
        rw [List.length_map, List.length_take]
        omega
      have HL1 : Hid (((keyOf (ops.take k) row).length + 1) * 32 ≤ 140737488355328) := Lib.hid (by rw [hlen]; omega)
      have HL2 : Hid ((keyOf (ops.take k) row).length + 1 ≤ maxLen) := Lib.hid (by rw [hlen]; unfold maxLen; omega)
      have HO2 := Lib.hid (hw.below hb2)
      have HS2 : Hid (w1.heap.size ≤ w2.heap.size) := Lib.hid hbw.size
      have HFR : Hid (∀ w3 v3, Ext w2 v5 w3 v3 → Below w1.heap.size w1 w3) := Lib.hid fun w3 v3 hx => hbw.trans (hx.below hbw.size fun g hg => (Own.lt hw g hg).1)
      have HW2 := Lib.hid hw2
      have hj0 : ¬ (j : Int) < 0 := by omega
      clear hw2 hb2 hg2 hbw hlen hka hw hb hp0 hp1 hj
      generalize row[j] = x at *
      go_upto_region 5 with fail
      rw [← HW2.out]
      go_wp2_with (at_builtin; refine wpList_app rfl (.tmp 23) (.tmp 29) _ _ rfl rfl rfl (run_push elem_val valLay _ _ _ (keyOf (ops.take k) row) x _ HO2.out rfl HL1.out HL2.out HS2.out rfl) ?_; rintro v2 w3 ⟨ho2, hx2⟩)
      have HF : Hid (Own 3 Val.cs 26 w1.heap.size w3 v2 (keyOf (ops.take (k + 1)) row) ∧ Below w1.heap.size w1 w3) := Lib.hid ⟨by rw [HKO.out]; exact ho2, HFR.out _ _ hx2⟩
      clear ho2 hx2
      go_wp2_with fail
      go_roundw
      case rel => exact ⟨k + 1, by go_num, by omega, HF.out.1, HF.out.2⟩
      case measure => simp [intOf]; omega
    · have hkn' : k = n := by omega
      subst hkn'
      rw [List.take_of_length_le (by have := HN.out.1; omega)] at hw
      obtain ⟨A2, c2, rfl, -, -⟩ := hw.form
      obtain ⟨h0, h1⟩ := HBK.out wo hb
      have x0 := cell_of_row _ _ 0 _ _ _ h0
      have x1 := cell_of_row _ _ 1 _ _ _ h0
      have n0 := cell_of_row _ _ 0 _ _ _ h1
      have n1 := cell_of_row _ _ 1 _ _ _ h1
      have n2 := cell_of_row _ _ 2 _ _ _ h1
      have n3 := cell_of_row _ _ 3 _ _ _ h1
      have f0 := frozen_of_row _ _ 0 _ _ h1
      have f1 := frozen_of_row _ _ 1 _ _ h1
      have f2 := frozen_of_row _ _ 2 _ _ h1
      have f3 := frozen_of_row _ _ 3 _ _ h1
      have hne : ∀ g, (Value.slice A2 (keyOf ops row).length c2).ownBlock = some g → g ≠ w.heap.size + 1 := fun g hg => by have := (Own.lt hw g hg).1; have := HS1.out; omega
      have HF := Lib.hid (And.intro hw (And.intro hb (And.intro h1 hne)))
      have hgs : w.heap.size ≤ w.heap.size + 1 := by omega
      have HBS : Hid (Below w.heap.size w wo) := Lib.hid (HB1.out.trans (hb.mono (by have := HS1.out; omega)))
      clear hw hb h0 h1 hne
      rcases HK.out with rfl | rfl
      · go_wp2_with fail
        refine bodyPost_ret (ret_derive _ rfl (set4 HF.out.2.2.1)) rfl ?_
        exact ⟨_, rfl, ((((HF.out.1.mono (by have := HS1.out; omega)).setCell HF.out.2.2.2 _).setCell HF.out.2.2.2 _).setCell HF.out.2.2.2 _).setCell HF.out.2.2.2 _, (((HBS.out.setCell hgs _).setCell hgs _).setCell hgs _).setCell hgs _⟩
      · go_wp2_with fail
        refine bodyPost_ret (ret_derive _ rfl (set4 HF.out.2.2.1)) rfl ?_
        exact ⟨_, rfl, ((((HF.out.1.mono (by have := HS1.out; omega)).setCell HF.out.2.2.2 _).setCell HF.out.2.2.2 _).setCell HF.out.2.2.2 _).setCell HF.out.2.2.2 _, (((HBS.out.setCell hgs _).setCell hgs _).setCell hgs _).setCell hgs _⟩
end Go.Proofs.Ytefifkleamiabaa
