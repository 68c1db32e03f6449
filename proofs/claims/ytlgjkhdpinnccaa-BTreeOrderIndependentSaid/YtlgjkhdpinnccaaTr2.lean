/-
  The visitor of Range; the walk of Range.
-/
import Derived.Test.YtlgjkhdpinnccaaGrE
namespace Go.Proofs.Ytlgjkhdpinnccaa
open Go.RowKit Go.Sort

/-- What the visitor of Range does. -/
def rgF (high : Row) (s : List PE) (x : Ent) : List PE × Bool := if cmpR x.key.row high < 0 then (s ++ [pr x], true) else (s, false)

set_option maxRecDepth 100000 in
set_option maxHeartbeats 4000000 in
theorem visRange {w0 : World} {K : Nat → Prop} (hK : ∀ k, K k → k < w0.heap.size) (ob lb hb' : Nat) (h0 : w0.heap.size ≤ ob) (AH : Option Addr) (cH : Nat) (high : Row) (hhi : Elems 3 Val.cs w0 (· < w0.heap.size) AH high)
    (hlb : w0.heap[lb]? = some (.cells #[.int .i64 1000] 3 (0, 0))) (hhb : w0.heap[hb']? = some (.cells #[.slice AH high.length cH] 30 (0, 0))) :
    Vis w0 K 40 #[ptr ob, ptr lb, ptr hb'] (fun s w => OutE ob w s) (rgF high) List.length 1000 := by
  refine ⟨fun args w => by kernel_rfl, fun s x => by unfold rgF; split <;> simp, ?_, fun s W W' h hb => h.below hb⟩
  intro s x W hn hR hb hx
  obtain ⟨v, es, hc, hcop⟩ := hR
  obtain ⟨Av, cv, rfl, -, -⟩ := hcop.own.form
  have hel : es.length = s.length := by
    have h := congrArg List.length hcop.eq
    rwa [List.length_map] at h
  generalize hnv : es.length = nv at *
  have hnN : nv < 1000 := by omega
  clear hnv hel
  obtain ⟨W1, hW1⟩ : ∃ W1, W1 = W.alloc (.cells #[.slice x.key.A x.key.row.length x.key.c, .int .i64 x.val] 45) := ⟨_, rfl⟩
  have hba : Below W.heap.size W W1 := by rw [hW1]; exact (Below.refl _ _).alloc (Nat.le_refl _) _
  have hb1 : Below w0.heap.size w0 W1 := hb.trans (hba.mono hb.size)
  have hbox : W1.heap[W.heap.size]? = some (.cells #[.slice x.key.A x.key.row.length x.key.c, .int .i64 x.val] 45 (0, 0)) := by rw [hW1]; exact heap_alloc_new W _
  have hob : ob < W.heap.size := (Array.getElem?_eq_some_iff.1 hc).1
  have hc1 := (hba.block ob hob).trans hc
  have hcop1 := hcop.below hba
  have k0 : W1.cell? ⟨W.heap.size, 0, none⟩ = some (.slice x.key.A x.key.row.length x.key.c) := by rw [cell_of_row _ _ _ _ _ _ hbox]; rfl
  have k1 : W1.cell? ⟨W.heap.size, 1, none⟩ = some (.int .i64 x.val) := by rw [cell_of_row _ _ _ _ _ _ hbox]; rfl
  have k2 : W1.cell? ⟨ob, 0, none⟩ = some (.slice Av nv cv) := by rw [cell_of_row _ _ _ _ _ _ hc1]; rfl
  have hWl : W.heap.size < W1.heap.size := by rw [hW1]; simp
  have hobl : ob < W1.heap.size := by omega
  have hlW : W1.cell? ⟨lb, 0, none⟩ = some (.int .i64 1000) := by rw [cell_of_row _ _ _ _ _ _ ((hb1.block lb (Array.getElem?_eq_some_iff.1 hlb).1).trans hlb)]; rfl
  have hhW : W1.cell? ⟨hb', 0, none⟩ = some (.slice AH high.length cH) := by rw [cell_of_row _ _ _ _ _ _ ((hb1.block hb' (Array.getElem?_eq_some_iff.1 hhb).1).trans hhb)]; rfl
  have HCM : Hid (Calls Try.prog 41 #[.slice x.key.A x.key.row.length x.key.c, .slice AH high.length cH] W1 fun e w' => e = .returned (.int .i64 (cmpR x.key.row high)) ∧ Below W1.heap.size W1 w') := Lib.hid ((cmpRows _ _ _ _ x.key.row high W1 K (· < w0.heap.size) (hx.el.keep (Keeps.of_below hba fun k hk => Nat.lt_of_lt_of_le (hK k hk) hb.size)) (hhi.keep (Keeps.of_below hb1 fun _ h => h)) (fun k hk => Nat.lt_of_lt_of_le (hK k hk) hb1.size) (fun k hk => Nat.lt_of_lt_of_le hk hb1.size) (by have := hx.len; omega)).mono fun e w' ⟨h1, p, h2⟩ => ⟨h1, by rw [h2]; exact below_grow W1 p.n p.os⟩)
  have HCL : Hid (∀ Wc, Below W1.heap.size W1 Wc → Calls Try.prog 30 #[.slice x.key.A x.key.row.length x.key.c] Wc.drew fun e w2 => ∃ A' c', e = .returned (.slice A' x.key.row.length c') ∧ w2.cell? ⟨ob, 0, none⟩ = some (.slice Av nv cv) ∧ w2.cell? ⟨W.heap.size, 0, none⟩ = some (.slice x.key.A x.key.row.length x.key.c) ∧ w2.cell? ⟨W.heap.size, 1, none⟩ = some (.int .i64 x.val) ∧ (∀ ob', (w2.alloc ob').cell? ⟨ob, 0, none⟩ = some (.slice Av nv cv))
      ∧ Hid (∀ ty, ∃ v3 w3, (Builtin.append_ #[43, 43] ty #[.slice Av nv cv, .slice (some ⟨w2.heap.size, 0, none⟩) 1 1]).run Try.prog (w2.alloc (.cells #[.slice A' x.key.row.length c', .int .i64 x.val] 45)) = .ok v3 w3
        ∧ (∃ A3 n3 c3, v3 = .slice A3 n3 c3) ∧ w3.cell? ⟨ob, 0, none⟩ = some (.slice Av nv cv) ∧ w3.frozen? ⟨ob, 0, none⟩ = false ∧ OutE ob (w3.setCell ⟨ob, 0, none⟩ v3) (s ++ [pr x]) ∧ Below w0.heap.size w0 (w3.setCell ⟨ob, 0, none⟩ v3))) := Lib.hid fun Wc hWc => by
    have hbd : Below W1.heap.size W1 Wc.drew := hWc.drew
    have hbdc : Below Wc.heap.size Wc Wc.drew := (Below.refl _ _).drew
    have hb1c : Below w0.heap.size w0 Wc := hb1.trans (hWc.mono hb1.size)
    have hx1 : Elems 3 Val.cs Wc.drew (· < Wc.drew.heap.size) x.key.A x.key.row := (hx.el.keep (Keeps.of_below (hba.trans (hbd.mono hba.size)) fun k hk => Nat.lt_of_lt_of_le (hK k hk) hb.size)).more fun k hk => Nat.lt_of_lt_of_le (hK k hk) hb1c.size
    refine (cloneRow x.key.A x.key.row.length x.key.c x.key.row Wc.drew _ hx1 (fun _ h => h) rfl (by have := hx.len; omega)).mono ?_
    rintro e w2 ⟨v2, rfl, ho2, hb2⟩
    obtain ⟨A', c', rfl, -, -⟩ := ho2.form
    have hb2' : Below W1.heap.size W1 w2 := hbd.trans (hb2.mono hWc.size)
    have hb2c : Below Wc.heap.size Wc w2 := hbdc.trans hb2
    exact ⟨A', c', rfl, (hb2'.cell (p := ⟨ob, 0, none⟩) hobl).trans k2, (hb2'.cell (p := ⟨W.heap.size, 0, none⟩) hWl).trans k0, (hb2'.cell (p := ⟨W.heap.size, 1, none⟩) hWl).trans k1, fun ob' => ((hb2'.alloc hb2'.size ob').cell (p := ⟨ob, 0, none⟩) hobl).trans k2, Lib.hid fun ty => cop_push hb1c h0 ((hWc.block ob hobl).trans hc1) (hcop1.below hWc) hn ho2 hx.len hb2c ty⟩
  have HSTOP : Hid (∀ Wc, Below W1.heap.size W1 Wc → OutE ob Wc s ∧ Below w0.heap.size w0 Wc) := Lib.hid fun Wc hWc => ⟨OutE.below ⟨_, _, hc1, hcop1⟩ hWc, hb1.trans (hWc.mono hb1.size)⟩
  have HW1 := Lib.hid hW1
  have hlt : ¬ ((1000 : Int) ≤ (nv : Int)) := by omega
  have hlt2 : decide ((1000 : Int) ≤ (nv : Int)) = false := by rw [decide_eq_false_iff_not]; omega
  have hlt3 : (nv : Int) < 1000 := by omega
  have HRG : Hid (rgF high s x = if cmpR x.key.row high < 0 then (s ++ [pr x], true) else (s, false)) := Lib.hid rfl
  clear hcop hcop1 hc hc1 hx hbox hb hb1 hba hK hW1 hhi hlb hhb
  generalize cmpR x.key.row high = cv at *
  go_enter Try.func40, Try.ntmps40
  go_upto_region 1 with fail
  rw [← HW1.out]
  go_wp2_with fail
  refine HCM.out.mono ?_
  rintro e wc ⟨rfl, hbc⟩
  have HBC := Lib.hid hbc
  by_cases hcv : cv < 0
  · have hcv2 : ¬ (0 ≤ cv) := by omega
    rw [if_pos hcv] at HRG
    have HCL2 := Lib.hid (HCL.out wc hbc)
    have q0 := (hbc.cell (p := ⟨W.heap.size, 0, none⟩) hWl).trans k0
    have q1 := (hbc.cell (p := ⟨W.heap.size, 1, none⟩) hWl).trans k1
    have q2 := (hbc.cell (p := ⟨ob, 0, none⟩) hobl).trans k2
    clear hbc HCL HCM k0 k1 k2
    go_upto_region 3 with fail
    go_region_law (first
      | (go_simp; go_at_call 30; refine HCL2.out.mono ?_; rintro e w2 ⟨A', c', rfl, p1, p2, p3, p4, HAP⟩)
      | (refine step_app (by rfl) (.tmp 17) (.tmp 24) _ _ (by rfl) (by rfl) (by rfl) (HAP.out _) ?_; rintro _ w3 ⟨⟨A3, n3, c3, rfl⟩, f1, f2, f3, f4⟩; have F3 := Lib.hid f3; have F4 := Lib.hid f4; clear f3 f4))
    all_goals
      go_wp2_with fail
      go_ret
      exact ⟨by rw [HRG.out]; rfl, by rw [HRG.out]; exact F3.out, F4.out⟩
  · have hcv2 : 0 ≤ cv := by omega
    rw [if_neg hcv] at HRG
    have HS := Lib.hid (HSTOP.out wc hbc)
    clear hbc HCL HCM k0 k1 k2
    go_wp2_with fail
    go_ret
    exact ⟨by rw [HRG.out]; rfl, by rw [HRG.out]; exact HS.out.1, HS.out.2⟩
end Go.Proofs.Ytlgjkhdpinnccaa
