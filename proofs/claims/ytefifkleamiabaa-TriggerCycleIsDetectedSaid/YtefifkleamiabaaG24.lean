/-
  The walks of slices.Equal at rows of different lengths, and of trigger.cloneChange.
-/
import Derived.Test.YtefifkleamiabaaG23
namespace Go.Proofs.Ytefifkleamiabaa
open Go.RowKit Go.Sort

set_option maxRecDepth 100000 in
theorem equalLen (A B : Option Addr) (n c m d : Nat) (w : World) (h : n ≠ m) :
    Calls Try.prog 22 #[.slice A n c, .slice B m d] w fun e w' => e = .returned (.bool false) ∧ w = w' := by
  have h' : ((n : Int) == (m : Int)) = false := by simp; omega
  have h2 : ¬ (n : Int) = (m : Int) := by omega
  clear h
  go_enter Try.func22, Try.ntmps22
  go_wp2_with fail
  go_ret
  exact ⟨rfl, rfl⟩

theorem ret_cloneC {a b c d : Value} {g : Nat} {w : World} (tmps : Array Value) (hp : tmps.getD 2 undef = .pointer (some ⟨g, 0, none⟩)) (hg : w.heap[g]? = some (.cells #[a, b, c, d] 50 (0, 0))) :
    (results Try.f13 tmps).run Try.prog w = .ok (.agg #[a, b, c, d]) w :=
  results_cell_row (P := Try.prog) Try.results13 tmps w g 50 _ (0, 0) _ hp hg Try.underlying50 rfl (by kernel_rfl)

/-- The two boxes. -/
def CcX (g : Nat) (ch : ChM) (W : World) : Prop :=
  W.heap[g]? = some (.cells ch.cells 50 (0, 0)) ∧ W.heap[g + 1]? = some (.cells #[.int .i64 0, .string ⟨#[]⟩, .slice none 0 0, .slice none 0 0] 50 (0, 0))
theorem CcX.at {g : Nat} {kind : Int} {nm : ByteArray} {kA rA : Option Addr} {kc rc : Nat} {kr rr : Row} {W : World} (h : CcX g ⟨kind, nm, ⟨kA, kc, kr⟩, ⟨rA, rc, rr⟩⟩ W) :
    (W.cell? ⟨g, 0, none⟩ = some (.int .i64 kind) ∧ W.cell? ⟨g, 1, none⟩ = some (.string nm) ∧ W.cell? ⟨g, 2, none⟩ = some (.slice kA kr.length kc) ∧ W.cell? ⟨g, 3, none⟩ = some (.slice rA rr.length rc))
    ∧ (W.cell? ⟨g + 1, 0, none⟩ = some (.int .i64 0) ∧ W.cell? ⟨g + 1, 1, none⟩ = some (.string ⟨#[]⟩) ∧ W.cell? ⟨g + 1, 2, none⟩ = some (.slice none 0 0) ∧ W.cell? ⟨g + 1, 3, none⟩ = some (.slice none 0 0))
    ∧ (∀ i, W.frozen? ⟨g, i, none⟩ = false) ∧ (∀ i, W.frozen? ⟨g + 1, i, none⟩ = false) :=
  ⟨⟨cell_of_row _ _ 0 _ _ _ h.1, cell_of_row _ _ 1 _ _ _ h.1, cell_of_row _ _ 2 _ _ _ h.1, cell_of_row _ _ 3 _ _ _ h.1⟩, ⟨cell_of_row _ _ 0 _ _ _ h.2, cell_of_row _ _ 1 _ _ _ h.2, cell_of_row _ _ 2 _ _ _ h.2, cell_of_row _ _ 3 _ _ _ h.2⟩, fun i => frozen_of_row _ _ i _ _ h.1, fun i => frozen_of_row _ _ i _ _ h.2⟩
/-- Behind the first clone: the second. -/
def CcK (g base : Nat) (w1 : World) (ch : ChM) (e : Ending) (w2 : World) : Prop :=
  ∃ A2 c2, e = .returned (.slice A2 ch.key.row.length c2) ∧ CcX g ch w2
    ∧ Hid (Calls Try.prog 25 #[.slice ch.row.A ch.row.row.length ch.row.c] w2 fun e w3 => ∃ A3 c3, e = .returned (.slice A3 ch.row.row.length c3) ∧ CcX g ch w3
      ∧ Hid (Below base w1 w3 ∧ Own 3 Val.cs 26 w1.heap.size w3 (.slice A2 ch.key.row.length c2) ch.key.row ∧ Own 3 Val.cs 26 w1.heap.size w3 (.slice A3 ch.row.row.length c3) ch.row.row))
theorem cck {w w1 : World} {ch : ChM} (hb1 : Below w.heap.size w w1) (hs1 : w1.heap.size = w.heap.size + 2) (hx : CcX w.heap.size ch w1) (hc : ChOk (· < w.heap.size) w ch) (m : Nat) :
    Calls Try.prog 25 #[.slice ch.key.A ch.key.row.length ch.key.c] (w1.drewN m) (CcK w.heap.size w1.heap.size w1 ch) := by
  have hd : Below w1.heap.size w1 (w1.drewN m) := below_drewN (Below.refl _ _) m
  have hB : ∀ W, Below w1.heap.size w1 W → CcX w.heap.size ch W := fun W hW => ⟨(hW.block _ (by omega)).trans hx.1, (hW.block _ (by omega)).trans hx.2⟩
  have h1 := hb1.trans (hd.mono hb1.size)
  refine (cloneRow ch.key.A ch.key.row.length ch.key.c ch.key.row (w1.drewN m) _ (hc.key.on h1).el (fun _ h => h) rfl (by have := hc.key.len; omega)).mono ?_
  rintro e w2 ⟨v2, rfl, ho2, hb2⟩
  obtain ⟨A2, c2, rfl, -, -⟩ := ho2.form
  have hb12 := hd.trans hb2
  have h2 := hb1.trans (hb12.mono hb1.size)
  refine ⟨A2, c2, rfl, hB _ hb12, Lib.hid ?_⟩
  refine (cloneRow ch.row.A ch.row.row.length ch.row.c ch.row.row w2 _ (hc.row.on h2).el (fun _ h => h) rfl (by have := hc.row.len; omega)).mono ?_
  rintro e w3 ⟨v3, rfl, ho3, hb3⟩
  obtain ⟨A3, c3, rfl, -, -⟩ := ho3.form
  have hb13 := hb12.trans (hb3.mono hb12.size)
  exact ⟨A3, c3, rfl, hB _ hb13, Lib.hid ⟨hb13, (ho2.below hb3).mono hd.size, ho3.mono hb12.size⟩⟩

set_option maxRecDepth 100000 in
set_option maxHeartbeats 8000000 in
theorem cloneChange (ch : ChM) (w : World) (hc : ChOk (· < w.heap.size) w ch) :
    Calls Try.prog 13 #[.agg ch.cells] w fun e w' => ∃ ch' : ChM, e = .returned (.agg ch'.cells) ∧ ch'.kind = ch.kind ∧ ch'.name = ch.name ∧ ch'.key.row = ch.key.row ∧ ch'.row.row = ch.row.row ∧ ChOk (fun g => w.heap.size ≤ g ∧ g < w'.heap.size) w' ch' ∧ Below w.heap.size w w' := by
  obtain ⟨w1, hw1⟩ : ∃ w1, w1 = (w.alloc (.cells ch.cells 50)).alloc (.cells #[.int .i64 0, .string ⟨#[]⟩, .slice none 0 0, .slice none 0 0] 50) := ⟨_, rfl⟩
  have hb1 : Below w.heap.size w w1 := by rw [hw1]; exact ((Below.refl _ _).alloc (Nat.le_refl _) _).alloc (le_size1 (Nat.le_refl _) _) _
  have hg0 : w1.heap[w.heap.size]? = some (.cells ch.cells 50 (0, 0)) := by
    rw [hw1, Below.heap_alloc _ _ _ (by simp)]
    exact heap_alloc_new w _
  have hg1 : w1.heap[w.heap.size + 1]? = some (.cells #[.int .i64 0, .string ⟨#[]⟩, .slice none 0 0, .slice none 0 0] 50 (0, 0)) := by rw [hw1]; exact alloc2_at w _ _
  have hs1 : w1.heap.size = w.heap.size + 2 := by rw [hw1]; simp
  have HCK := Lib.hid fun m => cck hb1 hs1 ⟨hg0, hg1⟩ hc m
  have HLN := Lib.hid (And.intro hc.key.len hc.row.len)
  have HB1 := Lib.hid (And.intro hb1 hs1)
  have HW1 := Lib.hid hw1
  obtain ⟨kind, nm, ⟨kA, kc, kr⟩, ⟨rA, rc, rr⟩⟩ := ch
  unfold ChM.cells at HW1 hg0 ⊢
  simp only at HCK HW1 HLN hg0 ⊢
  have k0 := cell_of_row _ _ 0 _ _ _ hg0
  have k1 := cell_of_row _ _ 1 _ _ _ hg0
  have k2 := cell_of_row _ _ 2 _ _ _ hg0
  have k3 := cell_of_row _ _ 3 _ _ _ hg0
  clear hc hb1 hs1 hw1 hg0 hg1
  go_enter Try.func13, Try.ntmps13
  go_upto_region 1 with fail
  rw [← HW1.out]
  go_region_law (first
    | (go_simp; go_at_call 25; refine HRC.out.mono ?_; rintro e w3 ⟨A3, c3, rfl, hy, HFIN⟩; obtain ⟨⟨q0, q1, q2, q3⟩, ⟨r0, r1, r2, r3⟩, f0, f1⟩ := hy.at; have HY := Lib.hid hy; clear hy)
    | (go_simp; go_at_call 25; refine (HCK.out 1).mono ?_; rintro e w2 ⟨A2, c2, rfl, hz, HRC⟩; obtain ⟨⟨p0, p1, p2, p3⟩, -, -, -⟩ := hz.at; clear hz))
  all_goals
    go_wp2_with fail
    have hz : ((w3.setCell ⟨w.heap.size, 2, none⟩ (.slice A2 kr.length c2)).setCell ⟨w.heap.size, 3, none⟩ (.slice A3 rr.length c3)).heap[w.heap.size + 1]? = some (.cells #[.int .i64 0, .string ⟨#[]⟩, .slice none 0 0, .slice none 0 0] 50 (0, 0)) := by
      rw [Below.heap_setCell _ _ _ _ (by simp), Below.heap_setCell _ _ _ _ (by simp)]
      exact HY.out.2
    refine bodyPost_ret (ret_cloneC _ rfl (set4 hz)) rfl ?_
    obtain ⟨hbf, ho2, ho3⟩ := HFIN.out
    obtain ⟨hb1, hs1⟩ := HB1.out
    have h20 : ∀ g, (Value.slice A2 kr.length c2).ownBlock = some g → g ≠ w.heap.size := fun g hg => by have := (Own.lt ho2 g hg).1; omega
    have h21 : ∀ g, (Value.slice A2 kr.length c2).ownBlock = some g → g ≠ w.heap.size + 1 := fun g hg => by have := (Own.lt ho2 g hg).1; omega
    have h30 : ∀ g, (Value.slice A3 rr.length c3).ownBlock = some g → g ≠ w.heap.size := fun g hg => by have := (Own.lt ho3 g hg).1; omega
    have h31 : ∀ g, (Value.slice A3 rr.length c3).ownBlock = some g → g ≠ w.heap.size + 1 := fun g hg => by have := (Own.lt ho3 g hg).1; omega
    have e2 := ((((((ho2.mono hb1.size).setCell h20 (p := ⟨w.heap.size, 2, none⟩) (.slice A2 kr.length c2)).setCell h20 (p := ⟨w.heap.size, 3, none⟩) (.slice A3 rr.length c3)).setCell h21 (p := ⟨w.heap.size + 1, 0, none⟩) (.int .i64 kind)).setCell h21 (p := ⟨w.heap.size + 1, 1, none⟩) (.string nm)).setCell h21 (p := ⟨w.heap.size + 1, 2, none⟩) (.slice A2 kr.length c2)).setCell h21 (p := ⟨w.heap.size + 1, 3, none⟩) (.slice A3 rr.length c3)
    have e3 := ((((((ho3.mono hb1.size).setCell h30 (p := ⟨w.heap.size, 2, none⟩) (.slice A2 kr.length c2)).setCell h30 (p := ⟨w.heap.size, 3, none⟩) (.slice A3 rr.length c3)).setCell h31 (p := ⟨w.heap.size + 1, 0, none⟩) (.int .i64 kind)).setCell h31 (p := ⟨w.heap.size + 1, 1, none⟩) (.string nm)).setCell h31 (p := ⟨w.heap.size + 1, 2, none⟩) (.slice A2 kr.length c2)).setCell h31 (p := ⟨w.heap.size + 1, 3, none⟩) (.slice A3 rr.length c3)
    have hg0 : w.heap.size ≤ w.heap.size := Nat.le_refl _
    have hg1 : w.heap.size ≤ w.heap.size + 1 := Nat.le_succ _
    have hb := hb1.trans (hbf.mono hb1.size)
    exact ⟨⟨kind, nm, ⟨A2, c2, kr⟩, ⟨A3, c3, rr⟩⟩, rfl, rfl, rfl, rfl, rfl, ⟨⟨(e2.elems valLay.len rfl).more fun g hg => Own.lt e2 g hg, HLN.out.1⟩, ⟨(e3.elems valLay.len rfl).more fun g hg => Own.lt e3 g hg, HLN.out.2⟩⟩, (((((hb.setCell hg0 _).setCell hg0 _).setCell hg1 _).setCell hg1 _).setCell hg1 _).setCell hg1 _⟩
end Go.Proofs.Ytefifkleamiabaa
