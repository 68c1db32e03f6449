/-
  The walk of rle.appendRun.
-/
import Derived.Test.YtimndhnbbmedbaaEqv
import Derived.Test.YtimndhnbbmedbaaRle
import Derived.Test.YtimndhnbbmedbaaValidate
import Derived.Deep.RegionHeld3
import Derived.StillTailTactics
namespace Go.Proofs.Ytimndhnbbmedbaa
open Go.RowKit

theorem elem_run : ElemT Try.prog 27 45 4 40 := ⟨Try.underlying27, by
  have h : (Try.prog.info? 45).map (fun i => (i.zero, i.size, i.bytes)) = some (some (.agg #[.int .i64 0, .int .i64 0, .string ByteArray.empty, .int .i64 0]), 4, 40) := by kernel_rfl
  obtain ⟨i0, hi, hz0, hz1, hz2⟩ := info_parts h
  exact ⟨i0, _, hi, hz0, hz1, hz2, rfl⟩, by omega⟩

abbrev Runs (base : Nat) (w : World) (v : Value) (rs : List Run) : Prop := Own 4 Run.cs 45 base w v rs

/-- The cells of the last run of an own slice. -/
theorem Runs.last {base : Nat} {w : World} {v : Value} {d : List Run} {l : Run} (h : Runs base w v (d ++ [l])) :
    ∃ g c, v = .slice (some ⟨g, 0, none⟩) (d.length + 1) c ∧ base ≤ g ∧ g < w.heap.size ∧ d.length + 1 ≤ c ∧ c ≤ maxLen ∧ w.cell? ⟨g, d.length * 4, none⟩ = some (.int .i64 l.v.kind) ∧ w.cell? ⟨g, d.length * 4 + 1, none⟩ = some (.int .i64 l.v.int) ∧
      w.cell? ⟨g, d.length * 4 + 2, none⟩ = some (.string l.v.text) ∧ w.cell? ⟨g, d.length * 4 + 3, none⟩ = some (.int .i64 (l.n : Int)) ∧ w.frozen? ⟨g, d.length * 4 + 3, none⟩ = false := by
  obtain ⟨A, c, hv, hc, hm⟩ := h.form
  have he := h.elems runLay.len hv
  obtain ⟨b, off, hA, hb, hcell⟩ := he.at_ (k := d.length) (by simp)
  subst hA
  rw [hv] at h
  rcases h.2 with ⟨h1, _⟩ | ⟨g, cap, cur, h1, h2, h3, _⟩
  · cases h1
  · injection h1 with h1 _ h5
    injection h1 with h1
    injection h1 with h1 h6
    subst h1 h5 h6
    have hk : (d ++ [l])[d.length]'(by simp) = l := by simp
    rw [hk] at hcell
    have hl : (d ++ [l]).length = d.length + 1 := by simp
    rw [hl] at hv hc
    simp only [Nat.zero_add] at hcell
    exact ⟨b, c, hv, h2, (Array.getElem?_eq_some_iff.1 h3).1, hc, hm, hcell 0 _ rfl, hcell 1 _ rfl, hcell 2 _ rfl, hcell 3 _ rfl, frozen_of_row w b _ _ _ h3⟩

/-- The last run's count is raised in place. -/
theorem Runs.raise {base : Nat} {w : World} {g c : Nat} {d : List Run} {l : Run} (h : Runs base w (.slice (some ⟨g, 0, none⟩) (d.length + 1) c) (d ++ [l])) (m : Nat) :
    Runs base (w.setCell ⟨g, d.length * 4 + 3, none⟩ (.int .i64 (m : Int))) (.slice (some ⟨g, 0, none⟩) (d.length + 1) c) (d ++ [⟨l.v, m⟩]) ∧ Ext w (.slice (some ⟨g, 0, none⟩) (d.length + 1) c) (w.setCell ⟨g, d.length * 4 + 3, none⟩ (.int .i64 (m : Int))) (.slice (some ⟨g, 0, none⟩) (d.length + 1) c) := by
  have h' : w.ownsRow base 45 4 (.slice (some ⟨g, 0, none⟩) (d.length + 1) c) (d.length + 1) ((d ++ [l]).flatMap Run.cs) := by
    have := h
    unfold Runs Own at this
    simpa using this
  obtain ⟨h1, h2⟩ := h'.stored (d.length * 4 + 3) (.int .i64 (m : Int))
  refine ⟨?_, ⟨h2, .inl rfl⟩⟩
  unfold Runs Own
  have hl : (d ++ [(⟨l.v, m⟩ : Run)]).length = d.length + 1 := by simp
  rw [hl]
  have hdl : (d.flatMap Run.cs).length = d.length * 4 := by
    clear h h' h1 h2 hl
    induction d with
    | nil => simp
    | cons x d ih => rw [List.flatMap_cons, List.length_append, ih, runLay.len, List.length_cons]; omega
  have e : ((d ++ [l]).flatMap Run.cs).set (d.length * 4 + 3) (.int .i64 (m : Int)) = (d ++ [(⟨l.v, m⟩ : Run)]).flatMap Run.cs := by
    rw [List.flatMap_append, List.flatMap_append, List.set_append_right _ _ (by omega), hdl, Nat.add_sub_cancel_left]
    rfl
  rw [e] at h1
  exact h1

set_option maxRecDepth 100000 in
set_option maxHeartbeats 1000000 in
theorem appendRun (base : Nat) (v : Value) (d : List Run) (x : Val) (m : Nat) (w : World) (hown : Runs base w v d) (hB : base ≤ w.heap.size) (hm : 1 ≤ m) (hmm : m ≤ 1000000) (hd : ∀ r ∈ d, r.n ≤ 1000000) (hs : d.length ≤ 1000000) :
    Calls Try.prog 21 #[v, .agg #[.int .i64 x.kind, .int .i64 x.int, .string x.text, .int .i64 m]] w fun e w' => ∃ v', e = .returned v' ∧ Runs base w' v' (appRun d ⟨x, m⟩) ∧ Ext w v w' v' := by
  have hm0 : ((m : Int) == 0) = false := by rw [beq_eq_false_iff_ne]; omega
  have hb0 : w.heap.size ≤ w.heap.size := Nat.le_refl _
  rcases list_snoc d with rfl | ⟨e, l, rfl⟩
  · rw [appRun_nil]
    obtain ⟨A, c, rfl, hc, _⟩ := hown.form
    have HO := Lib.hid (hown.alloc (.cells #[.int .i64 x.kind, .int .i64 x.int, .string x.text, .int .i64 (m : Int)] 45))
    have hd0 : decide ((0 : Int) < 0) = false := by decide
    have h1 : (([] : List Run).length + 1) * 40 ≤ 140737488355328 := by simp
    have h2 : ([] : List Run).length + 1 ≤ maxLen := by unfold maxLen; simp
    simp only [List.length_nil] at HO ⊢
    clear hown
    go_enter Try.func21, Try.ntmps21
    go_wp2_with fail
    go_quiet (fail)
    go_wp2_with (at_builtin; refine wpList_app rfl (.tmp 37) (.tmp 39) _ _ rfl rfl rfl (run_push_at elem_run runLay _ w _ [] ⟨x, m⟩ (((Ext.refl w _).alloc _).alloc _ |>.drewN nq) ((HO.out.alloc _).drewN nq) (alloc2_at_drewN w _ _ nq) rfl h1 h2 (le_size2_drewN hB _ _ nq)) ?_; rintro v1 w1 ⟨ho1, hx1⟩)
    go_ret
    exact ⟨_, rfl, ho1, hx1⟩
  · obtain ⟨g, c, rfl, hg, hgw, hc, hcm, c0, c1, c2, c3, fz⟩ := hown.last
    have hln := hd l (by simp)
    have hs' : e.length + 1 ≤ 1000000 := by simpa using hs
    have hv := fun W => eql_val l.v.kind l.v.int x.kind x.int l.v.text x.text W
    rw [Val.ext_iff'] at hv
    have hi1 : (e.length : Int) < (e.length : Int) + 1 := by omega
    have hi0 : (0 : Int) ≤ (e.length : Int) := by omega
    have hgt : decide ((0 : Int) < (e.length : Int) + 1) = true := by rw [decide_eq_true_iff]; omega
    by_cases heq : l.v = x
    · have hdq : decide (l.v = x) = true := by simp [heq]
      rw [hdq] at hv
      rw [appRun_same e l ⟨x, m⟩ heq]
      have HR := Lib.hid ((hown.alloc (.cells #[.int .i64 x.kind, .int .i64 x.int, .string x.text, .int .i64 (m : Int)] 45)))
      clear hown hd hs hdq
      go_enter Try.func21, Try.ntmps21
      go_wp2_with fail
      go_quiet (fail)
      go_wp2_with fail
      go_region
      all_goals (go_wp2_with fail)
      go_ret
      have R := Runs.raise (HR.out.drewN (nq + 1)) (l.n + m)
      rw [Int.natCast_add] at R
      exact ⟨_, rfl, R.1, (((Ext.refl w _).alloc _).drewN (nq + 1)).trans R.2⟩
    · have hdq : decide (l.v = x) = false := by simp [heq]
      rw [hdq] at hv
      rw [appRun_new e l ⟨x, m⟩ heq]
      have HR := Lib.hid ((hown.alloc (.cells #[.int .i64 x.kind, .int .i64 x.int, .string x.text, .int .i64 (m : Int)] 45)))
      have h1 : ((e ++ [l]).length + 1) * 40 ≤ 140737488355328 := by simp; omega
      have h2 : (e ++ [l]).length + 1 ≤ maxLen := by unfold maxLen; simp; omega
      have H1 := Lib.hid h1
      have H2 := Lib.hid h2
      clear hown hd hs hdq h1 h2
      go_enter Try.func21, Try.ntmps21
      go_wp2_with fail
      go_quiet (fail)
      go_wp2_with (at_builtin; refine wpList_app rfl (.tmp 37) (.tmp 39) _ _ rfl rfl rfl (run_push_at elem_run runLay _ w _ (e ++ [l]) ⟨x, m⟩ (((Ext.refl w _).alloc _).alloc _ |>.drewN nq) ((HR.out.alloc _).drewN nq) (alloc2_at_drewN w _ _ nq) rfl H1.out H2.out (le_size2_drewN hB _ _ nq)) ?_; rintro v1 w1 ⟨ho1, hx1⟩)
      go_ret
      exact ⟨_, rfl, ho1, hx1⟩

set_option maxRecDepth 100000 in
set_option maxHeartbeats 400000 in
theorem bounded (A : Option Addr) (n c : Nat) (w : World) (hn : n ≤ 400) :
    Calls Try.prog 22 #[.slice A n c] w fun e w' => e = .returned (.tuple #[.slice A n c, .int .i64 0]) ∧ w = w' := by
  have h' : ¬ (400 : Int) < (n : Int) := by omega
  go_enter Try.func22, Try.ntmps22
  go_wp2_with fail
  go_ret2
  exact ⟨rfl, rfl⟩

/-- What Encode leaves. -/
def EncodePost (w : World) (vs : List Val) (e : Ending) (w' : World) : Prop := ∃ v, e = .returned (.tuple #[v, .int .i64 0]) ∧ Runs w.heap.size w' v (encRuns vs) ∧ Below w.heap.size w w'

theorem encRuns_take {vs : List Val} {k : Nat} (hk : k < vs.length) : encRuns (vs.take (k + 1)) = appRun (encRuns (vs.take k)) ⟨vs[k], 1⟩ := by
  unfold encRuns
  rw [List.take_succ_eq_append_getElem hk, List.foldl_append]
  rfl
theorem encRuns_n (vs : List Val) : ∀ r ∈ encRuns vs, r.n ≤ vs.length := by
  intro r hr
  have h := decRuns_enc vs
  have : r.n ≤ (decRuns (encRuns vs)).length := by
    generalize encRuns vs = rs at *
    clear h
    induction rs with
    | nil => cases hr
    | cons x rs ih =>
      simp only [decRuns, List.flatMap_cons, List.length_append, List.length_replicate] at ih ⊢
      rcases List.mem_cons.1 hr with rfl | h
      · omega
      · have := ih h; omega
  rwa [h] at this

set_option maxRecDepth 100000 in
set_option maxHeartbeats 1000000 in
theorem encode (A : Option Addr) (c : Nat) (vs : List Val) (w : World) (hx : Elems 3 Val.cs w (· < w.heap.size) A vs) (hl : vs.length ≤ 400) (hv : ∀ v ∈ vs, v.err = 0) :
    Calls Try.prog 8 #[.slice A vs.length c] w (EncodePost w vs) := by
  have h' : ¬ (100000 : Int) < (vs.length : Int) := by omega
  have hfin : (encRuns vs).length ≤ 400 := Nat.le_trans (len_enc vs) hl
  go_enter Try.func8, Try.ntmps8
  go_wp2_with fail
  go_loopw [4, 13] (fun r i wr => ∃ k : Nat, k ≤ vs.length ∧ i = .int .i64 k ∧ Runs w.heap.size wr r (encRuns (vs.take k)) ∧ Below w.heap.size w wr) (fun _ i _ => vs.length - (intOf i).toNat)
  case atStart => exact ⟨0, by omega, rfl, Own.nil _, Below.refl _ _⟩
  case round =>
    obtain ⟨k, hk, rfl, ho, hb⟩ := hrel
    by_cases hlt : k < vs.length
    · obtain ⟨b, off, rfl, hbs, c0, c1, c2⟩ := (hx.keep (Keeps.of_below hb fun _ h => h)).val hlt
      have hz := hv _ (List.getElem_mem hlt)
      have HT := Lib.hid (encRuns_take hlt)
      have hn1 := encRuns_n (vs.take k)
      have hn2 := len_enc (vs.take k)
      rw [List.length_take] at hn1 hn2
      generalize encRuns (vs.take k) = d at *
      generalize vs[k] = x at *
      have hz' : (vErr x.kind x.int x.text != 0) = false := by have h := hz; unfold Val.err at h; simp [h]
      have HZ := Lib.hid hz
      have HN := Lib.hid hn1
      have HO := Lib.hid ho
      clear hz hn1 ho hv
      go_wp2_with fail
      refine (validate _ _ _ _).mono ?_
      rintro e w1 ⟨rfl, hb1⟩
      have hV := (hb1.block wr.heap.size (by simp)).trans (heap_alloc_new wr (.cells #[.int .i64 x.kind, .int .i64 x.int, .string x.text] 26))
      have v0 := cell_of_row _ wr.heap.size 0 _ _ _ hV
      have v1 := cell_of_row _ wr.heap.size 1 _ _ _ hV
      have v2 := cell_of_row _ wr.heap.size 2 _ _ _ hV
      clear hV
      go_wp2_with fail
      refine (appendRun w.heap.size _ d x 1 w1 ((HO.out.alloc _).below hb1) (by have := hb.size; have := hb1.size; simp at this; omega) (by omega) (by omega) (fun r hr => by have := HN.out r hr; omega) (by omega)).mono ?_
      rintro e w2 ⟨v', rfl, ho2, hx2⟩
      go_wp2_with fail
      have hb2 : Below w.heap.size wr w1 := ((Below.refl _ _).alloc hb.size _).trans (hb1.mono (by have := hb.size; simp; omega))
      have hb3 : Below w.heap.size w1 w2 := hx2.below (Nat.le_trans hb.size hb2.size) (fun g hg => (HO.out.lt g hg).1)
      go_roundw
      case rel => exact ⟨k + 1, by omega, by go_num, by rw [HT.out]; exact ho2, (hb.trans hb2).trans hb3⟩
      case measure => simp [intOf]; omega
    · have hkl : k = vs.length := by omega
      subst hkl
      rw [List.take_of_length_le (Nat.le_refl _)] at ho
      obtain ⟨A1, c1, rfl, _, _⟩ := ho.form
      have HO := Lib.hid ho
      clear ho
      go_wp2_with fail
      refine (bounded _ _ _ _ hfin).mono ?_
      rintro e w2 ⟨rfl, rfl⟩
      go_wp2_with fail
      go_ret2
      exact ⟨_, rfl, HO.out, hb⟩

end Go.Proofs.Ytimndhnbbmedbaa
