/-
  The walk of ref.IndexedRowsEqual.
-/
import Derived.Test.YtakbabkcidioaaaYir
import Derived.Test.YtakbabkcidioaaaEqw
import Derived.BigQuiet
namespace Go.Proofs.Ytakbabkcidioaaa
open Go.RowKit Go.Sort

theorem quiet_at {P : Program} {f : FuncId} {args : Array Value} {w : World} {n x : Nat} {v : Value}
    (h : Calls P f args (w.drewN (n + x)) fun e w' => e = .returned v ∧ ∃ m, w' = (w.drewN (n + x)).drewN m) : Calls P f args (w.drewN (n + x)) fun e w'' => e = .returned v ∧ ∃ m, w'' = w.drewN (n + m) :=
  h.mono fun _ _ ⟨he, m, hm⟩ => ⟨he, x + m, by rw [hm, World.drewN_drewN, Nat.add_assoc]⟩
def IROk (S : Nat → Prop) (w : World) (p : IR) : Prop := KOk S w p.v ∧ KOk S w p.k
/-- The rows of an index, as data. -/
def irD (ps : List IR) : List (Row × Row) := ps.map fun p => (p.v.row, p.k.row)

set_option maxRecDepth 100000 in
set_option maxHeartbeats 4000000 in
theorem indexedEqW (A B : Option Addr) (c d : Nat) (ps qs : List IR) (w : World) (hp : Elems 2 IR.cs w (· < w.heap.size) A ps) (hq : Elems 2 IR.cs w (· < w.heap.size) B qs) (hpk : ∀ p ∈ ps, IROk (· < w.heap.size) w p) (hqk : ∀ p ∈ qs, IROk (· < w.heap.size) w p) (hl : ps.length ≤ 1000) (he : irD ps = irD qs) :
    Calls Try.prog 11 #[.slice A ps.length c, .slice B qs.length d] w fun e w' => e = .returned (.bool true) ∧ ∃ n, w' = w.drewN n := by
  have hll : ps.length = qs.length := by have := congrArg List.length he; simpa [irD] using this
  have HEQ : Hid (∀ (i : Nat) (h : i < ps.length) (h' : i < qs.length), ps[i].v.row = qs[i].v.row ∧ ps[i].k.row = qs[i].k.row) := Lib.hid fun i h h' => by
    have h1 := congrArg (fun l => l[i]?) he
    simp only [irD, List.getElem?_map, List.getElem?_eq_getElem h, List.getElem?_eq_getElem h', Option.map_some] at h1
    injection h1 with h1
    injection h1 with h1 h2
    exact ⟨h1, h2⟩
  obtain ⟨n, hn⟩ : ∃ n, ps.length = n := ⟨_, rfl⟩
  have hn2 : qs.length = n := by omega
  rw [hn, hn2]
  rw [hn] at hl
  have HN := Lib.hid (And.intro hn hn2)
  have HP := Lib.hid (And.intro hp hpk)
  have HQ := Lib.hid (And.intro hq hqk)
  clear hp hq hpk hqk he hll hn hn2
  go_enter Try.func11, Try.ntmps11
  go_wp2_with fail
  go_loopw [13] (fun vi wr => ∃ i : Nat, vi = .int .i64 (i : Int) ∧ i ≤ n ∧ ∃ q, wr = w.drewN q) (fun vi _ => n - (intOf vi).toNat)
  case atStart => exact ⟨0, rfl, by omega, 0, rfl⟩
  case round =>
    obtain ⟨i, rfl, hin, q0, rfl⟩ := hrel
    by_cases hlt : i < n
    · have hi1 : i < ps.length := by have := HN.out; omega
      have hi2 : i < qs.length := by have := HN.out; omega
      obtain ⟨b1, o1, rfl, -, x0, x1⟩ := HP.out.1.ir hi1
      obtain ⟨b2, o2, rfl, -, y0, y1⟩ := HQ.out.1.ir hi2
      have hlt' : (i : Int) < (n : Int) := by omega
      have hi0 : (0 : Int) ≤ (i : Int) := by omega
      obtain ⟨e1, e2⟩ := HEQ.out i hi1 hi2
      obtain ⟨kp1, kp2⟩ := HP.out.2 _ (List.getElem_mem hi1)
      obtain ⟨kq1, kq2⟩ := HQ.out.2 _ (List.getElem_mem hi2)
      have hlen1 := kp1.len
      have hlen2 := kp2.len
      have HC1 : Hid (∀ q, Calls Try.prog 21 #[.slice ps[i].v.A ps[i].v.row.length ps[i].v.c, .slice qs[i].v.A qs[i].v.row.length qs[i].v.c] (w.drewN q) fun e w' => e = .returned (.bool true) ∧ ∃ n, w' = (w.drewN q).drewN n) := Lib.hid fun q => by
        have h := rowsEqual ps[i].v.A qs[i].v.A ps[i].v.c qs[i].v.c ps[i].v.row qs[i].v.row (w.drewN q) _ _ kp1.el kq1.el (by unfold maxLen; omega) (by rw [← e1]; unfold maxLen; omega)
        rwa [decide_eq_true e1] at h
      have HC2 : Hid (∀ q, Calls Try.prog 21 #[.slice ps[i].k.A ps[i].k.row.length ps[i].k.c, .slice qs[i].k.A qs[i].k.row.length qs[i].k.c] (w.drewN q) fun e w' => e = .returned (.bool true) ∧ ∃ n, w' = (w.drewN q).drewN n) := Lib.hid fun q => by
        have h := rowsEqual ps[i].k.A qs[i].k.A ps[i].k.c qs[i].k.c ps[i].k.row qs[i].k.row (w.drewN q) _ _ kp2.el kq2.el (by unfold maxLen; omega) (by rw [← e2]; unfold maxLen; omega)
        rwa [decide_eq_true e2] at h
      clear e1 e2 kp1 kp2 kq1 kq2 hlen1 hlen2
      generalize ps[i] = p at *
      generalize qs[i] = r at *
      go_wp2_with fail
      go_quiet (first | (go_at_call 21; first | (with_reducible exact quiet_at (HC1.out _)) | (with_reducible exact quiet_at (HC2.out _))))
      go_wp2_with fail
      go_roundw
      case rel => exact ⟨i + 1, by go_num, by omega, _, rfl⟩
      case measure => simp [intOf]; omega
    · have hkn : i = n := by omega
      subst hkn
      go_wp2_with fail
      go_ret
      exact ⟨rfl, _, rfl⟩
end Go.Proofs.Ytakbabkcidioaaa
