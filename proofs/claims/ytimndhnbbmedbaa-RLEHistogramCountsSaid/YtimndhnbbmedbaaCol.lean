/-
  The walk of column.
-/
import Derived.Test.YtimndhnbbmedbaaAppRun
import Derived.Test.YtimndhnbbmedbaaMod
import Derived.Test.YtimndhnbbmedbaaLaw
namespace Go.Proofs.Ytimndhnbbmedbaa
open Go.RowKit

theorem elem_vals : ElemT Try.prog 23 26 3 32 := ⟨Try.underlying23, by
  have h : (Try.prog.info? 26).map (fun i => (i.zero, i.size, i.bytes)) = some (some (.agg #[.int .i64 0, .int .i64 0, .string ByteArray.empty]), 3, 32) := by kernel_rfl
  obtain ⟨i0, hi, hz0, hz1, hz2⟩ := info_parts h
  exact ⟨i0, _, hi, hz0, hz1, hz2, rfl⟩, by omega⟩

theorem val_ok {m : Int} (h0 : 0 ≤ m) (h : m < 3) : (⟨1, m, ByteArray.empty⟩ : Val).err = 0 := by
  have e : (ByteArray.empty : ByteArray).toList.isEmpty = true := by rw [ByteArray.toList_eq]; rfl
  unfold Val.err vErr
  rw [if_neg (by show ¬ (1 : Int) = 0; omega), if_pos (.inl rfl), if_neg (by rw [e]; simp), if_neg (by show ¬ ((1 = 2 ∧ m ≠ 0 ∧ m ≠ 1) ∨ m < -1000000000000 ∨ 1000000000000 < m); omega)]

/-- A column as the laws make it. -/
def Column (w : World) (e : Ending) (w' : World) : Prop := ∃ v vs, e = .returned v ∧ Own 3 Val.cs 26 w.heap.size w' v vs ∧ Below w.heap.size w w' ∧ vs.length ≤ 300 ∧ ∀ x ∈ vs, x.err = 0

/-- .. with no more values than there were numbers. -/
def ColumnN (w : World) (n : Nat) (e : Ending) (w' : World) : Prop := ∃ v vs, e = .returned v ∧ Own 3 Val.cs 26 w.heap.size w' v vs ∧ Below w.heap.size w w' ∧ vs.length ≤ 300 ∧ vs.length ≤ n ∧ ∀ x ∈ vs, x.err = 0

theorem Elems.int {w : World} {S : Nat → Prop} {A : Option Addr} {xs : List Int} {k : Nat} (h : Elems 1 intCs w S A xs) (hk : k < xs.length) :
    ∃ b off, A = some ⟨b, off, none⟩ ∧ S b ∧ w.cell? ⟨b, off + k, none⟩ = some (.int .i64 xs[k]) := by
  obtain ⟨b, off, e, hb, hc⟩ := h.at_ hk
  exact ⟨b, off, e, hb, by simpa using hc 0 _ rfl⟩

set_option maxRecDepth 100000 in
set_option maxHeartbeats 1000000 in
theorem columnN (A : Option Addr) (c : Nat) (ns : List Int) (w : World) (hx : Elems 1 intCs w (· < w.heap.size) A ns) (hlc : ns.length ≤ c) (hc : c ≤ maxLen) (hok : ∀ n ∈ ns, I64 n) :
    Calls Try.prog 7 #[.slice A ns.length c] w (ColumnN w ns.length) := by
  unfold maxLen at hc
  by_cases h300 : ns.length ≤ 300
  · have hmn : ((ns.length : Int) ≤ 300) := by omega
    go_enter Try.func7, Try.ntmps7
    go_wp2_with fail
    go_loopw [3, 12] (fun r i wr => ∃ (k : Nat) (vs : List Val), k ≤ ns.length ∧ i = .int .i64 k ∧ Own 3 Val.cs 26 w.heap.size wr r vs ∧ Below w.heap.size w wr ∧ vs.length ≤ k ∧ ∀ x ∈ vs, x.err = 0) (fun _ i _ => ns.length - (intOf i).toNat)
    case atStart => exact ⟨0, [], by omega, rfl, Own.nil _, Below.refl _ _, by simp, by simp⟩
    case round =>
      obtain ⟨k, vs, hk, rfl, ho, hb, hlen, hall⟩ := hrel
      by_cases hlt : k < ns.length
      · obtain ⟨b, off, rfl, hbs, c0⟩ := (hx.keep (Keeps.of_below hb fun _ h => h)).int (k := k) (by omega)
        have hI := hok _ (List.getElem_mem (l := ns) (n := k) (by omega))
        generalize ns[k]'(by omega) = x at *
        have h1 : (vs.length + 1) * 32 ≤ 140737488355328 := by omega
        have h2 : vs.length + 1 ≤ maxLen := by unfold maxLen; omega
        have H1 := Lib.hid h1
        have H2 := Lib.hid h2
        have HA := Lib.hid hall
        have HI := Lib.hid hI
        clear h1 h2 hall hI hok
        go_wp2_with fail
        refine (mod_any x 3 _ HI.out (by omega) (by omega)).mono ?_
        rintro e w1 ⟨m, rfl, hm3, rfl⟩
        have hv := val_ok (m := (m : Int)) (by omega) hm3
        have HV := Lib.hid hv
        clear hv
        go_wp2_with (at_builtin; refine wpList_app rfl (.tmp 16) (.tmp 20) _ _ rfl rfl rfl (run_push elem_vals valLay _ _ u3 vs ⟨1, (m : Int), ByteArray.empty⟩ _ ho rfl H1.out H2.out hb.size rfl) ?_; rintro v1 w2 ⟨ho1, hx1⟩)
        go_roundw
        case rel => exact ⟨k + 1, _, by omega, by go_num, ho1, hb.trans (hx1.below hb.size (fun g hg => (ho.lt g hg).1)), by simp; omega, by
          intro y hy
          rcases List.mem_append.1 hy with h | h
          · exact HA.out y h
          · simp at h; subst h; exact HV.out⟩
        case measure => simp [intOf]; omega
      · have HA := Lib.hid hall
        clear hall hok
        go_wp2_with fail
        go_ret
        exact ⟨_, _, rfl, ho, hb, by omega, by omega, HA.out⟩
  · have hmn : (300 : Int) < (ns.length : Int) := by omega
    have hmx : max (300 : Int) 0 = 300 := by decide
    go_enter Try.func7, Try.ntmps7
    go_wp2_with fail
    go_loopw [3, 12] (fun r i wr => ∃ (k : Nat) (vs : List Val), k ≤ 300 ∧ i = .int .i64 k ∧ Own 3 Val.cs 26 w.heap.size wr r vs ∧ Below w.heap.size w wr ∧ vs.length ≤ k ∧ ∀ x ∈ vs, x.err = 0) (fun _ i _ => 300 - (intOf i).toNat)
    case atStart => exact ⟨0, [], by omega, rfl, Own.nil _, Below.refl _ _, by simp, by simp⟩
    case round =>
      obtain ⟨k, vs, hk, rfl, ho, hb, hlen, hall⟩ := hrel
      by_cases hlt : k < 300
      · obtain ⟨b, off, rfl, hbs, c0⟩ := (hx.keep (Keeps.of_below hb fun _ h => h)).int (k := k) (by omega)
        have hI := hok _ (List.getElem_mem (l := ns) (n := k) (by omega))
        generalize ns[k]'(by omega) = x at *
        have h1 : (vs.length + 1) * 32 ≤ 140737488355328 := by omega
        have h2 : vs.length + 1 ≤ maxLen := by unfold maxLen; omega
        have H1 := Lib.hid h1
        have H2 := Lib.hid h2
        have HA := Lib.hid hall
        have HI := Lib.hid hI
        clear h1 h2 hall hI hok
        go_wp2_with fail
        refine (mod_any x 3 _ HI.out (by omega) (by omega)).mono ?_
        rintro e w1 ⟨m, rfl, hm3, rfl⟩
        have hv := val_ok (m := (m : Int)) (by omega) hm3
        have HV := Lib.hid hv
        clear hv
        go_wp2_with (at_builtin; refine wpList_app rfl (.tmp 16) (.tmp 20) _ _ rfl rfl rfl (run_push elem_vals valLay _ _ u3 vs ⟨1, (m : Int), ByteArray.empty⟩ _ ho rfl H1.out H2.out hb.size rfl) ?_; rintro v1 w2 ⟨ho1, hx1⟩)
        go_roundw
        case rel => exact ⟨k + 1, _, by omega, by go_num, ho1, hb.trans (hx1.below hb.size (fun g hg => (ho.lt g hg).1)), by simp; omega, by
          intro y hy
          rcases List.mem_append.1 hy with h | h
          · exact HA.out y h
          · simp at h; subst h; exact HV.out⟩
        case measure => simp [intOf]; omega
      · have HA := Lib.hid hall
        clear hall hok
        go_wp2_with fail
        go_ret
        exact ⟨_, _, rfl, ho, hb, by omega, by omega, HA.out⟩

theorem column (A : Option Addr) (c : Nat) (ns : List Int) (w : World) (hx : Elems 1 intCs w (· < w.heap.size) A ns) (hlc : ns.length ≤ c) (hc : c ≤ maxLen) (hok : ∀ n ∈ ns, I64 n) :
    Calls Try.prog 7 #[.slice A ns.length c] w (Column w) :=
  (columnN A c ns w hx hlc hc hok).mono fun _ _ ⟨v, vs, h1, h2, h3, h4, _, h6⟩ => ⟨v, vs, h1, h2, h3, h4, h6⟩

end Go.Proofs.Ytimndhnbbmedbaa
