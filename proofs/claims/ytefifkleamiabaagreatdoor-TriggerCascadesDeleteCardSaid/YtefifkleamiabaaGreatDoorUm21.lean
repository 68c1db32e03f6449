/-
  The walk of GenerateValue.
  Generated rows fit their tables, plain.
  A list of changes of the call's own; behind KeyOf: the append of a delete.
  The append of an upsert; the rows that GenerateChanges builds, column by column.
  The walk of GenerateChanges (draft).
  What Find and ValidateInstance call, at the base schema with any constraints on the item's size.
  The walk of the law ViolationsEmptyIffValid.
-/
import Derived.Test.YtefifkleamiabaaGreatDoorUm20
namespace Go.Proofs.YtefifkleamiabaaGreatDoor
open Go.RowKit Go.Sort

def gText : Nat → ByteArray
  | 0 => ⟨#[]⟩
  | 1 => ⟨#[97]⟩
  | 2 => ⟨#[98]⟩
  | 3 => ⟨#[97, 32, 98]⟩
  | 4 => ⟨#[55]⟩
  | _ => ⟨#[116, 114, 117, 101]⟩
/-- What GenerateValue answers. -/
def gVal (c : Col) (n : Int) : Val :=
  if c.null = true ∧ md n 4 = 0 then ⟨0, 0, ⟨#[]⟩⟩ else
  if c.kind = 1 then ⟨1, (md (n.tdiv 4) 8 : Nat), ⟨#[]⟩⟩ else
  if c.kind = 2 then ⟨2, (md (n.tdiv 4) 2 : Nat), ⟨#[]⟩⟩ else ⟨3, 0, gText (md (n.tdiv 4) 6)⟩

theorem wrapIn {n : Int} (h : I64 n) : IntKind.i64.wrap n = n := by
  obtain ⟨h1, h2⟩ := h
  rw [IntKind.wrap_i64]
  omega
theorem ret_gv {a b c : Value} {g : Nat} {w : World} (tmps : Array Value) (hp : tmps.getD 4 undef = .pointer (some ⟨g, 0, none⟩)) (hg : w.heap[g]? = some (.cells #[a, b, c] 60 (0, 0))) :
    (results Tryz.f26 tmps).run Tryz.prog w = .ok (.agg #[a, b, c]) w :=
  results_cell_row (P := Tryz.prog) Tryz.results26 tmps w g 60 _ (0, 0) _ hp hg Tryz.underlying60 rfl (by kernel_rfl)

set_option maxRecDepth 100000 in
set_option maxHeartbeats 4000000 in
theorem genValueW (c : Col) (n : Int) (w : World) (hk : c.kind = 1 ∨ c.kind = 2 ∨ c.kind = 3) (hn : I64 n) (h4 : I64 (n.tdiv 4)) :
    Calls Tryz.prog 26 #[c.val, .int .i64 n] w fun e w' => e = .returned (.agg #[.int .i64 (gVal c n).kind, .int .i64 (gVal c n).int, .string (gVal c n).text]) ∧ Below w.heap.size w w' := by
  have HM4 := Lib.hid fun W => modW n 4 W hn (by omega) (by omega)
  have HM8 := Lib.hid fun W => modW (n.tdiv 4) 8 W h4 (by omega) (by omega)
  have HM2 := Lib.hid fun W => modW (n.tdiv 4) 2 W h4 (by omega) (by omega)
  have HM6 := Lib.hid fun W => modW (n.tdiv 4) 6 W h4 (by omega) (by omega)
  have hm6 := md_lt (k := n.tdiv 4) (n := 6) (by omega)
  have hwrap := wrapIn h4
  clear h4 hn
  obtain ⟨nm, ck, cn⟩ := c
  unfold Col.val
  simp only at *
  obtain ⟨w1, hw1⟩ : ∃ w1, w1 = (w.alloc (.cells #[.string nm, .int .i64 ck, .bool cn] 68)).alloc (.cells #[.int .i64 0, .int .i64 0, .string ⟨#[]⟩] 60) := ⟨_, rfl⟩
  have hb1 : Below w.heap.size w w1 := by rw [hw1]; exact ((Below.refl _ _).alloc (Nat.le_refl _) _).alloc (le_size1 (Nat.le_refl _) _) _
  have hg1 : w1.heap[w.heap.size]? = some (.cells #[.string nm, .int .i64 ck, .bool cn] 68 (0, 0)) := by
    rw [hw1, Below.heap_alloc _ _ _ (by simp)]
    exact heap_alloc_new w _
  have hr1 : w1.heap[w.heap.size + 1]? = some (.cells #[.int .i64 0, .int .i64 0, .string ⟨#[]⟩] 60 (0, 0)) := by rw [hw1]; exact alloc2_at w _ _
  have x0 := cell_of_row _ _ 0 _ _ _ hg1
  have x1 := cell_of_row _ _ 1 _ _ _ hg1
  have x2 := cell_of_row _ _ 2 _ _ _ hg1
  have r0 := cell_of_row _ _ 0 _ _ _ hr1
  have r1 := cell_of_row _ _ 1 _ _ _ hr1
  have r2 := cell_of_row _ _ 2 _ _ _ hr1
  have f0 := frozen_of_row _ _ 0 _ _ hr1
  have f1 := frozen_of_row _ _ 1 _ _ hr1
  have f2 := frozen_of_row _ _ 2 _ _ hr1
  have HR1 := Lib.hid hr1
  have hra : ∀ o, (w1.alloc o).heap[w.heap.size + 1]? = some (.cells #[.int .i64 0, .int .i64 0, .string ⟨#[]⟩] 60 (0, 0)) := fun o => by
    rw [Below.heap_alloc _ _ _ (Array.getElem?_eq_some_iff.1 hr1).1]
    exact hr1
  have HRA := Lib.hid hra
  have ra0 := fun o => cell_of_row _ _ 0 _ _ _ (hra o)
  have ra1 := fun o => cell_of_row _ _ 1 _ _ _ (hra o)
  have ra2 := fun o => cell_of_row _ _ 2 _ _ _ (hra o)
  have fa0 := fun o => frozen_of_row _ _ 0 _ _ (hra o)
  have fa1 := fun o => frozen_of_row _ _ 1 _ _ (hra o)
  have fa2 := fun o => frozen_of_row _ _ 2 _ _ (hra o)
  have HBG : Hid (∀ W, Below w.heap.size w W → ∀ a b c, Below w.heap.size w (((W.setCell ⟨w.heap.size + 1, 0, none⟩ a).setCell ⟨w.heap.size + 1, 1, none⟩ b).setCell ⟨w.heap.size + 1, 2, none⟩ c)) := Lib.hid fun W hW a b c => ((hW.setCell (p := ⟨w.heap.size + 1, 0, none⟩) (by simp) _).setCell (p := ⟨w.heap.size + 1, 1, none⟩) (by simp) _).setCell (p := ⟨w.heap.size + 1, 2, none⟩) (by simp) _
  have HBD := Lib.hid (HBG.out w1.drew hb1.drew)
  have HRD : Hid (w1.drew.heap[w.heap.size + 1]? = _) := Lib.hid hr1
  have HBA := Lib.hid fun o => HBG.out (w1.alloc o) (hb1.alloc hb1.size o)
  have HBF : Hid (∀ a b c, Below w.heap.size w (((w1.setCell ⟨w.heap.size + 1, 0, none⟩ a).setCell ⟨w.heap.size + 1, 1, none⟩ b).setCell ⟨w.heap.size + 1, 2, none⟩ c)) := Lib.hid fun a b c => ((hb1.setCell (p := ⟨w.heap.size + 1, 0, none⟩) (by simp) _).setCell (p := ⟨w.heap.size + 1, 1, none⟩) (by simp) _).setCell (p := ⟨w.heap.size + 1, 2, none⟩) (by simp) _
  have HW1 := Lib.hid hw1
  clear hb1 hg1 hw1 hr1 hra HBG
  go_enter Tryz.func26, Tryz.ntmps26
  go_upto_region 1 with fail
  rw [← HW1.out]
  cases cn with
  | false =>
    rcases hk with rfl | rfl | rfl
    · have HG : Hid (gVal ⟨nm, 1, false⟩ n = ⟨1, (md (n.tdiv 4) 8 : Nat), ⟨#[]⟩⟩) := Lib.hid (by
        unfold gVal
        rw [if_neg (by rintro ⟨h, -⟩; exact Bool.false_ne_true h), if_pos rfl])
      go_wp2_with fail
      go_region_law (first
        | (go_simp; go_at_call 24; refine (HM8.out _).mono ?_; rintro e w' ⟨rfl, rfl⟩))
      all_goals
        go_wp2_with fail
        first | (with_reducible refine bodyPost_ret (ret_gv _ rfl (set3 HR1.out)) rfl ?_) | (with_reducible refine bodyPost_ret (ret_gv _ rfl (set3 HRD.out)) rfl ?_)
        rw [HG.out]
        exact ⟨rfl, by first | (with_reducible exact HBF.out _ _ _) | (with_reducible exact (HBF.out _ _ _).drew) | (with_reducible exact (HBF.out _ _ _).drew.drew) | (with_reducible exact HBD.out _ _ _) | (with_reducible exact (HBD.out _ _ _).drew) | exact HBF.out _ _ _⟩
    · have HG : Hid (gVal ⟨nm, 2, false⟩ n = ⟨2, (md (n.tdiv 4) 2 : Nat), ⟨#[]⟩⟩) := Lib.hid (by
        unfold gVal
        rw [if_neg (by rintro ⟨h, -⟩; exact Bool.false_ne_true h), if_neg (by show ¬ (2 : Int) = 1; decide), if_pos rfl])
      go_wp2_with fail
      go_region_law (first
        | (go_simp; go_at_call 24; refine (HM2.out _).mono ?_; rintro e w' ⟨rfl, rfl⟩))
      all_goals
        go_wp2_with fail
        first | (with_reducible refine bodyPost_ret (ret_gv _ rfl (set3 HR1.out)) rfl ?_) | (with_reducible refine bodyPost_ret (ret_gv _ rfl (set3 HRD.out)) rfl ?_)
        rw [HG.out]
        exact ⟨rfl, by first | (with_reducible exact HBF.out _ _ _) | (with_reducible exact (HBF.out _ _ _).drew) | (with_reducible exact (HBF.out _ _ _).drew.drew) | (with_reducible exact HBD.out _ _ _) | (with_reducible exact (HBD.out _ _ _).drew) | exact HBF.out _ _ _⟩
    · have HG : Hid (gVal ⟨nm, 3, false⟩ n = ⟨3, 0, gText (md (n.tdiv 4) 6)⟩) := Lib.hid (by
        unfold gVal
        rw [if_neg (by rintro ⟨h, -⟩; exact Bool.false_ne_true h), if_neg (by show ¬ (3 : Int) = 1; decide), if_neg (by show ¬ (3 : Int) = 2; decide)])
      have hmc : md (n.tdiv 4) 6 = 0 ∨ md (n.tdiv 4) 6 = 1 ∨ md (n.tdiv 4) 6 = 2 ∨ md (n.tdiv 4) 6 = 3 ∨ md (n.tdiv 4) 6 = 4 ∨ md (n.tdiv 4) 6 = 5 := by omega
      clear hm6
      rcases hmc with h | h | h | h | h | h
      all_goals
        rw [h] at HM6 HG
        clear h
        go_wp2_with fail
        refine (HM6.out _).mono ?_
        rintro e w' ⟨rfl, rfl⟩
        go_wp2_with fail
        refine bodyPost_ret (ret_gv _ rfl (set3 (HRA.out _))) rfl ?_
        rw [HG.out]
        exact ⟨rfl, HBA.out _ _ _ _⟩
  | true =>
    by_cases hz : md n 4 = 0
    · have HG : Hid (gVal ⟨nm, ck, true⟩ n = ⟨0, 0, ⟨#[]⟩⟩) := Lib.hid (by unfold gVal; rw [if_pos ⟨rfl, hz⟩])
      rw [hz] at HM4
      clear hz
      go_wp2_with fail
      refine (HM4.out _).mono ?_
      rintro e w' ⟨rfl, rfl⟩
      go_wp2_with fail
      first | (with_reducible refine bodyPost_ret (ret_gv _ rfl (set3 HR1.out)) rfl ?_) | (with_reducible refine bodyPost_ret (ret_gv _ rfl (set3 HRD.out)) rfl ?_)
      rw [HG.out]
      exact ⟨rfl, by first | (with_reducible exact HBF.out _ _ _) | (with_reducible exact (HBF.out _ _ _).drew) | (with_reducible exact (HBF.out _ _ _).drew.drew) | (with_reducible exact HBD.out _ _ _) | (with_reducible exact (HBD.out _ _ _).drew) | exact HBF.out _ _ _⟩
    · have hzb : ((md n 4 : Int) == 0) = false := by rw [beq_eq_false_iff_ne]; omega
      rcases hk with rfl | rfl | rfl
      · have HG : Hid (gVal ⟨nm, 1, true⟩ n = ⟨1, (md (n.tdiv 4) 8 : Nat), ⟨#[]⟩⟩) := Lib.hid (by
          unfold gVal
          rw [if_neg (by rintro ⟨-, h⟩; exact hz h), if_pos rfl])
        go_wp2_with fail
        refine (HM4.out _).mono ?_
        rintro e w' ⟨rfl, rfl⟩
        go_wp2_with fail
        go_region_law (first
          | (go_simp; go_at_call 24; refine (HM8.out _).mono ?_; rintro e w' ⟨rfl, rfl⟩))
        all_goals
          go_wp2_with fail
          first | (with_reducible refine bodyPost_ret (ret_gv _ rfl (set3 HR1.out)) rfl ?_) | (with_reducible refine bodyPost_ret (ret_gv _ rfl (set3 HRD.out)) rfl ?_)
          rw [HG.out]
          exact ⟨rfl, by first | (with_reducible exact HBF.out _ _ _) | (with_reducible exact (HBF.out _ _ _).drew) | (with_reducible exact (HBF.out _ _ _).drew.drew) | (with_reducible exact HBD.out _ _ _) | (with_reducible exact (HBD.out _ _ _).drew) | exact HBF.out _ _ _⟩
      · have HG : Hid (gVal ⟨nm, 2, true⟩ n = ⟨2, (md (n.tdiv 4) 2 : Nat), ⟨#[]⟩⟩) := Lib.hid (by
          unfold gVal
          rw [if_neg (by rintro ⟨-, h⟩; exact hz h), if_neg (by show ¬ (2 : Int) = 1; decide), if_pos rfl])
        go_wp2_with fail
        refine (HM4.out _).mono ?_
        rintro e w' ⟨rfl, rfl⟩
        go_wp2_with fail
        go_region_law (first
          | (go_simp; go_at_call 24; refine (HM2.out _).mono ?_; rintro e w' ⟨rfl, rfl⟩))
        all_goals
          go_wp2_with fail
          first | (with_reducible refine bodyPost_ret (ret_gv _ rfl (set3 HR1.out)) rfl ?_) | (with_reducible refine bodyPost_ret (ret_gv _ rfl (set3 HRD.out)) rfl ?_)
          rw [HG.out]
          exact ⟨rfl, by first | (with_reducible exact HBF.out _ _ _) | (with_reducible exact (HBF.out _ _ _).drew) | (with_reducible exact (HBF.out _ _ _).drew.drew) | (with_reducible exact HBD.out _ _ _) | (with_reducible exact (HBD.out _ _ _).drew) | exact HBF.out _ _ _⟩
      · have HG : Hid (gVal ⟨nm, 3, true⟩ n = ⟨3, 0, gText (md (n.tdiv 4) 6)⟩) := Lib.hid (by
          unfold gVal
          rw [if_neg (by rintro ⟨-, h⟩; exact hz h), if_neg (by show ¬ (3 : Int) = 1; decide), if_neg (by show ¬ (3 : Int) = 2; decide)])
        have hmc : md (n.tdiv 4) 6 = 0 ∨ md (n.tdiv 4) 6 = 1 ∨ md (n.tdiv 4) 6 = 2 ∨ md (n.tdiv 4) 6 = 3 ∨ md (n.tdiv 4) 6 = 4 ∨ md (n.tdiv 4) 6 = 5 := by omega
        clear hm6
        go_wp2_with fail
        refine (HM4.out _).mono ?_
        rintro e w' ⟨rfl, rfl⟩
        rcases hmc with h | h | h | h | h | h
        all_goals
          rw [h] at HM6 HG
          clear h
          go_wp2_with fail
          refine (HM6.out _).mono ?_
          rintro e w' ⟨rfl, rfl⟩
          go_wp2_with fail
          refine bodyPost_ret (ret_gv _ rfl (set3 (HRA.out _))) rfl ?_
          rw [HG.out]
          exact ⟨rfl, HBA.out _ _ _ _⟩
end Go.Proofs.YtefifkleamiabaaGreatDoor

namespace Go.Proofs.YtefifkleamiabaaGreatDoor
open Go.RowKit Go.Sort

/-- A value that GenerateValue may give for a column. -/
theorem gVal_cases (c : Col) (n : Int) (hk : c.kind = 1 ∨ c.kind = 2 ∨ c.kind = 3) :
    (c.null = true ∧ gVal c n = ⟨0, 0, ⟨#[]⟩⟩) ∨ (c.kind = 1 ∧ ∃ x : Nat, x < 8 ∧ gVal c n = ⟨1, (x : Int), ⟨#[]⟩⟩) ∨ (c.kind = 2 ∧ ∃ x : Nat, x < 2 ∧ gVal c n = ⟨2, (x : Int), ⟨#[]⟩⟩) ∨ (c.kind = 3 ∧ ∃ x : Nat, gVal c n = ⟨3, 0, gText x⟩) := by
  by_cases h0 : c.null = true ∧ md n 4 = 0
  · exact .inl ⟨h0.1, by unfold gVal; rw [if_pos h0]⟩
  · rcases hk with h | h | h
    · refine .inr (.inl ⟨h, md (n.tdiv 4) 8, ?_, ?_⟩)
      · have := md_lt (k := n.tdiv 4) (n := 8) (by omega)
        omega
      · unfold gVal
        rw [if_neg h0, if_pos h]
    · refine .inr (.inr (.inl ⟨h, md (n.tdiv 4) 2, ?_, ?_⟩))
      · have := md_lt (k := n.tdiv 4) (n := 2) (by omega)
        omega
      · unfold gVal
        rw [if_neg h0, if_neg (by omega), if_pos h]
    · refine .inr (.inr (.inr ⟨h, md (n.tdiv 4) 6, ?_⟩))
      unfold gVal
      rw [if_neg h0, if_neg (by omega), if_neg (by omega)]
theorem gText_err (x : Nat) : (⟨3, 0, gText x⟩ : Val).err = 0 := by
  show vErr 3 0 (gText x) = 0
  unfold vErr
  rw [if_neg (by decide), if_neg (by decide), if_pos rfl, if_neg (by decide), if_neg ?_]
  rcases x with _ | _ | _ | _ | _ | x
  · decide +kernel
  · decide +kernel
  · decide +kernel
  · decide +kernel
  · decide +kernel
  · show ¬ 24 < (⟨#[116, 114, 117, 101]⟩ : ByteArray).size
    decide +kernel
theorem two_err {x : Nat} (h : x < 2) : (⟨2, (x : Int), ⟨#[]⟩⟩ : Val).err = 0 := by
  have : x = 0 ∨ x = 1 := by omega
  rcases this with rfl | rfl <;> decide +kernel
theorem gVal_ok (c : Col) (n : Int) (hk : c.kind = 1 ∨ c.kind = 2 ∨ c.kind = 3) : (gVal c n).err = 0 ∧ colOk c (gVal c n) := by
  rcases gVal_cases c n hk with ⟨h, e⟩ | ⟨h, x, hx, e⟩ | ⟨h, x, hx, e⟩ | ⟨h, x, e⟩
  · rw [e]
    exact ⟨by decide +kernel, .inr ⟨rfl, h⟩⟩
  · rw [e]
    exact ⟨dErr (by omega), .inl ⟨h.symm, by show (1 : Int) ≠ 0; decide⟩⟩
  · rw [e]
    exact ⟨two_err hx, .inl ⟨h.symm, by show (2 : Int) ≠ 0; decide⟩⟩
  · rw [e]
    exact ⟨gText_err x, .inl ⟨h.symm, by show (3 : Int) ≠ 0; decide⟩⟩
/-- A generated row. -/
def gRow (cols : List Col) (m : Int) : Row := cols.mapIdx fun k c => gVal c (m + (k : Int) * (k : Int) * 7)
theorem bCols_kind (i : Nat) : ∀ c ∈ bCols i, c.kind = 1 ∨ c.kind = 2 ∨ c.kind = 3 := by
  rcases i with _ | i
  · intro c hc
    have hc : c ∈ itemCols := hc
    simp only [itemCols, List.mem_cons, List.not_mem_nil, or_false] at hc
    rcases hc with rfl | rfl | rfl | rfl
    · exact .inl rfl
    · exact .inl rfl
    · exact .inr (.inr rfl)
    · exact .inr (.inr rfl)
  · intro c hc
    have hc : c ∈ orderCols := hc
    simp only [orderCols, List.mem_cons, List.not_mem_nil, or_false] at hc
    rcases hc with rfl | rfl | rfl
    · exact .inl rfl
    · exact .inl rfl
    · exact .inr (.inl rfl)
theorem gRow_fit (cols : List Col) (m : Int) (hk : ∀ c ∈ cols, c.kind = 1 ∨ c.kind = 2 ∨ c.kind = 3) : RowC cols (gRow cols m) where
  len := by simp [gRow]
  err := fun v hv => by
    obtain ⟨i, hi, rfl⟩ := List.getElem_of_mem hv
    have hi' : i < cols.length := by simpa [gRow] using hi
    have : (gRow cols m)[i] = gVal cols[i] (m + (i : Int) * (i : Int) * 7) := by simp [gRow]
    rw [this]
    exact (gVal_ok _ _ (hk _ (List.getElem_mem hi'))).1
  col := fun i hi => by
    have hi' : i < cols.length := by simpa [gRow] using hi
    have : (gRow cols m)[i] = gVal cols[i] (m + (i : Int) * (i : Int) * 7) := by simp [gRow]
    rw [this, List.getD_eq_getElem?_getD, List.getElem?_eq_getElem hi']
    exact (gVal_ok _ _ (hk _ (List.getElem_mem hi'))).2
theorem gRow_g (i : Nat) (m : Int) : RG (bCols i) (gRow (bCols i) m) := by
  have hfit := gRow_fit (bCols i) m (bCols_kind i)
  have h0 : ∃ c0 c1 cs, bCols i = c0 :: c1 :: cs ∧ c0.kind = 1 ∧ c0.null = false ∧ c1.kind = 1 := by
    rcases i with _ | i
    · exact ⟨_, _, _, rfl, rfl, rfl, rfl⟩
    · exact ⟨_, _, _, rfl, rfl, rfl, rfl⟩
  obtain ⟨d0, d1, cs, hb, hk0, hn0, hk1⟩ := h0
  have hr : ∃ rest, gRow (bCols i) m = gVal d0 (m + 0 * 0 * 7) :: gVal d1 (m + 1 * 1 * 7) :: rest := by
    rw [hb]
    unfold gRow
    rw [List.mapIdx_cons, List.mapIdx_cons]
    exact ⟨_, rfl⟩
  obtain ⟨rest, hr⟩ := hr
  have e0 : ∃ x : Nat, x < 8 ∧ gVal d0 (m + 0 * 0 * 7) = ⟨1, (x : Int), ⟨#[]⟩⟩ := by
    rcases gVal_cases d0 (m + 0 * 0 * 7) (.inl hk0) with ⟨h, -⟩ | ⟨-, x, hx, e⟩ | ⟨h, -⟩ | ⟨h, -⟩
    · rw [hn0] at h; cases h
    · exact ⟨x, hx, e⟩
    · omega
    · omega
  obtain ⟨x0, hx0, e0⟩ := e0
  have hkey : keyOf [0] (gRow (bCols i) m) = ik (x0 : Int) := by
    rw [hr, e0]
    have h1 : (0 : Int) < ((rest.length + 1 + 1 : Nat) : Int) := by omega
    simp [keyOf, keyAt, ik]
    omega
  have hdg : dgK [0] (gRow (bCols i) m) = x0 := by
    unfold dgK
    rw [hkey]
    rfl
  refine ⟨hfit, by rw [hdg]; exact hkey, by rw [hdg]; exact hx0, ?_⟩
  rw [hr]
  rcases gVal_cases d1 (m + 1 * 1 * 7) (.inl hk1) with ⟨-, e⟩ | ⟨-, x, hx, e⟩ | ⟨h, -⟩ | ⟨h, -⟩
  · exact .inl (by rw [e]; rfl)
  · exact .inr ⟨x, hx, by rw [e]; rfl⟩
  · omega
  · omega
end Go.Proofs.YtefifkleamiabaaGreatDoor

namespace Go.Proofs.YtefifkleamiabaaGreatDoor
open Go.RowKit Go.Sort

theorem elem_chgs : ElemT Tryz.prog 32 51 4 72 := ⟨Tryz.underlying32, by
  have h : (Tryz.prog.info? 51).map (fun i => (i.zero, i.size, i.bytes)) = some (some (.agg #[.int .i64 0, .string ByteArray.empty, .slice none 0 0, .slice none 0 0]), 4, 72) := by kernel_rfl
  obtain ⟨i0, hi, hz0, hz1, hz2⟩ := info_parts h
  exact ⟨i0, _, hi, hz0, hz1, hz2, rfl⟩, by omega⟩
/-- A list of changes of the call's own, each of which fits the base schema. -/
structure CO (base : Nat) (w0 w : World) (v : Value) (cs : List ChM) : Prop where
  own : Own 4 ChM.cs 51 base w v cs
  part : ∀ x ∈ cs, KOk (fun g => base ≤ g ∧ g < w.heap.size ∧ v.ownBlock ≠ some g) w x.key ∧ KOk (fun g => base ≤ g ∧ g < w.heap.size ∧ v.ownBlock ≠ some g) w x.row
  fit : ∀ x ∈ cs, FitB x
  bel : Below base w0 w
theorem CO.push {base : Nat} {w0 wo wc w' : World} {v v' : Value} {cs : List ChM} {x : ChM} (h : CO base w0 wo v cs) (hb : Below wo.heap.size wo wc) (hk : KOk (fun g => wo.heap.size ≤ g ∧ g < wc.heap.size) wc x.key) (hr : KOk (fun g => wo.heap.size ≤ g ∧ g < wc.heap.size) wc x.row) (hf : FitB x)
    (ho : Own 4 ChM.cs 51 base w' v' (cs ++ [x])) (hx : Ext wc v w' v') (hB : base ≤ wo.heap.size) : CO base w0 w' v' (cs ++ [x]) := by
  have hvl : ∀ g, v.ownBlock = some g → base ≤ g ∧ g < wo.heap.size := Own.lt h.own
  have hsz := hx.size
  have hbs := hb.size
  have hne : ∀ g, wo.heap.size ≤ g → v.ownBlock ≠ some g := fun g hg e => by have := (hvl g e).2; omega
  have hold : ∀ k : Key, KOk (fun g => base ≤ g ∧ g < wo.heap.size ∧ v.ownBlock ≠ some g) wo k → KOk (fun g => base ≤ g ∧ g < w'.heap.size ∧ v'.ownBlock ≠ some g) w' k := fun k hk => by
    have h1 := hk.keep (Keeps.of_below hb fun _ h => h.2.1)
    exact (h1.keep (hx.keeps fun g hg => ⟨by omega, fun e => hg.2.2 e.symm⟩)).more fun g hg => ⟨hg.1, by omega, hx.ne hg.2.2 (by omega)⟩
  have hnew : ∀ k : Key, KOk (fun g => wo.heap.size ≤ g ∧ g < wc.heap.size) wc k → KOk (fun g => base ≤ g ∧ g < w'.heap.size ∧ v'.ownBlock ≠ some g) w' k := fun k hk =>
    (hk.keep (hx.keeps fun g hg => ⟨hg.2, fun e => hne g hg.1 e.symm⟩)).more fun g hg => ⟨by omega, by omega, hx.ne (hne g hg.1) hg.2⟩
  refine ⟨ho, fun k hm => ?_, fun k hm => ?_, (h.bel.trans (hb.mono hB)).trans (hx.below (by omega) fun g hg => (hvl g hg).1)⟩
  · rcases List.mem_append.1 hm with hm | hm
    · exact ⟨hold _ (h.part k hm).1, hold _ (h.part k hm).2⟩
    · rw [List.mem_singleton.1 hm]
      exact ⟨hnew _ hk, hnew _ hr⟩
  · rcases List.mem_append.1 hm with hm | hm
    · exact h.fit k hm
    · rw [List.mem_singleton.1 hm]
      exact hf
theorem CO.below {base : Nat} {w0 w w' : World} {v : Value} {cs : List ChM} (h : CO base w0 w v cs) (hb : Below w.heap.size w w') (hB : base ≤ w.heap.size) : CO base w0 w' v cs :=
  ⟨h.own.below hb, fun k hk => ⟨((h.part k hk).1.keep (Keeps.of_below hb fun _ h => h.2.1)).more fun _ hg => ⟨hg.1, Nat.lt_of_lt_of_le hg.2.1 hb.size, hg.2.2⟩, ((h.part k hk).2.keep (Keeps.of_below hb fun _ h => h.2.1)).more fun _ hg => ⟨hg.1, Nat.lt_of_lt_of_le hg.2.1 hb.size, hg.2.2⟩⟩, h.fit, h.bel.trans (hb.mono hB)⟩
theorem CO.nil {base : Nat} {w : World} : CO base w w (.slice none 0 0) [] := ⟨Own.nil _, (fun x hx => by cases hx), (fun x hx => by cases hx), Below.refl _ _⟩
/-- The delete of a row's key fits. -/
theorem fit_del {A : Option Addr} {c ti : Nat} {r : Row} (ht : ti < 2) (hr : RG (bCols ti) r) : FitB ⟨2, nTab ti, ⟨A, c, keyOf [0] r⟩, ⟨none, 0, []⟩⟩ := by
  have htt : tiOf ⟨2, nTab ti, ⟨A, c, keyOf [0] r⟩, ⟨none, 0, []⟩⟩ = ti := tiOf_tab ht rfl
  have hkk : kkOf ⟨2, nTab ti, ⟨A, c, keyOf [0] r⟩, ⟨none, 0, []⟩⟩ = dgK [0] r := by
    unfold kkOf
    rw [if_neg (by show ¬ (2 : Int) = 1; decide)]
    rfl
  exact ⟨⟨by rw [htt], by rw [htt]; exact ht⟩, .inr ⟨rfl, rfl, by rw [hkk]; exact hr.key, by rw [hkk]; exact hr.dig⟩⟩
/-- The upsert of a row fits. -/
theorem fit_ups {A : Option Addr} {c ti : Nat} {r : Row} (ht : ti < 2) (hr : RG (bCols ti) r) : FitB ⟨1, nTab ti, ⟨none, 0, []⟩, ⟨A, c, r⟩⟩ := by
  have htt : tiOf ⟨1, nTab ti, ⟨none, 0, []⟩, ⟨A, c, r⟩⟩ = ti := tiOf_tab ht rfl
  exact ⟨⟨by rw [htt], by rw [htt]; exact ht⟩, .inl ⟨rfl, rfl, by rw [htt]; exact hr⟩⟩

/-- Behind KeyOf: the append of a delete. -/
def GcK (B : Nat) (w0 wi : World) (v0 v3 : Value) (nm : ByteArray) (L : Nat) (e : Ending) (w2 : World) : Prop :=
  ∃ A2 c2, e = .returned (.slice A2 1 c2) ∧ Hid (∀ ty, ∃ v4 w4, (Builtin.append_ #[32, 32] ty #[v3, .slice (some ⟨w2.heap.size, 0, none⟩) 1 1]).run Tryz.prog (w2.alloc (.cells #[.int .i64 2, .string nm, .slice A2 1 c2, .slice none 0 0] 51)) = .ok v4 w4 ∧ ∃ cs', CO B w0 w4 v4 cs' ∧ cs'.length = L ∧ Ext wi v0 w4 v4)
theorem gck {B : Nat} {w0 wi wo W : World} {v0 v3 : Value} {cs : List ChM} (h : CO B w0 wo v3 cs) (hB : B ≤ wo.heap.size) (hE : Ext wi v0 wo v3) (hW : Below wo.heap.size wo W) {t : Tbl} {k : Key} {ti : Nat} (ht2 : ti < 2) (ht : TOk (· < W.heap.size) W t) (hk : KOk (· < W.heap.size) W k) (hpk : t.pk = [0]) (hr : RG (bCols ti) k.row) (hl : cs.length ≤ 1000) :
    Calls Tryz.prog 25 #[t.val, .slice k.A k.row.length k.c] W fun e w2 => GcK B w0 wi v0 v3 (nTab ti) (cs.length + 1) e w2 ∧ Below W.heap.size W w2 := by
  refine (keyOfB t k.A k.c k.row W ht hk.el (by rw [hpk]; decide)).mono ?_
  rintro e w2 ⟨v2, rfl, ho2, hb2⟩
  rw [hpk] at ho2
  obtain ⟨A2, c2, rfl, -, -⟩ := ho2.form
  have hbo : Below wo.heap.size wo w2 := hW.trans (hb2.mono hW.size)
  refine ⟨⟨A2, c2, rfl, Lib.hid fun ty => ?_⟩, hb2⟩
  obtain ⟨v4, w4, hrun, ho4, hx4⟩ := run_push elem_chgs chLay ty w2 v3 cs (⟨2, nTab ti, ⟨A2, c2, keyOf [0] k.row⟩, ⟨none, 0, []⟩⟩ : ChM) #[.int .i64 2, .string (nTab ti), .slice A2 1 c2, .slice none 0 0] (h.own.below hbo) rfl (by omega) (by unfold maxLen; omega) (Nat.le_trans hB hbo.size) rfl
  exact ⟨v4, w4, hrun, _, h.push hbo (x := ⟨2, nTab ti, ⟨A2, c2, keyOf [0] k.row⟩, ⟨none, 0, []⟩⟩) ⟨(ho2.elems valLay.len rfl).more fun g hg => ⟨Nat.le_trans hW.size (Own.lt ho2 g hg).1, (Own.lt ho2 g hg).2⟩, by show 1 ≤ 12; decide⟩ kOk_nil (fit_del ht2 hr) ho4 hx4 hB, by simp, (hE.then_below hbo).trans hx4⟩
end Go.Proofs.YtefifkleamiabaaGreatDoor

namespace Go.Proofs.YtefifkleamiabaaGreatDoor
open Go.RowKit Go.Sort

/-- The append of an upsert. -/
theorem gup {B : Nat} {w0 wi wo W : World} {v0 v3 : Value} {cs : List ChM} (h : CO B w0 wo v3 cs) (hB : B ≤ wo.heap.size) (hE : Ext wi v0 wo v3) (hW : Below wo.heap.size wo W) {ti : Nat} (ht2 : ti < 2) {k : Key} (hk : KOk (fun g => wo.heap.size ≤ g ∧ g < W.heap.size) W k) (hr : RG (bCols ti) k.row) (hl : cs.length ≤ 1000) :
    Hid (∀ ty, ∃ v4 w4, (Builtin.append_ #[32, 32] ty #[v3, .slice (some ⟨W.heap.size, 0, none⟩) 1 1]).run Tryz.prog (W.alloc (.cells #[.int .i64 1, .string (nTab ti), .slice none 0 0, .slice k.A k.row.length k.c] 51)) = .ok v4 w4 ∧ ∃ cs', CO B w0 w4 v4 cs' ∧ cs'.length = cs.length + 1 ∧ Ext wi v0 w4 v4) := by
  refine Lib.hid fun ty => ?_
  obtain ⟨v4, w4, hrun, ho4, hx4⟩ := run_push elem_chgs chLay ty W v3 cs (⟨1, nTab ti, ⟨none, 0, []⟩, k⟩ : ChM) #[.int .i64 1, .string (nTab ti), .slice none 0 0, .slice k.A k.row.length k.c] (h.own.below hW) rfl (by omega) (by unfold maxLen; omega) (Nat.le_trans hB hW.size) rfl
  exact ⟨v4, w4, hrun, _, h.push hW (x := ⟨1, nTab ti, ⟨none, 0, []⟩, k⟩) kOk_nil hk (fit_ups ht2 hr) ho4 hx4 hB, by simp, (hE.then_below hW).trans hx4⟩

/-- The first columns' values. -/
theorem gRow_take (cols : List Col) (m : Int) (k : Nat) (hk : k < cols.length) : (gRow cols m).take (k + 1) = (gRow cols m).take k ++ [gVal cols[k] (m + (k : Int) * (k : Int) * 7)] := by
  have hl : k < (gRow cols m).length := by simpa [gRow] using hk
  rw [List.take_succ_eq_append_getElem hl]
  congr 2
  simp [gRow]
theorem gRow_len (cols : List Col) (m : Int) : (gRow cols m).length = cols.length := by simp [gRow]
/-- The quotients of a seed are seeds, with room for a column's shift. -/
theorem seed_quo {n : Int} (h : I64 n) : I64 (n.tdiv 8) ∧ I64 (n.tdiv 32) ∧ (∀ k : Nat, k ≤ 8 → I64 (n.tdiv 32 + (k : Int) * (k : Int) * 7) ∧ I64 ((k : Int) * (k : Int)) ∧ I64 ((k : Int) * (k : Int) * 7) ∧ I64 ((n.tdiv 32 + (k : Int) * (k : Int) * 7).tdiv 4)) := by
  obtain ⟨h1, h2⟩ := h
  have q8 : -1152921504606846976 ≤ n.tdiv 8 ∧ n.tdiv 8 ≤ 1152921504606846976 := by
    rcases Int.le_total 0 n with hn | hn
    · rw [Int.tdiv_eq_ediv_of_nonneg hn]
      omega
    · have : n.tdiv 8 = -((-n).tdiv 8) := by rw [Int.neg_tdiv, Int.neg_neg]
      rw [this, Int.tdiv_eq_ediv_of_nonneg (by omega)]
      omega
  have q32 : -288230376151711744 ≤ n.tdiv 32 ∧ n.tdiv 32 ≤ 288230376151711744 := by
    rcases Int.le_total 0 n with hn | hn
    · rw [Int.tdiv_eq_ediv_of_nonneg hn]
      omega
    · have : n.tdiv 32 = -((-n).tdiv 32) := by rw [Int.neg_tdiv, Int.neg_neg]
      rw [this, Int.tdiv_eq_ediv_of_nonneg (by omega)]
      omega
  refine ⟨⟨by omega, by omega⟩, ⟨by omega, by omega⟩, fun k hk => ?_⟩
  have hkk : (0 : Int) ≤ (k : Int) * (k : Int) ∧ (k : Int) * (k : Int) ≤ 64 := by
    have : k = 0 ∨ k = 1 ∨ k = 2 ∨ k = 3 ∨ k = 4 ∨ k = 5 ∨ k = 6 ∨ k = 7 ∨ k = 8 := by omega
    rcases this with rfl | rfl | rfl | rfl | rfl | rfl | rfl | rfl | rfl <;> decide
  generalize (k : Int) * (k : Int) = kk at *
  have hq : I64 (n.tdiv 32 + kk * 7) := ⟨by omega, by omega⟩
  refine ⟨hq, ⟨by omega, by omega⟩, ⟨by omega, by omega⟩, ?_⟩
  obtain ⟨y, hy⟩ : ∃ y, n.tdiv 32 + kk * 7 = y := ⟨_, rfl⟩
  rw [hy] at hq ⊢
  obtain ⟨a1, a2⟩ := hq
  rcases Int.le_total 0 y with hn | hn
  · rw [Int.tdiv_eq_ediv_of_nonneg hn]
    exact ⟨by omega, by omega⟩
  · have : y.tdiv 4 = -((-y).tdiv 4) := by rw [Int.neg_tdiv, Int.neg_neg]
    rw [this, Int.tdiv_eq_ediv_of_nonneg (by omega)]
    exact ⟨by omega, by omega⟩
end Go.Proofs.YtefifkleamiabaaGreatDoor

namespace Go.Proofs.YtefifkleamiabaaGreatDoor
open Go.RowKit Go.Sort

theorem CO.rebase {w w1 wr : World} {v : Value} {cs : List ChM} (h : CO w1.heap.size w1 wr v cs) (hb : Below w.heap.size w w1) : CO w.heap.size w wr v cs :=
  ⟨h.own.mono hb.size, fun x hx => ⟨(h.part x hx).1.more fun _ hg => ⟨Nat.le_trans hb.size hg.1, hg.2⟩, (h.part x hx).2.more fun _ hg => ⟨Nat.le_trans hb.size hg.1, hg.2⟩⟩, h.fit, hb.trans (h.bel.mono hb.size)⟩
/-- The column's box. -/
def CbX (g : Nat) (nm : ByteArray) (ck : Int) (cn : Bool) (W : World) : Prop := W.cell? ⟨g, 0, none⟩ = some (.string nm) ∧ W.cell? ⟨g, 1, none⟩ = some (.int .i64 ck) ∧ W.cell? ⟨g, 2, none⟩ = some (.bool cn)
/-- Behind GenerateValue: the append of the value. -/
def GvK (w2 : World) (v13 : Value) (row : Row) (x : Val) (S : World → Prop) (e : Ending) (w6 : World) : Prop :=
  e = .returned (.agg #[.int .i64 x.kind, .int .i64 x.int, .string x.text]) ∧ S w6 ∧ Hid (∀ o, S (w6.alloc o)) ∧ Hid (∀ ty, ∃ v7 w7, (Builtin.append_ #[48, 48] ty #[v13, .slice (some ⟨w6.heap.size, 0, none⟩) 1 1]).run Tryz.prog (w6.alloc (.cells #[.int .i64 x.kind, .int .i64 x.int, .string x.text] 60)) = .ok v7 w7
    ∧ S w7 ∧ Hid (Own 3 Val.cs 60 w2.heap.size w7 v7 (row ++ [x]) ∧ Below w2.heap.size w2 w7))
theorem gvk {w2 wq w5 W : World} {v13 : Value} {row : Row} {nm : ByteArray} {ck : Int} {cn : Bool} {y : Int} (ho : Own 3 Val.cs 60 w2.heap.size wq v13 row) (hb : Below w2.heap.size w2 wq) (h5 : Below wq.heap.size wq w5) (hg : w5.heap[wq.heap.size]? = some (.cells #[.string nm, .int .i64 ck, .bool cn] 68 (0, 0))) (hW : Below w5.heap.size w5 W) (hl : row.length ≤ 1000)
    (hk : ck = 1 ∨ ck = 2 ∨ ck = 3) (hn : I64 y) (h4 : I64 (y.tdiv 4)) :
    Calls Tryz.prog 26 #[.agg #[.string nm, .int .i64 ck, .bool cn], .int .i64 y] W (GvK w2 v13 row (gVal ⟨nm, ck, cn⟩ y) (CbX wq.heap.size nm ck cn)) := by
  refine (genValueW ⟨nm, ck, cn⟩ y W hk hn h4).mono ?_
  rintro e w6 ⟨rfl, hb6⟩
  generalize gVal ⟨nm, ck, cn⟩ y = x
  have hs5 : wq.heap.size < w5.heap.size := (Array.getElem?_eq_some_iff.1 hg).1
  have hq6 : Below wq.heap.size wq w6 := (h5.trans (hW.mono h5.size)).trans (hb6.mono (Nat.le_trans h5.size hW.size))
  have hg6 : w6.heap[wq.heap.size]? = some (.cells #[.string nm, .int .i64 ck, .bool cn] 68 (0, 0)) := (hb6.block _ (Nat.lt_of_lt_of_le hs5 hW.size)).trans ((hW.block _ hs5).trans hg)
  have hs6 : wq.heap.size < w6.heap.size := (Array.getElem?_eq_some_iff.1 hg6).1
  have hv : ∀ g, v13.ownBlock = some g → w2.heap.size ≤ g ∧ g < wq.heap.size := Own.lt ho
  have hS : ∀ W', W'.heap[wq.heap.size]? = some (.cells #[.string nm, .int .i64 ck, .bool cn] 68 (0, 0)) → CbX wq.heap.size nm ck cn W' := fun W' h => ⟨cell_of_row _ _ 0 _ _ _ h, cell_of_row _ _ 1 _ _ _ h, cell_of_row _ _ 2 _ _ _ h⟩
  refine ⟨rfl, hS _ hg6, Lib.hid fun o => hS _ ((Below.heap_alloc _ _ _ hs6).trans hg6), Lib.hid fun ty => ?_⟩
  obtain ⟨v7, w7, hrun, ho7, hx7⟩ := run_push elem_val valLay ty w6 v13 row x #[.int .i64 x.kind, .int .i64 x.int, .string x.text] (ho.below hq6) rfl (by omega) (by unfold maxLen; omega) (Nat.le_trans hb.size hq6.size) rfl
  refine ⟨v7, w7, hrun, hS _ ?_, Lib.hid ⟨ho7, (hb.trans (hq6.mono hb.size)).trans (hx7.below (Nat.le_trans hb.size hq6.size) fun g hg => (hv g hg).1)⟩⟩
  exact (hx7.keeps (S := fun k => k = wq.heap.size) (fun k hk => ⟨by rw [hk]; exact hs6, fun e => by have := (hv k e.symm).2; omega⟩) _ rfl).trans hg6

set_option maxRecDepth 100000 in
set_option maxHeartbeats 8000000 in
theorem genChangesW (T IA IP OA OP F FC N : Option Addr) (R : Nat → List Row) (hR : BG R) (v : Value) (SA : Option Addr) (sc : Nat) (ns : List Int) (w : World) (hs : ScOk (· < w.heap.size) w (bSc T IA IP OA OP F FC N)) (hi : InB R w v) (hn : Elems 1 intCs w (· < w.heap.size) SA ns) (h64 : ∀ n ∈ ns, I64 n) (hl : ns.length ≤ sc) :
    Calls Tryz.prog 10 #[(bSc T IA IP OA OP F FC N).v, v, .slice SA ns.length sc] w fun e w' => ∃ A c cs, e = .returned (.slice A cs.length c) ∧ cs.length = min ns.length 5 ∧ CO w.heap.size w w' (.slice A cs.length c) cs := by
  obtain ⟨IN, ic, A0, c0, k0, A1, c1, k1, rfl, hin, e0, e1⟩ := hi
  obtain ⟨ib0, io0, hIN0, -⟩ := hin.el.rel (k := 0) (by show 0 < 2; omega)
  subst hIN0
  obtain ⟨m, hm⟩ : ∃ m : Nat, m = ns.length := ⟨_, rfl⟩
  obtain ⟨q, hq⟩ : ∃ q : Nat, q = min m 5 := ⟨_, rfl⟩
  obtain ⟨w1, hw1⟩ : ∃ w1, w1 = w.alloc (.cells (bSc T IA IP OA OP F FC N).cells 27) := ⟨_, rfl⟩
  have hb1 : Below w.heap.size w w1 := by rw [hw1]; exact (Below.refl _ _).alloc (Nat.le_refl _) _
  have hg1 : w1.heap[w.heap.size]? = some (.cells (bSc T IA IP OA OP F FC N).cells 27 (0, 0)) := by rw [hw1]; exact heap_alloc_new w _
  have hs1 : w.heap.size < w1.heap.size := by rw [hw1]; simp
  have HX : Hid (∀ W, Below w1.heap.size w1 W → W.cell? ⟨w.heap.size, 0, none⟩ = some (.slice T 2 2)) := Lib.hid fun W hW => cell_of_row _ _ 0 _ _ _ ((hW.block w.heap.size hs1).trans hg1)
  have HIN := Lib.hid (And.intro hin (And.intro e0 e1))
  have HSC := Lib.hid hs
  have HNS := Lib.hid (And.intro hn (And.intro h64 (And.intro hm hl)))
  have HB1 := Lib.hid (And.intro hb1 hs1)
  have HW1 := Lib.hid hw1
  have hmc : m ≤ sc := by omega
  have x0 := HX.out w1 (Below.refl _ _)
  rw [← hm]
  clear hin e0 e1 hs hn h64 hl hm hb1 hg1 hs1 hw1
  replace HW1 : Hid (w1 = w.alloc (.cells #[.slice T 2 2, .slice F 1 1, .slice N 1 1] 27)) := HW1
  show Calls Tryz.prog 10 #[.agg #[.slice T 2 2, .slice F 1 1, .slice N 1 1], .slice (some ⟨ib0, io0, none⟩) 2 ic, .slice SA m sc] w _
  go_enter Tryz.func10, Tryz.ntmps10
  go_upto_region 1 with fail
  rw [← HW1.out]
  have hminN : min m 5 = q := hq.symm
  have hqm : q ≤ m := by omega
  have hq5 : q ≤ 5 := by omega
  go_wp2_with fail
  have hminZ : min (m : Int) 5 = (q : Int) := by omega
  have hmax : max (q : Int) 0 = (q : Int) := by omega
  simp only [hminZ, hmax, Int.toNat_natCast]
  have HQ := Lib.hid hq
  clear hminN hminZ hmax hq
  go_loopw [7, 22] (fun v7 vi wr => ∃ (i : Nat) (cs : List ChM), vi = .int .i64 (i : Int) ∧ i ≤ q ∧ CO w1.heap.size w1 wr v7 cs ∧ cs.length = i) (fun _ vi _ => q - (intOf vi).toNat)
  case atStart => exact ⟨0, [], rfl, by omega, CO.nil, rfl⟩
  case round =>
    obtain ⟨i, cs, rfl, hiq, hC, hcl⟩ := hrel
    obtain ⟨wo, rfl⟩ : ∃ wo, wo = wr := ⟨_, rfl⟩
    obtain ⟨v0, rfl⟩ : ∃ v0, v0 = u7 := ⟨_, rfl⟩
    by_cases hlt : i < q
    · have hb0o : Below w.heap.size w wo := HB1.out.1.trans (hC.bel.mono HB1.out.1.size)
      have hin_ : i < ns.length := by have := HNS.out.2.2.1; omega
      obtain ⟨sb, soff, hSA, -, sn⟩ := (HNS.out.1.on hb0o).int hin_
      have hn64 := HNS.out.2.1 _ (List.getElem_mem hin_)
      have hlt' : (i : Int) < (q : Int) := by omega
      have him' : (i : Int) < (m : Int) := by omega
      generalize ns[i] = n at *
      have HM2 := Lib.hid fun W => modW n 2 W hn64 (by omega) (by omega)
      have hti : md n 2 < 2 := by have := md_lt (k := n) (n := 2) (by omega); omega
      generalize md n 2 = ti at *
      obtain ⟨h8, h32, hk32⟩ := seed_quo hn64
      have HM8 := Lib.hid fun W => modW (n.tdiv 8) 4 W h8 (by omega) (by omega)
      have hw8 := wrapIn h8
      have hw32 := wrapIn h32
      have x0 := HX.out wo hC.bel
      have HSo := HSC.out.on hb0o
      obtain ⟨tb, toff, hT, -, t0, t1, t2⟩ := HSo.tabs.tbl (k := ti) hti
      obtain ⟨t, ht⟩ : ∃ t, t = (bSc T IA IP OA OP F FC N).tabs[ti] := ⟨_, rfl⟩
      have htf : t.name = nTab ti ∧ t.pk = [0] ∧ t.cols = bCols ti := by
        have : ti = 0 ∨ ti = 1 := by omega
        subst ht
        rcases this with rfl | rfl <;> exact ⟨rfl, rfl, rfl⟩
      have htk : TOk (· < wo.heap.size) wo t := by rw [ht]; exact HSo.tab _ (List.getElem_mem _)
      rw [← ht] at t0 t1 t2
      clear ht
      obtain ⟨tn, CA, cc, cols, PA, pc, pk⟩ := t
      obtain ⟨htf1, htf2, htf3⟩ := htf
      replace htf1 : tn = nTab ti := htf1
      replace htf2 : pk = [0] := htf2
      replace htf3 : cols = bCols ti := htf3
      subst htf1 htf2 htf3
      replace t0 : wo.cell? ⟨tb, toff + ti * 3, none⟩ = some (.string (nTab ti)) := t0
      replace t1 : wo.cell? ⟨tb, toff + ti * 3 + 1, none⟩ = some (.slice CA (bCols ti).length cc) := t1
      replace t2 : wo.cell? ⟨tb, toff + ti * 3 + 2, none⟩ = some (.slice PA 1 pc) := t2
      have hti' : (ti : Int) < 2 := by omega
      replace hT : T = _ := hT
      rw [hT] at x0 ⊢
      rw [hSA]
      go_upto_region 6 with fail
      go_wp2_with fail
      refine (HM2.out _).mono ?_
      rintro e w' ⟨rfl, rfl⟩
      obtain ⟨w2, hw2⟩ : ∃ w2, w2 = wo.alloc (.cells #[.string (nTab ti), .slice CA (bCols ti).length cc, .slice PA 1 pc] 71) := ⟨_, rfl⟩
      have hb2 : Below wo.heap.size wo w2 := by rw [hw2]; exact (Below.refl _ _).alloc (Nat.le_refl _) _
      have hg2 : w2.heap[wo.heap.size]? = some (.cells #[.string (nTab ti), .slice CA (bCols ti).length cc, .slice PA 1 pc] 71 (0, 0)) := by rw [hw2]; exact heap_alloc_new wo _
      have hs2 : wo.heap.size < w2.heap.size := by rw [hw2]; simp
      have g0 := cell_of_row _ _ 0 _ _ _ hg2
      have g1 := cell_of_row _ _ 1 _ _ _ hg2
      have g2 := cell_of_row _ _ 2 _ _ _ hg2
      have HIo := HIN.out.1.on (hb0o.trans (hb2.mono hb0o.size))
      obtain ⟨ib, ioff, hIN, -, p0, p1⟩ := HIo.el.rel (k := ti) hti
      have hrs := HIo.rel _ (List.getElem_mem (l := [(⟨nItem, A0, c0, k0⟩ : RelM), ⟨nOrder, A1, c1, k1⟩]) (n := ti) hti)
      have hxr : ([(⟨nItem, A0, c0, k0⟩ : RelM), ⟨nOrder, A1, c1, k1⟩][ti]'hti).rows.map Key.row = R ti := by
        have : ti = 0 ∨ ti = 1 := by omega
        rcases this with rfl | rfl
        · exact HIN.out.2.1
        · exact HIN.out.2.2
      generalize ([(⟨nItem, A0, c0, k0⟩ : RelM), ⟨nOrder, A1, c1, k1⟩][ti]'hti) = x at *
      obtain ⟨rn, rA, rc, rk⟩ := x
      simp only at p0 p1 hrs hxr
      obtain ⟨rl, hrl⟩ : ∃ rl, rk.length = rl := ⟨_, rfl⟩
      rw [hrl] at p1
      have HW2 := Lib.hid hw2
      have HXR := Lib.hid (And.intro hxr (And.intro hrl hrs))
      have HB2 := Lib.hid (And.intro hb2 (And.intro hg2 hs2))
      have HC := Lib.hid (And.intro hC (And.intro hcl hb0o))
      have HT := Lib.hid htk
      have HK := Lib.hid hk32
      have H32 := Lib.hid h32
      have hnc : 3 ≤ (bCols ti).length ∧ (bCols ti).length ≤ 4 := by
        rcases (by omega : ti = 0 ∨ ti = 1) with e | e <;> rw [e] <;> decide
      obtain ⟨hnc3, hnc4⟩ := hnc
      clear hw2 hxr hrl hrs hb2 hg2 hs2 hC hcl hb0o htk hk32 hn64 h8 h32 HSo HIo sn
      injection hIN with hIN
      injection hIN with e1 e2
      subst e1 e2
      go_upto_region 8 with fail
      rw [← HW2.out]
      clear t0 t1 t2
      by_cases hz : md (n.tdiv 8) 4 = 0
      · rw [hz] at HM8
        clear hz
        go_wp2_with fail
        refine (HM8.out _).mono ?_
        rintro e w' ⟨rfl, rfl⟩
        by_cases hr0 : 0 < rl
        · obtain ⟨j, hj⟩ : ∃ j, j = md (n.tdiv 32) rl := ⟨_, rfl⟩
          have hjl : j < rl := by have := md_lt (k := n.tdiv 32) (n := rl) (by omega); omega
          have HM32 : Hid (∀ W, _) := Lib.hid fun W => modW (n.tdiv 32) rl W H32.out (by omega) (by have := HXR.out.1; have h8 := hR.len hti; have := congrArg List.length HXR.out.1; rw [List.length_map, HXR.out.2.1] at this; omega)
          rw [← hj] at HM32
          clear hj
          have hjk : j < rk.length := by have := HXR.out.2.1; omega
          have hjl' : (j : Int) < (rl : Int) := by omega
          obtain ⟨lb, loff, hrA, -, q0⟩ := HXR.out.2.2.el.key hjk
          have hkk := HXR.out.2.2.row _ (List.getElem_mem hjk)
          have hkm : rk[j].row ∈ R ti := by rw [← HXR.out.1]; exact List.mem_map_of_mem (List.getElem_mem hjk)
          generalize rk[j] = k at *
          have HGC : Hid (∀ W, Below w2.heap.size w2 W → _) := Lib.hid fun W (hW : Below w2.heap.size w2 W) => gck (wi := wo) HC.out.1 HC.out.1.bel.size (Ext.refl _ _) (HB2.out.1.trans (hW.mono HB2.out.1.size)) hti ((HT.out.on HB2.out.1).on hW) (hkk.on hW) rfl (hR.row ti hti _ hkm) (by have := HC.out.2.1; omega)
          unfold Tbl.val at HGC
          clear hkk hkm
          obtain ⟨kA, kc, kr⟩ := k
          simp only at HGC q0
          subst hrA
          go_wp2_with fail
          go_region_law (first
            | (go_simp; go_at_call 24; refine (HM32.out _).mono ?_; rintro e w' ⟨rfl, rfl⟩))
          all_goals
            go_wp2_with fail
            go_region_law (first
              | (go_simp; go_at_call 25; refine (HGC.out _ (by first | exact Below.refl _ _ | exact (Below.refl _ _).drew | exact (Below.refl _ _).drew.drew)).mono ?_; rintro e w6 ⟨⟨A6, c6, rfl, HAP⟩, hb6⟩; have z0 := cell_of_row _ _ 0 _ _ _ ((hb6.block wo.heap.size HB2.out.2.2).trans HB2.out.2.1))
              | (refine step_app (by rfl) (.tmp 75) (.tmp 82) _ _ (by rfl) (by rfl) (by rfl) (HAP.out _) ?_; rintro v7 w7 ⟨cs7, hC7, hl7, hE7⟩))
            all_goals
              have HF := Lib.hid (And.intro hC7 hl7)
              clear hC7 hl7 hE7
              go_wp2_with fail
              go_roundw
              case rel => exact ⟨i + 1, cs7, by go_num, by omega, HF.out.1, by have := HC.out.2.1; have := HF.out.2; omega⟩
              case measure => simp [intOf]; omega
        · go_wp2_with fail
          obtain ⟨cb, coff, hCA, -⟩ := HT.out.cols.col (k := 0) (by show 0 < (bCols ti).length; omega)
          have hCA : CA = _ := hCA
          subst hCA
          go_loopw [13, 87] (fun v13 vk wr => ∃ k : Nat, vk = .int .i64 (k : Int) ∧ k ≤ (bCols ti).length ∧ Own 3 Val.cs 60 w2.heap.size wr v13 ((gRow (bCols ti) (n.tdiv 32)).take k) ∧ Below w2.heap.size w2 wr) (fun _ vk _ => (bCols ti).length - (intOf vk).toNat)
          case atStart => exact ⟨0, rfl, Nat.zero_le _, Own.nil _, Below.refl _ _⟩
          case round =>
            obtain ⟨k, rfl, hkn, hw13, hb13⟩ := hrel
            obtain ⟨wq, rfl⟩ : ∃ wq, wq = wr := ⟨_, rfl⟩
            obtain ⟨v13, rfl⟩ : ∃ v13, v13 = u13 := ⟨_, rfl⟩
            have hoq : Below wo.heap.size wo wq := HB2.out.1.trans (hb13.mono HB2.out.1.size)
            by_cases hlk : k < (bCols ti).length
            · have hlk' : (k : Int) < ((bCols ti).length : Int) := by omega
              obtain ⟨cb', coff', hCA', -, q0, q1, q2⟩ := (HT.out.on hoq).cols.col hlk
              injection hCA' with hCA'
              injection hCA' with e1 e2
              subst e1 e2
              have hkd := bCols_kind ti _ (List.getElem_mem hlk)
              obtain ⟨hI1, hI2, hI3, hI4⟩ := HK.out k (by omega)
              have hp1 := wrapIn hI2
              have hp2 := wrapIn hI3
              have hp3 := wrapIn hI1
              have HGT := Lib.hid (gRow_take (bCols ti) (n.tdiv 32) k hlk)
              have hlr : ((gRow (bCols ti) (n.tdiv 32)).take k).length ≤ 1000 := by rw [List.length_take]; omega
              generalize (gRow (bCols ti) (n.tdiv 32)).take k = row at *
              replace q0 : wq.cell? ⟨cb, coff + k * 3, none⟩ = some (.string (bCols ti)[k].name) := q0
              replace q1 : wq.cell? ⟨cb, coff + k * 3 + 1, none⟩ = some (.int .i64 (bCols ti)[k].kind) := q1
              replace q2 : wq.cell? ⟨cb, coff + k * 3 + 2, none⟩ = some (.bool (bCols ti)[k].null) := q2
              generalize (bCols ti)[k] = c at *
              obtain ⟨nm, ck, cn⟩ := c
              simp only at q0 q1 q2 hkd
              obtain ⟨w5, hw5⟩ : ∃ w5, w5 = wq.alloc (.cells #[.string nm, .int .i64 ck, .bool cn] 68) := ⟨_, rfl⟩
              have hb5 : Below wq.heap.size wq w5 := by rw [hw5]; exact (Below.refl _ _).alloc (Nat.le_refl _) _
              have hg5 : w5.heap[wq.heap.size]? = some (.cells #[.string nm, .int .i64 ck, .bool cn] 68 (0, 0)) := by rw [hw5]; exact heap_alloc_new wq _
              have b0 := cell_of_row _ _ 0 _ _ _ hg5
              have b1 := cell_of_row _ _ 1 _ _ _ hg5
              have b2 := cell_of_row _ _ 2 _ _ _ hg5
              have HGV := Lib.hid fun W (hW : Below w5.heap.size w5 W) => gvk (y := n.tdiv 32 + (k : Int) * (k : Int) * 7) hw13 hb13 hb5 hg5 hW hlr hkd hI1 hI4
              have HW5 := Lib.hid hw5
              clear hw5 hb5 hg5 hw13 hb13 hI1 hI2 hI3 hI4 hkd hlr hoq
              go_upto_region 15 with fail
              rw [← HW5.out]
              clear q0 q1 q2
              go_wp2_with fail
              refine (HGV.out w5 (Below.refl _ _)).mono ?_
              rintro e w6 ⟨rfl, s6, HSA, HAP⟩
              clear s6 HSA
              go_wp2_with (at_builtin; refine wpList_app rfl (.tmp 92) (.tmp 102) _ _ rfl rfl rfl (HAP.out _) ?_; rintro v7 w7 ⟨s7, HF⟩)
              clear s7
              go_wp2_with fail
              go_roundw
              case rel => exact ⟨k + 1, by go_num, by omega, by rw [HGT.out]; exact HF.out.1, HF.out.2⟩
              case measure => simp [intOf]; omega
            · have hkn' : k = (bCols ti).length := by omega
              subst hkn'
              rw [List.take_of_length_le (by rw [gRow_len]; omega)] at hw13
              obtain ⟨A13, c13, rfl, -, -⟩ := hw13.form
              have HUP := Lib.hid fun W (hW : Below wq.heap.size wq W) => gup (wi := wo) (ti := ti) (k := ⟨A13, c13, gRow (bCols ti) (n.tdiv 32)⟩) HC.out.1 HC.out.1.bel.size (Ext.refl _ _) (hoq.trans (hW.mono hoq.size)) hti
                ⟨((hw13.below hW).elems valLay.len rfl).more fun g hg => ⟨by have := (Own.lt hw13 g hg).1; have := HB2.out.1.size; omega, by have := (Own.lt hw13 g hg).2; have := hW.size; omega⟩, by show (gRow (bCols ti) (n.tdiv 32)).length ≤ 12; rw [gRow_len]; omega⟩ (gRow_g ti _) (by have := HC.out.2.1; omega)
              simp only [gRow_len] at HUP ⊢
              have z0 := cell_of_row _ _ 0 _ _ _ ((hb13.block wo.heap.size HB2.out.2.2).trans HB2.out.2.1)
              clear hw13 hb13 hoq
              go_upto_region 17 with fail
              go_wp2_with (at_builtin; refine wpList_app rfl (.tmp 105) (.tmp 110) _ _ rfl rfl rfl ((HUP.out wq (Below.refl _ _)).out _) ?_; rintro v7 w7 ⟨cs7, hC7, hl7, hE7⟩)
              have HF := Lib.hid (And.intro hC7 hl7)
              clear hC7 hl7 hE7
              go_wp2_with fail
              go_roundw
              case rel => exact ⟨i + 1, cs7, by go_num, by omega, HF.out.1, by have := HC.out.2.1; have := HF.out.2; omega⟩
              case measure => simp [intOf]; omega
      · have hzb : ((md (n.tdiv 8) 4 : Int) == 0) = false := by rw [beq_eq_false_iff_ne]; omega
        clear hz
        go_wp2_with fail
        refine (HM8.out _).mono ?_
        rintro e w' ⟨rfl, rfl⟩
        go_wp2_with fail
        obtain ⟨cb, coff, hCA, -⟩ := HT.out.cols.col (k := 0) (by show 0 < (bCols ti).length; omega)
        have hCA : CA = _ := hCA
        subst hCA
        go_loopw [13, 87] (fun v13 vk wr => ∃ k : Nat, vk = .int .i64 (k : Int) ∧ k ≤ (bCols ti).length ∧ Own 3 Val.cs 60 w2.heap.size wr v13 ((gRow (bCols ti) (n.tdiv 32)).take k) ∧ Below w2.heap.size w2 wr) (fun _ vk _ => (bCols ti).length - (intOf vk).toNat)
        case atStart => exact ⟨0, rfl, Nat.zero_le _, Own.nil _, Below.refl _ _⟩
        case round =>
          obtain ⟨k, rfl, hkn, hw13, hb13⟩ := hrel
          obtain ⟨wq, rfl⟩ : ∃ wq, wq = wr := ⟨_, rfl⟩
          obtain ⟨v13, rfl⟩ : ∃ v13, v13 = u13 := ⟨_, rfl⟩
          have hoq : Below wo.heap.size wo wq := HB2.out.1.trans (hb13.mono HB2.out.1.size)
          by_cases hlk : k < (bCols ti).length
          · have hlk' : (k : Int) < ((bCols ti).length : Int) := by omega
            obtain ⟨cb', coff', hCA', -, q0, q1, q2⟩ := (HT.out.on hoq).cols.col hlk
            injection hCA' with hCA'
            injection hCA' with e1 e2
            subst e1 e2
            have hkd := bCols_kind ti _ (List.getElem_mem hlk)
            obtain ⟨hI1, hI2, hI3, hI4⟩ := HK.out k (by omega)
            have hp1 := wrapIn hI2
            have hp2 := wrapIn hI3
            have hp3 := wrapIn hI1
            have HGT := Lib.hid (gRow_take (bCols ti) (n.tdiv 32) k hlk)
            have hlr : ((gRow (bCols ti) (n.tdiv 32)).take k).length ≤ 1000 := by rw [List.length_take]; omega
            generalize (gRow (bCols ti) (n.tdiv 32)).take k = row at *
            replace q0 : wq.cell? ⟨cb, coff + k * 3, none⟩ = some (.string (bCols ti)[k].name) := q0
            replace q1 : wq.cell? ⟨cb, coff + k * 3 + 1, none⟩ = some (.int .i64 (bCols ti)[k].kind) := q1
            replace q2 : wq.cell? ⟨cb, coff + k * 3 + 2, none⟩ = some (.bool (bCols ti)[k].null) := q2
            generalize (bCols ti)[k] = c at *
            obtain ⟨nm, ck, cn⟩ := c
            simp only at q0 q1 q2 hkd
            obtain ⟨w5, hw5⟩ : ∃ w5, w5 = wq.alloc (.cells #[.string nm, .int .i64 ck, .bool cn] 68) := ⟨_, rfl⟩
            have hb5 : Below wq.heap.size wq w5 := by rw [hw5]; exact (Below.refl _ _).alloc (Nat.le_refl _) _
            have hg5 : w5.heap[wq.heap.size]? = some (.cells #[.string nm, .int .i64 ck, .bool cn] 68 (0, 0)) := by rw [hw5]; exact heap_alloc_new wq _
            have b0 := cell_of_row _ _ 0 _ _ _ hg5
            have b1 := cell_of_row _ _ 1 _ _ _ hg5
            have b2 := cell_of_row _ _ 2 _ _ _ hg5
            have HGV := Lib.hid fun W (hW : Below w5.heap.size w5 W) => gvk (y := n.tdiv 32 + (k : Int) * (k : Int) * 7) hw13 hb13 hb5 hg5 hW hlr hkd hI1 hI4
            have HW5 := Lib.hid hw5
            clear hw5 hb5 hg5 hw13 hb13 hI1 hI2 hI3 hI4 hkd hlr hoq
            go_upto_region 15 with fail
            rw [← HW5.out]
            clear q0 q1 q2
            go_wp2_with fail
            refine (HGV.out w5 (Below.refl _ _)).mono ?_
            rintro e w6 ⟨rfl, s6, HSA, HAP⟩
            clear s6 HSA
            go_wp2_with (at_builtin; refine wpList_app rfl (.tmp 92) (.tmp 102) _ _ rfl rfl rfl (HAP.out _) ?_; rintro v7 w7 ⟨s7, HF⟩)
            clear s7
            go_wp2_with fail
            go_roundw
            case rel => exact ⟨k + 1, by go_num, by omega, by rw [HGT.out]; exact HF.out.1, HF.out.2⟩
            case measure => simp [intOf]; omega
          · have hkn' : k = (bCols ti).length := by omega
            subst hkn'
            rw [List.take_of_length_le (by rw [gRow_len]; omega)] at hw13
            obtain ⟨A13, c13, rfl, -, -⟩ := hw13.form
            have HUP := Lib.hid fun W (hW : Below wq.heap.size wq W) => gup (wi := wo) (ti := ti) (k := ⟨A13, c13, gRow (bCols ti) (n.tdiv 32)⟩) HC.out.1 HC.out.1.bel.size (Ext.refl _ _) (hoq.trans (hW.mono hoq.size)) hti
              ⟨((hw13.below hW).elems valLay.len rfl).more fun g hg => ⟨by have := (Own.lt hw13 g hg).1; have := HB2.out.1.size; omega, by have := (Own.lt hw13 g hg).2; have := hW.size; omega⟩, by show (gRow (bCols ti) (n.tdiv 32)).length ≤ 12; rw [gRow_len]; omega⟩ (gRow_g ti _) (by have := HC.out.2.1; omega)
            simp only [gRow_len] at HUP ⊢
            have z0 := cell_of_row _ _ 0 _ _ _ ((hb13.block wo.heap.size HB2.out.2.2).trans HB2.out.2.1)
            clear hw13 hb13 hoq
            go_upto_region 17 with fail
            go_wp2_with (at_builtin; refine wpList_app rfl (.tmp 105) (.tmp 110) _ _ rfl rfl rfl ((HUP.out wq (Below.refl _ _)).out _) ?_; rintro v7 w7 ⟨cs7, hC7, hl7, hE7⟩)
            have HF := Lib.hid (And.intro hC7 hl7)
            clear hC7 hl7 hE7
            go_wp2_with fail
            go_roundw
            case rel => exact ⟨i + 1, cs7, by go_num, by omega, HF.out.1, by have := HC.out.2.1; have := HF.out.2; omega⟩
            case measure => simp [intOf]; omega
    · have HF : Hid (Below w.heap.size w w1 ∧ CO w1.heap.size w1 wo v0 cs ∧ cs.length = min m 5) := Lib.hid ⟨HB1.out.1, hC, by have := HQ.out; omega⟩
      clear hC
      obtain ⟨A7, c7, hv7, -, -⟩ := HF.out.2.1.own.form
      subst hv7
      go_wp2_with fail
      go_ret
      exact ⟨A7, c7, cs, rfl, HF.out.2.2, HF.out.2.1.rebase HF.out.1⟩
end Go.Proofs.YtefifkleamiabaaGreatDoor

namespace Go.Proofs.YtefifkleamiabaaGreatDoor
open Go.RowKit Go.Sort

theorem RG.v1 {cols : List Col} {r : Row} (h : RG cols r) : ∃ v, r[1]? = some v ∧ NS v := by
  rcases h.c1 with h | ⟨x, hx, h⟩
  · exact ⟨_, h, .inl rfl⟩
  · exact ⟨_, h, .inr ⟨x, hx, rfl⟩⟩
section
variable {s : Sc} {IA IP OA OP FC : Option Addr} {fcc : Nat} {cl : List (Bool × Int)} {R : Nat → List Row} {A A0 A1 : Option Addr} {c c0 c1 : Nat} {k0 k1 : List Key}

end
end Go.Proofs.YtefifkleamiabaaGreatDoor

namespace Go.Proofs.YtefifkleamiabaaGreatDoor
open Go.RowKit Go.Sort

theorem one_own (w : World) (x : Int) : Own 1 intCs 3 w.heap.size (w.alloc (.cells #[.int .i64 x] 3)) (.slice (some ⟨w.heap.size, 0, none⟩) 1 1) [x] :=
  World.ownsRow_lit (base := w.heap.size) (e := 3) (size := 1) w #[.int .i64 x] 1 (Nat.le_refl _) (by unfold maxLen; omega) (by simp)
end Go.Proofs.YtefifkleamiabaaGreatDoor
