/-
  The walks of Mod, indexTable, GenerateValue.
-/
import Derived.Test.YtakbabkcidioaaaYd1
import Derived.Test.YtakbabkcidioaaaSl
import Derived.Test.YtakbabkcidioaaaLaw
import Derived.StillTailTactics
import Derived.BigRegion
import Derived.Deep.RegionHeld3
import Derived.Deep.RegionLaw
namespace Go.Proofs.Ytakbabkcidioaaa
open Go.RowKit Go.Sort

/-- What Mod answers. -/
def md (k n : Int) : Nat := ((if k < 0 then -(k + 1) else k) % n).toNat
theorem md_lt {k n : Int} (h : 0 < n) : (md k n : Int) < n := by
  unfold md
  have := Int.emod_lt_of_pos (if k < 0 then -(k + 1) else k) h
  have := Int.emod_nonneg (if k < 0 then -(k + 1) else k) (b := n) (by omega)
  omega

set_option maxRecDepth 100000 in
set_option maxHeartbeats 400000 in
theorem modW (k n : Int) (w : World) (hk : -9223372036854775808 ≤ k ∧ k ≤ 9223372036854775807) (h0 : 0 < n) (hn : n ≤ 9223372036854775807) :
    Calls Try.prog 39 #[.int .i64 k, .int .i64 n] w fun e w' => e = .returned (.int .i64 (md k n)) ∧ w = w' := by
  obtain ⟨hk1, hk2⟩ := hk
  by_cases hneg : k < 0
  · have hp : 0 ≤ -(k + 1) := by omega
    have hlt := Int.emod_lt_of_pos (-(k + 1)) h0
    have hge := Int.emod_nonneg (-(k + 1)) (b := n) (by omega)
    have hm : -(k + 1) % n = ((md k n : Nat) : Int) := by unfold md; rw [if_pos hneg]; omega
    have HM := Lib.hid hm
    clear hm
    generalize md k n = m at *
    go_enter Try.func39, Try.ntmps39
    go_wp2_with fail
    go_ret
    exact ⟨ret_int (by rw [← Int.neg_tmod, Int.tmod_eq_emod_of_nonneg hp]; exact HM.out), rfl⟩
  · have hp : 0 ≤ k := by omega
    have hlt := Int.emod_lt_of_pos k h0
    have hge := Int.emod_nonneg k (b := n) (by omega)
    have hm : k % n = ((md k n : Nat) : Int) := by unfold md; rw [if_neg hneg]; omega
    have HM := Lib.hid hm
    clear hm
    generalize md k n = m at *
    go_enter Try.func39, Try.ntmps39
    go_wp2_with fail
    go_ret
    exact ⟨ret_int HM.out, rfl⟩

def iCols : List Col := [⟨⟨#[107]⟩, 1, false⟩, ⟨⟨#[116]⟩, 3, true⟩, ⟨⟨#[98]⟩, 2, false⟩]
def iTbl (A P : Option Addr) : Tbl := ⟨⟨#[97]⟩, A, 3, iCols, P, 1, [0]⟩
theorem elems_block {α : Type} {sz : Nat} {cs : α → List Value} {w : World} {xs : List α} {g : Nat} {cur : Array Value} {e : TypeId} (L : Lay sz cs) (hg : w.heap[g]? = some (.cells cur e (0, 0))) (hs : cur.size = xs.length * sz) (hm : xs.length ≤ maxLen) (ht : cur.toList = xs.flatMap cs) :
    Elems sz cs w (fun k => k = g) (some ⟨g, 0, none⟩) xs := by
  have h : Own sz cs e g w (.slice (some ⟨g, 0, none⟩) xs.length xs.length) xs := Own.shut L (Nat.le_refl _) hg rfl (Nat.le_refl _) hm hs (by rw [← hs, ← ht]; exact List.take_of_length_le (by simp))
  exact (h.elems L.len rfl).more fun k hk => by injection hk with hk; exact hk.symm

set_option maxRecDepth 100000 in
theorem indexTableW (w : World) : Calls Try.prog 9 #[] w fun e w' => ∃ a p, e = .returned (iTbl (some ⟨a, 0, none⟩) (some ⟨p, 0, none⟩)).val ∧ TOk (fun g => w.heap.size ≤ g ∧ g < w'.heap.size) w' (iTbl (some ⟨a, 0, none⟩) (some ⟨p, 0, none⟩)) ∧ Below w.heap.size w w' := by
  obtain ⟨W3, hW3⟩ : ∃ W3, W3 = ((w.alloc (.cells #[.string ⟨#[97]⟩, .slice (some ⟨w.heap.size + 1, 0, none⟩) 3 3, .slice (some ⟨w.heap.size + 1 + 1, 0, none⟩) 1 1] 27)).alloc (.cells #[.string ⟨#[107]⟩, .int .i64 1, .bool false, .string ⟨#[116]⟩, .int .i64 3, .bool true, .string ⟨#[98]⟩, .int .i64 2, .bool false] 52)).alloc (.cells #[.int .i64 0] 3) := ⟨_, rfl⟩
  have hb : Below w.heap.size w W3 := by rw [hW3]; exact (((Below.refl _ _).alloc (Nat.le_refl _) _).alloc (le_size1 (Nat.le_refl _) _) _).alloc (le_size2 (Nat.le_refl _) _ _) _
  have hsz : W3.heap.size = w.heap.size + 3 := by rw [hW3]; simp
  have g0 : W3.heap[w.heap.size]? = some (.cells #[.string ⟨#[97]⟩, .slice (some ⟨w.heap.size + 1, 0, none⟩) 3 3, .slice (some ⟨w.heap.size + 1 + 1, 0, none⟩) 1 1] 27 (0, 0)) := by
    rw [hW3, Below.heap_alloc _ _ _ (by simp; omega), Below.heap_alloc _ _ _ (by simp)]
    exact heap_alloc_new w _
  have g1 : W3.heap[w.heap.size + 1]? = some (.cells #[.string ⟨#[107]⟩, .int .i64 1, .bool false, .string ⟨#[116]⟩, .int .i64 3, .bool true, .string ⟨#[98]⟩, .int .i64 2, .bool false] 52 (0, 0)) := by
    rw [hW3, Below.heap_alloc _ _ _ (by simp)]
    exact alloc2_at w _ _
  have g2 : W3.heap[w.heap.size + 1 + 1]? = some (.cells #[.int .i64 0] 3 (0, 0)) := by
    rw [hW3]
    have h := heap_alloc_new ((w.alloc (.cells #[.string ⟨#[97]⟩, .slice (some ⟨w.heap.size + 1, 0, none⟩) 3 3, .slice (some ⟨w.heap.size + 1 + 1, 0, none⟩) 1 1] 27)).alloc (.cells #[.string ⟨#[107]⟩, .int .i64 1, .bool false, .string ⟨#[116]⟩, .int .i64 3, .bool true, .string ⟨#[98]⟩, .int .i64 2, .bool false] 52)) (.cells #[.int .i64 0] 3)
    simpa using h
  have HT : Hid (TOk (fun g => w.heap.size ≤ g ∧ g < W3.heap.size) W3 (iTbl (some ⟨w.heap.size + 1, 0, none⟩) (some ⟨w.heap.size + 1 + 1, 0, none⟩))) := Lib.hid
    ⟨(elems_block colLay (xs := iCols) g1 rfl (by decide) rfl).more fun k hk => ⟨by omega, by omega⟩, (elems_block intLay (xs := [0]) g2 rfl (by decide) rfl).more fun k hk => ⟨by omega, by omega⟩⟩
  have HG := Lib.hid g0
  have HB := Lib.hid hb
  rw [hW3] at HT HG HB
  clear hW3 hb hsz g0 g1 g2
  go_enter Try.func9, Try.ntmps9
  go_wp2_with fail
  refine bodyPost_ret (results_cell_row (P := Try.prog) Try.results9 _ _ w.heap.size 27 _ (0, 0) _ rfl HG.out Try.underlying27 rfl (by kernel_rfl)) rfl ?_
  exact ⟨_, _, rfl, HT.out, HB.out⟩

def texts6 : List ByteArray := [⟨#[]⟩, ⟨#[97]⟩, ⟨#[98]⟩, ⟨#[97, 32, 98]⟩, ⟨#[55]⟩, ⟨#[116, 114, 117, 101]⟩]
/-- The generated values: a nullable text, a boolean. -/
def genT (n : Int) : Val := if md n 4 = 0 then ⟨0, 0, ⟨#[]⟩⟩ else ⟨3, 0, texts6.getD (md (n.tdiv 4) 6) ⟨#[]⟩⟩
def genB (n : Int) : Val := ⟨2, md (n.tdiv 4) 2, ⟨#[]⟩⟩
theorem I64.tdiv {n : Int} (h : I64 n) {d : Int} (hd : 2 ≤ d) : I64 (n.tdiv d) := by
  unfold I64 at *
  have h1 : (n.tdiv d).natAbs = n.natAbs / d.natAbs := Int.natAbs_tdiv n d
  have h2 : n.natAbs / d.natAbs ≤ n.natAbs / 2 := Nat.div_le_div_left (by omega) (by omega)
  omega

set_option maxRecDepth 100000 in
theorem genTextW (nm : ByteArray) (n : Int) (w : World) (hn : I64 n) : Calls Try.prog 19 #[.agg #[.string nm, .int .i64 3, .bool true], .int .i64 n] w fun e w' => e = .returned (.agg #[.int .i64 (genT n).kind, .int .i64 (genT n).int, .string (genT n).text]) ∧ Below w.heap.size w w' := by
  have HM := Lib.hid fun W => modW n 4 W hn (by omega) (by omega)
  have HQ := Lib.hid fun W => modW (n.tdiv 4) 6 W (hn.tdiv (by omega)) (by omega) (by omega)
  have h6 : (md (n.tdiv 4) 6 : Int) < 6 := md_lt (by omega)
  have hwr : IntKind.i64.wrap (n.tdiv 4) = n.tdiv 4 := by rw [IntKind.wrap_i64]; have := hn.tdiv (d := 4) (by omega); unfold I64 at this; omega
  have HS : Hid (md n 4 = 0 ∧ genT n = ⟨0, 0, ⟨#[]⟩⟩ ∨ md n 4 ≠ 0 ∧ genT n = ⟨3, 0, texts6.getD (md (n.tdiv 4) 6) ⟨#[]⟩⟩) := Lib.hid (by
    unfold genT
    by_cases h : md n 4 = 0
    · exact .inl ⟨h, if_pos h⟩
    · exact .inr ⟨h, if_neg h⟩)
  generalize genT n = gv at *
  generalize md n 4 = m at *
  generalize md (n.tdiv 4) 6 = q at *
  clear hn
  rcases HS.out with ⟨rfl, rfl⟩ | ⟨hm, rfl⟩
  · go_enter Try.func19, Try.ntmps19
    go_wp2_with fail
    refine (HM.out _).mono ?_
    rintro e w' ⟨rfl, rfl⟩
    go_wp2_with fail
    refine bodyPost_ret (results_cell_row (P := Try.prog) Try.results19 _ _ (w.heap.size + 1) 43 _ (0, 0) _ rfl (alloc2_at w _ _) Try.underlying43 rfl (by kernel_rfl)) rfl ?_
    exact ⟨rfl, ((Below.refl _ _).alloc (Nat.le_refl _) _).alloc (le_size1 (Nat.le_refl _) _) _⟩
  · have hm0 : ¬ (m : Int) = 0 := by omega
    have hcell : ([Value.string ⟨#[]⟩, Value.string ⟨#[97]⟩, Value.string ⟨#[98]⟩, Value.string ⟨#[97, 32, 98]⟩, Value.string ⟨#[55]⟩, Value.string ⟨#[116, 114, 117, 101]⟩] : List Value)[q]? = some (.string (texts6.getD q ⟨#[]⟩)) := by
      rcases q with _ | _ | _ | _ | _ | _ | q
      all_goals first | rfl | omega
    generalize texts6.getD q ⟨#[]⟩ = tx at *
    go_enter Try.func19, Try.ntmps19
    go_wp2_with fail
    refine (HM.out _).mono ?_
    rintro e w' ⟨rfl, rfl⟩
    go_wp2_with fail
    refine (HQ.out _).mono ?_
    rintro e w' ⟨rfl, rfl⟩
    go_wp2_with fail
    refine bodyPost_ret (results_cell_row (P := Try.prog) Try.results19 _ _ (w.heap.size + 1) 43 #[.int .i64 3, .int .i64 0, .string tx] (0, 0) _ rfl (by rw [Below.heap_alloc _ _ _ (by simp)]; exact alloc2_at w _ _) Try.underlying43 rfl (by kernel_rfl)) rfl ?_
    exact ⟨rfl, (((Below.refl _ _).alloc (Nat.le_refl _) _).alloc (le_size1 (Nat.le_refl _) _) _).alloc (le_size2 (Nat.le_refl _) _ _) _⟩

set_option maxRecDepth 100000 in
theorem genBoolW (nm : ByteArray) (n : Int) (w : World) (hn : I64 n) : Calls Try.prog 19 #[.agg #[.string nm, .int .i64 2, .bool false], .int .i64 n] w fun e w' => e = .returned (.agg #[.int .i64 (genB n).kind, .int .i64 (genB n).int, .string (genB n).text]) ∧ Below w.heap.size w w' := by
  have HQ := Lib.hid fun W => modW (n.tdiv 4) 2 W (hn.tdiv (by omega)) (by omega) (by omega)
  have hwr : IntKind.i64.wrap (n.tdiv 4) = n.tdiv 4 := by rw [IntKind.wrap_i64]; have := hn.tdiv (d := 4) (by omega); unfold I64 at this; omega
  unfold genB
  generalize md (n.tdiv 4) 2 = q at *
  clear hn
  go_enter Try.func19, Try.ntmps19
  go_wp2_with fail
  go_region_law (first
    | (go_simp; go_at_call 39; refine (HQ.out _).mono ?_; rintro e w1 ⟨rfl, rfl⟩))
  all_goals
    go_wp2_with fail
    refine bodyPost_ret (results_cell_row (P := Try.prog) Try.results19 _ _ (w.heap.size + 1) 43 #[.int .i64 2, .int .i64 q, .string ⟨#[]⟩] (0, 0) _ rfl ?_ Try.underlying43 rfl (by kernel_rfl)) rfl ?_
    · exact alloc2_at w _ _
    · have hb : Below w.heap.size w ((w.alloc (.cells #[.string nm, .int .i64 2, .bool false] 52)).alloc (.cells #[.int .i64 2, .int .i64 q, .string ⟨#[]⟩] 43)) := ((Below.refl _ _).alloc (Nat.le_refl _) _).alloc (le_size1 (Nat.le_refl _) _) _
      first
      | exact ⟨rfl, hb⟩
      | exact ⟨rfl, hb.drew⟩
end Go.Proofs.Ytakbabkcidioaaa
