/-
  The walks of slices.Grow (from nil) and slices.Concat over violations, of violations.Find.
  The walks of the reference's References$1 and References$2.
  The walk of the reference's References at a foreign key of one column.
  The walks of orderRow and baseInstance.
  The walks of RowListsEqual, InstancesEqual, ChangesEqual where both sides say the same, and of RowCount.
  The walks of ChangesEqual where both sides say the same, and of RowCount.
  The walk of Expand over rows of the base schema, without triggers or with deleteOrder.
-/
import Derived.Test.YtefifkleamiabaaGreatDoorUm19
import Derived.Lib.AppendZeros
import Derived.Test.YtefifkleamiabaaGreatDoorUm15
namespace Go.Proofs.YtefifkleamiabaaGreatDoor
open Go.RowKit Go.Sort

/-- The head of a slice of runs. -/
structure VHdr where
  A : Option Addr
  c : Nat
  xs : List Vio
def VHdr.cs (h : VHdr) : List Value := [.slice h.A h.xs.length h.c]
def VHdr.all (hs : List VHdr) : List Vio := hs.flatMap VHdr.xs

end Go.Proofs.YtefifkleamiabaaGreatDoor

namespace Go.Proofs.YtefifkleamiabaaGreatDoor
open Go.RowKit Go.Sort

/-- The two captured variables and the table that one of them points to. -/
def ClR (B1 B2 tb o : Nat) (t : Tbl) (Ak : Option Addr) (ck : Nat) (W : World) : Prop :=
  W.cell? ⟨B1, 0, none⟩ = some (.pointer (some ⟨tb, o, none⟩)) ∧ W.cell? ⟨B2, 0, none⟩ = some (.slice Ak 1 ck) ∧ W.cell? ⟨tb, o, none⟩ = some (.string t.name) ∧ W.cell? ⟨tb, o + 1, none⟩ = some (.slice t.CA t.cols.length t.cc) ∧ W.cell? ⟨tb, o + 2, none⟩ = some (.slice t.PA t.pk.length t.pc)
theorem ClR.below {B1 B2 tb o : Nat} {t : Tbl} {Ak : Option Addr} {ck : Nat} {W W' : World} (h : ClR B1 B2 tb o t Ak ck W) (h1 : B1 < W.heap.size) (h2 : B2 < W.heap.size) (h3 : tb < W.heap.size) (hb : Below W.heap.size W W') : ClR B1 B2 tb o t Ak ck W' :=
  ⟨(hb.cell (p := ⟨B1, 0, none⟩) h1).trans h.1, (hb.cell (p := ⟨B2, 0, none⟩) h2).trans h.2.1, (hb.cell (p := ⟨tb, o, none⟩) h3).trans h.2.2.1, (hb.cell (p := ⟨tb, o + 1, none⟩) h3).trans h.2.2.2.1, (hb.cell (p := ⟨tb, o + 2, none⟩) h3).trans h.2.2.2.2⟩
end Go.Proofs.YtefifkleamiabaaGreatDoor

namespace Go.Proofs.YtefifkleamiabaaGreatDoor
open Go.RowKit Go.Sort

/-- Null, or a small int. -/
def NS (v : Val) : Prop := v = ⟨0, 0, ⟨#[]⟩⟩ ∨ ∃ x : Nat, x < 8 ∧ v = ⟨1, (x : Int), ⟨#[]⟩⟩
end Go.Proofs.YtefifkleamiabaaGreatDoor

namespace Go.Proofs.YtefifkleamiabaaGreatDoor
open Go.RowKit Go.Sort

/-- An order's row. -/
def oRow (a b : Int) : Row := [⟨1, a, ⟨#[]⟩⟩, ⟨1, b, ⟨#[]⟩⟩, ⟨2, 0, ⟨#[]⟩⟩]
theorem oRow_ok {a b : Int} (ha : 0 ≤ a ∧ a < 7) (hb : 0 ≤ b ∧ b < 7) : RowC orderCols (oRow a b) where
  len := rfl
  err := fun v hv => by
    simp only [oRow, List.mem_cons, List.not_mem_nil, or_false] at hv
    rcases hv with rfl | rfl | rfl
    · exact iErr ha
    · exact iErr hb
    · decide +kernel
  col := by
    intro i h
    have h : i < 3 := h
    rcases i with _ | _ | _ | i
    · exact .inl ⟨rfl, by show (1 : Int) ≠ 0; omega⟩
    · exact .inl ⟨rfl, by show (1 : Int) ≠ 0; omega⟩
    · exact .inl ⟨rfl, by show (2 : Int) ≠ 0; omega⟩
    · omega
theorem iRow_g {a b : Nat} (ha : a < 7) (hb : b < 7) : RG itemCols (iRow a b) where
  fit := iRow_ok ⟨by omega, by omega⟩ ⟨by omega, by omega⟩
  key := rfl
  dig := by show a < 8; omega
  c1 := .inr ⟨b, by omega, rfl⟩
theorem oRow_g {a b : Nat} (ha : a < 7) (hb : b < 7) : RG orderCols (oRow a b) where
  fit := oRow_ok ⟨by omega, by omega⟩ ⟨by omega, by omega⟩
  key := rfl
  dig := by show a < 8; omega
  c1 := .inr ⟨b, by omega, rfl⟩

set_option maxRecDepth 100000 in
theorem orderRowW (x y : Int) (w : World) (hx : I64 x) (hy : I64 y) :
    Calls Tryz.prog 17 #[.int .i64 x, .int .i64 y] w fun e w' => e = .returned (.slice (some ⟨w.heap.size, 0, none⟩) 3 3) ∧ Elems 3 Val.cs w' (fun g => g = w.heap.size) (some ⟨w.heap.size, 0, none⟩) (oRow (md x 5 : Nat) (md y 5 : Nat)) ∧ Below w.heap.size w w' ∧ w'.heap.size = w.heap.size + 1 := by
  have HX := Lib.hid fun W => modW x 5 W hx (by omega) (by omega)
  have HY := Lib.hid fun W => modW y 5 W hy (by omega) (by omega)
  clear hx hy
  generalize md x 5 = m at *
  generalize md y 5 = n at *
  go_enter Tryz.func17, Tryz.ntmps17
  go_wp2_with fail
  refine (HX.out w).mono ?_
  rintro e w' ⟨rfl, rfl⟩
  go_wp2_with fail
  refine (HY.out w).mono ?_
  rintro e w' ⟨rfl, rfl⟩
  go_wp2_with fail
  go_ret
  exact ⟨rfl, elems_block valLay (xs := oRow (m : Nat) (n : Nat)) (heap_alloc_new w _) rfl (by show 3 ≤ maxLen; decide) rfl, (Below.refl _ _).alloc (Nat.le_refl _) _, by simp⟩

theorem BG.nil : BG (fun _ => []) := ⟨(fun _ _ r hr => by cases hr), (fun _ _ => List.Pairwise.nil)⟩

theorem tdiv_i64 {x d : Int} (hx : I64 x) (hd : d = 2 ∨ d = 8) : I64 (x.tdiv d) := by
  obtain ⟨h1, h2⟩ := hx
  have hdp : 0 < d := by omega
  rcases Int.le_total 0 x with h | h
  · rw [Int.tdiv_eq_ediv_of_nonneg h]
    have a := Int.ediv_nonneg h (Int.le_of_lt hdp)
    have b := Int.ediv_le_self d h
    exact ⟨by omega, by omega⟩
  · have e : x.tdiv d = -((-x).tdiv d) := by rw [Int.neg_tdiv, Int.neg_neg]
    have h' : 0 ≤ -x := by omega
    rw [e, Int.tdiv_eq_ediv_of_nonneg h']
    have a := Int.ediv_nonneg h' (Int.le_of_lt hdp)
    have b := Int.ediv_le_self d h'
    rcases hd with rfl | rfl
    · exact ⟨by omega, by omega⟩
    · exact ⟨by omega, by omega⟩
theorem chLay : Lay 4 ChM.cs := ⟨fun _ => rfl, fun x c hc => by simp [ChM.cs] at hc; rcases hc with rfl | rfl | rfl | rfl <;> rfl⟩
/-- One upsert. -/
def OneAns (W : World) (e : Ending) (w' : World) : Prop := ∃ R' v', e = .returned (.tuple #[v', .int .i64 0]) ∧ InB R' w' v' ∧ BG R' ∧ Below W.heap.size W w'
theorem applyOne {T IA IP OA OP F FC N : Option Addr} (R : Nat → List Row) (v : Value) (ch : ChM) (W : World) (hs : ScOk (· < W.heap.size) W (bSc T IA IP OA OP F FC N)) (hi : InB R W v) (hR : BG R) (hf : FitB ch) (hk : ch.kind = 1) (ho : ChOk (· < W.heap.size) W ch) :
    Calls Tryz.prog 11 #[.agg #[.slice T 2 2, .slice F 1 1, .slice N 1 1], v, .slice (some ⟨W.heap.size, 0, none⟩) 1 1] (W.alloc (.cells ch.cells 51)) (OneAns W) := by
  have ha : Below W.heap.size W (W.alloc (.cells ch.cells 51)) := (Below.refl _ _).alloc (Nat.le_refl _) _
  have hel : Elems 4 ChM.cs (W.alloc (.cells ch.cells 51)) (fun g => g = W.heap.size) (some ⟨W.heap.size, 0, none⟩) [ch] := elems_block chLay (heap_alloc_new W _) rfl (by show 1 ≤ maxLen; decide) rfl
  refine (rApplyB (bSc T IA IP OA OP F FC N) v _ 1 [ch] R _ (hs.on ha) ⟨IA, IP, OA, OP, rfl⟩ (fun W2 h2 => rValidateSchema _ W2 ((hs.on ha).on h2) bSc_ref) (hi.on ha) hR (hel.more fun g hg => by rw [hg]; simp) (fun c hc => by rw [List.mem_singleton.1 hc]; exact ho.on ha) (by show 1 ≤ 24; omega) (fun c hc => by rw [List.mem_singleton.1 hc]; exact hf)).mono ?_
  rintro e w' ⟨hb, ⟨R', Rs, v', -, rfl, hin, hbg, -⟩ | ⟨hno, -⟩⟩
  · exact ⟨Rs, v', rfl, hin, hbg, ha.trans (hb.mono ha.size)⟩
  · have hst : ¬ stopB ch R := fun h => by have := h.1; omega
    unfold runB at hno
    rw [if_neg hst] at hno
    cases hno
theorem kOk_nil {S : Nat → Prop} {W : World} : KOk S W ⟨none, 0, []⟩ := ⟨fun h => absurd h (Nat.not_lt_zero _), by show 0 ≤ 12; decide⟩
theorem fit_item {A B : Option Addr} {c d a b : Nat} (ha : a < 7) (hb : b < 7) : FitB ⟨1, nItem, ⟨A, c, []⟩, ⟨B, d, iRow (a : Int) (b : Int)⟩⟩ := by
  have e : tiOf ⟨1, nItem, ⟨A, c, []⟩, ⟨B, d, iRow (a : Int) (b : Int)⟩⟩ = 0 := rfl
  exact ⟨⟨rfl, by rw [e]; decide⟩, .inl ⟨rfl, rfl, by rw [e]; exact iRow_g ha hb⟩⟩
theorem fit_order {A B : Option Addr} {c d a b : Nat} (ha : a < 7) (hb : b < 7) : FitB ⟨1, nOrder, ⟨A, c, []⟩, ⟨B, d, oRow (a : Int) (b : Int)⟩⟩ := by
  have e : tiOf ⟨1, nOrder, ⟨A, c, []⟩, ⟨B, d, oRow (a : Int) (b : Int)⟩⟩ = 1 := tiOf_tab (by decide) rfl
  exact ⟨⟨by rw [e]; rfl, by rw [e]; decide⟩, .inl ⟨rfl, rfl, by rw [e]; exact oRow_g ha hb⟩⟩
theorem setCh4 {w : World} {g : Nat} {t : TypeId} {a b c d a' b' c' d' : Value} (h : w.heap[g]? = some (.cells #[a, b, c, d] t (0, 0))) :
    ((((w.setCell ⟨g, 0, none⟩ a').setCell ⟨g, 1, none⟩ b').setCell ⟨g, 2, none⟩ c').setCell ⟨g, 3, none⟩ d').heap[g]? = some (.cells #[a', b', c', d'] t (0, 0)) := by
  rw [heap_setCell_at (heap_setCell_at (heap_setCell_at (heap_setCell_at h _) _) _) _]
  rfl
/-- What baseInstance answers. -/
def BaseAns (w : World) (e : Ending) (w' : World) : Prop := ∃ R v, e = .returned v ∧ BG R ∧ InB R w' v ∧ Below w.heap.size w w'

set_option maxRecDepth 100000 in
set_option maxHeartbeats 8000000 in
theorem baseInstanceW (A : Option Addr) (c : Nat) (xs : List Int) (w : World) (hx : Elems 1 intCs w (· < w.heap.size) A xs) (hv : ∀ x ∈ xs, I64 x) (hl : (xs.length : Int) ≤ 9223372036854775807) (hcap : xs.length ≤ c) :
    Calls Tryz.prog 9 #[.slice A xs.length c] w (BaseAns w) := by
  obtain ⟨n, hn⟩ : ∃ n, xs.length = n := ⟨_, rfl⟩
  obtain ⟨m, hm⟩ : ∃ m, min n 10 = m := ⟨_, rfl⟩
  have hmin : min (n : Int) 10 = (m : Int) := by omega
  have hm10 : m ≤ 10 := by omega
  have hmn : (m : Int) ≤ (n : Int) := by omega
  have hmc : (m : Int) ≤ (c : Int) := by omega
  have HX := Lib.hid hx
  have HV := Lib.hid hv
  have HN := Lib.hid (And.intro hn hm)
  rw [hn]
  clear hx hv hn hm hcap hl
  go_enter Tryz.func9, Tryz.ntmps9
  go_wp2_with fail
  refine (baseSchemaW w).mono ?_
  rintro e w1 ⟨T, IA, IP, OA, OP, F, FC, N, rfl, hs1, hb1⟩
  rw [show (bSc T IA IP OA OP F FC N).v = .agg #[.slice T 2 2, .slice F 1 1, .slice N 1 1] from rfl]
  obtain ⟨w2, hw2⟩ : ∃ w2, w2 = w1.alloc (.cells #[.slice T 2 2, .slice F 1 1, .slice N 1 1] 27) := ⟨_, rfl⟩
  have hb2 : Below w1.heap.size w1 w2 := by rw [hw2]; exact (Below.refl _ _).alloc (Nat.le_refl _) _
  have hg2 : w2.heap[w1.heap.size]? = some (.cells #[.slice T 2 2, .slice F 1 1, .slice N 1 1] 27 (0, 0)) := by rw [hw2]; exact heap_alloc_new w1 _
  have hs2 : w1.heap.size < w2.heap.size := by rw [hw2]; simp
  have hb02 := hb1.trans (hb2.mono hb1.size)
  have HBX : Hid (∀ W, Below w2.heap.size w2 W → W.cell? ⟨w1.heap.size, 0, none⟩ = some (.slice T 2 2) ∧ W.cell? ⟨w1.heap.size, 1, none⟩ = some (.slice F 1 1) ∧ W.cell? ⟨w1.heap.size, 2, none⟩ = some (.slice N 1 1)) := Lib.hid fun W hW => by
    have h := (hW.block _ hs2).trans hg2
    exact ⟨cell_of_row _ _ 0 _ _ _ h, cell_of_row _ _ 1 _ _ _ h, cell_of_row _ _ 2 _ _ _ h⟩
  have HSC : Hid (∀ W, Below w2.heap.size w2 W → ScOk (· < W.heap.size) W (bSc T IA IP OA OP F FC N)) := Lib.hid fun W hW => (hs1.on hb2).on hW
  have HEM : Hid (Calls Tryz.prog 23 #[.agg #[.slice T 2 2, .slice F 1 1, .slice N 1 1]] w2 fun e w' => ∃ g, e = .returned (.slice (some ⟨g, 0, none⟩) 2 2) ∧ InB (fun _ => []) w' (.slice (some ⟨g, 0, none⟩) 2 2) ∧ Below w2.heap.size w2 w') := Lib.hid <| by
    refine (emptyOwn (bSc T IA IP OA OP F FC N) w2 (hs1.on hb2) rfl (fun _ => rfl) (fun _ => rfl)).mono ?_
    rintro e w' ⟨g, rfl, -, hei⟩
    exact ⟨g, rfl, ⟨_, _, _, _, _, _, _, _, rfl, hei.inst, rfl, rfl⟩, hei.2⟩
  obtain ⟨x0, x1, x2⟩ := HBX.out w2 (Below.refl _ _)
  have HB2 := Lib.hid hb02
  have HW2 := Lib.hid hw2
  clear hs1 hb1 hw2 hb2 hg2 hs2 hb02
  go_upto_region 2 with fail
  rw [← HW2.out]
  go_wp2_with fail
  refine HEM.out.mono ?_
  rintro e w3 ⟨g, rfl, hin3, hb3⟩
  clear x0 x1 x2
  have HB3 := Lib.hid (And.intro hin3 hb3)
  clear hin3 hb3
  go_wp2_with fail
  go_loopw [4, 19] (fun v4 vi wr => ∃ (k : Nat) (R : Nat → List Row), vi = .int .i64 (k : Int) ∧ k ≤ m ∧ InB R wr v4 ∧ BG R ∧ Below w2.heap.size w2 wr) (fun _ vi _ => m - (intOf vi).toNat)
  case atStart => exact ⟨0, _, rfl, by omega, HB3.out.1, BG.nil, HB3.out.2⟩
  case round =>
    clear HB3
    obtain ⟨k, R, rfl, hkm, hin, hbg, hb⟩ := hrel
    obtain ⟨wo, rfl⟩ : ∃ wo, wo = wr := ⟨_, rfl⟩
    obtain ⟨v4, rfl⟩ : ∃ v4, v4 = u4 := ⟨_, rfl⟩
    by_cases hlt : k < m
    · have hki : k < xs.length := by have := HN.out; omega
      have hb0 := HB2.out.trans (hb.mono HB2.out.size)
      obtain ⟨b, off, hA, -, p0⟩ : ∃ b off, A = some ⟨b, off, none⟩ ∧ True ∧ wo.cell? ⟨b, off + k, none⟩ = some (.int .i64 xs[k]) := by
        obtain ⟨b, off, e1, -, hcl⟩ := (HX.out.of fun g hg => ⟨hb0.block g hg, Nat.lt_of_lt_of_le hg hb0.size⟩ : Elems 1 intCs wo (· < wo.heap.size) A xs).at_ hki
        refine ⟨b, off, e1, trivial, ?_⟩
        have := hcl 0 (.int .i64 xs[k]) rfl
        simpa using this
      have hI := HV.out _ (List.getElem_mem hki)
      generalize xs[k] = x at *
      have h2 := tdiv_i64 hI (d := 2) (.inl rfl)
      have h8 := tdiv_i64 hI (d := 8) (.inr rfl)
      have HIT := Lib.hid (itemRowW (x.tdiv 2) (x.tdiv 8) wo h2 h8)
      have HOT := Lib.hid fun W => orderRowW (x.tdiv 2) (x.tdiv 8) W h2 h8
      have hlt' : (k : Int) < (m : Int) := by omega
      have HIN := Lib.hid (And.intro hin (And.intro hbg hb))
      obtain ⟨h2a, h2b⟩ := h2
      obtain ⟨h8a, h8b⟩ := h8
      obtain ⟨hIa, hIb⟩ := hI
      clear hin hbg hb hb0
      rw [hA]
      have hm5 := md_lt (k := x.tdiv 2) (n := 5) (by omega)
      have hm7 := md_lt (k := x.tdiv 8) (n := 7) (by omega)
      have hn5 := md_lt (k := x.tdiv 8) (n := 5) (by omega)
      have HM : Hid (md (x.tdiv 2) 5 < 7 ∧ md (x.tdiv 8) 7 < 7 ∧ md (x.tdiv 8) 5 < 7) := Lib.hid ⟨by omega, by omega, by omega⟩
      clear hm5 hm7 hn5
      go_wp2_with fail
      refine HIT.out.mono ?_
      rintro e w5 ⟨rfl, hel5, hb5, hs5⟩
      obtain ⟨w6, hw6⟩ : ∃ w6, w6 = w5.alloc (.cells #[.int .i64 1, .string ⟨#[105, 116, 101, 109]⟩, .slice none 0 0, .slice (some ⟨wo.heap.size, 0, none⟩) 4 4] 51) := ⟨_, rfl⟩
      have hb6 : Below w5.heap.size w5 w6 := by rw [hw6]; exact (Below.refl _ _).alloc (Nat.le_refl _) _
      have hg6 : w6.heap[w5.heap.size]? = some (.cells #[.int .i64 1, .string ⟨#[105, 116, 101, 109]⟩, .slice none 0 0, .slice (some ⟨wo.heap.size, 0, none⟩) 4 4] 51 (0, 0)) := by rw [hw6]; exact heap_alloc_new w5 _
      have hs6 : w5.heap.size < w6.heap.size := by rw [hw6]; simp
      have hbo6 : Below wo.heap.size wo w6 := hb5.trans (hb6.mono hb5.size)
      have hb26 := HIN.out.2.2.trans (hbo6.mono HIN.out.2.2.size)
      have c0 := cell_of_row _ _ 0 _ _ _ hg6
      have c1 := cell_of_row _ _ 1 _ _ _ hg6
      have c2 := cell_of_row _ _ 2 _ _ _ hg6
      have c3 := cell_of_row _ _ 3 _ _ _ hg6
      obtain ⟨x0, x1, x2⟩ := HBX.out w6 hb26
      have HAP : Hid (Calls Tryz.prog 11 #[.agg #[.slice T 2 2, .slice F 1 1, .slice N 1 1], v4, .slice (some ⟨w6.heap.size, 0, none⟩) 1 1] (w6.alloc (.cells #[.int .i64 1, .string ⟨#[105, 116, 101, 109]⟩, .slice none 0 0, .slice (some ⟨wo.heap.size, 0, none⟩) 4 4] 51)) (OneAns w6)) := Lib.hid (applyOne R v4 ⟨1, nItem, ⟨none, 0, []⟩, ⟨some ⟨wo.heap.size, 0, none⟩, 4, iRow (md (x.tdiv 2) 5 : Nat) (md (x.tdiv 8) 7 : Nat)⟩⟩ w6 (HSC.out w6 hb26) (HIN.out.1.on hbo6) HIN.out.2.1 (fit_item HM.out.1 HM.out.2.1) rfl
        ⟨kOk_nil, ⟨hel5.of fun g hg => ⟨hb6.block g (by omega), by omega⟩, by show 4 ≤ 12; decide⟩⟩)
      have H6 := Lib.hid (And.intro hbo6 (And.intro hb26 (And.intro hg6 (And.intro hs6 (And.intro hb5.size hs5)))))
      have HW6 := Lib.hid hw6
      clear hel5 hb5 hw6 hb6 hg6 hs6 hbo6 hb26 hs5
      by_cases hodd : x.tmod 2 = 0
      · go_upto_region 7 with fail
        rw [← HW6.out]
        go_wp2_with fail
        refine HAP.out.mono ?_
        rintro e w9 ⟨R9, v9, rfl, hin9, hbg9, hb9⟩
        have HF := Lib.hid (And.intro hin9 (And.intro hbg9 (H6.out.2.1.trans (hb9.mono H6.out.2.1.size))))
        clear hin9 hbg9 hb9
        go_wp2_with fail
        go_roundw
        case rel => exact ⟨k + 1, R9, by go_num, by omega, HF.out.1, HF.out.2.1, HF.out.2.2⟩
        case measure => simp [intOf]; omega
      · go_upto_region 7 with fail
        rw [← HW6.out]
        go_wp2_with fail
        refine (HOT.out w6).mono ?_
        rintro e w7 ⟨rfl, hel7, hb7, hs7⟩
        clear c0 c1 c2 c3 x0 x1 x2
        have hg7 := (hb7.block _ H6.out.2.2.2.1).trans H6.out.2.2.1
        have c0 := cell_of_row _ _ 0 _ _ _ hg7
        have c1 := cell_of_row _ _ 1 _ _ _ hg7
        have c2 := cell_of_row _ _ 2 _ _ _ hg7
        have c3 := cell_of_row _ _ 3 _ _ _ hg7
        have f0 := frozen_of_row _ _ 0 _ _ hg7
        have f1 := frozen_of_row _ _ 1 _ _ hg7
        have f2 := frozen_of_row _ _ 2 _ _ hg7
        have f3 := frozen_of_row _ _ 3 _ _ hg7
        obtain ⟨w8, hw8⟩ : ∃ w8, w8 = (((w7.setCell ⟨w5.heap.size, 0, none⟩ (.int .i64 1)).setCell ⟨w5.heap.size, 1, none⟩ (.string ⟨#[111, 114, 100, 101, 114]⟩)).setCell ⟨w5.heap.size, 2, none⟩ (.slice none 0 0)).setCell ⟨w5.heap.size, 3, none⟩ (.slice (some ⟨w6.heap.size, 0, none⟩) 3 3) := ⟨_, rfl⟩
        have hg8 : w8.heap[w5.heap.size]? = some (.cells #[.int .i64 1, .string ⟨#[111, 114, 100, 101, 114]⟩, .slice none 0 0, .slice (some ⟨w6.heap.size, 0, none⟩) 3 3] 51 (0, 0)) := by rw [hw8]; exact setCh4 hg7
        have hne8 : ∀ i, i ≠ w5.heap.size → w8.heap[i]? = w7.heap[i]? := fun i hi => by
          rw [hw8, Below.heap_setCell _ _ _ _ hi, Below.heap_setCell _ _ _ _ hi, Below.heap_setCell _ _ _ _ hi, Below.heap_setCell _ _ _ _ hi]
        have hs8 : w8.heap.size = w7.heap.size := by rw [hw8]; simp [World.setCell]
        have hso := H6.out.2.2.2.2.1
        have hso6 := H6.out.2.2.2.1
        have hbo7 : Below wo.heap.size wo w7 := H6.out.1.trans (hb7.mono H6.out.1.size)
        have hbo8 : Below wo.heap.size wo w8 := by
          rw [hw8]
          exact (((hbo7.setCell (p := ⟨w5.heap.size, 0, none⟩) hso _).setCell (p := ⟨w5.heap.size, 1, none⟩) hso _).setCell (p := ⟨w5.heap.size, 2, none⟩) hso _).setCell (p := ⟨w5.heap.size, 3, none⟩) hso _
        have hb28 := HIN.out.2.2.trans (hbo8.mono HIN.out.2.2.size)
        have HAQ : Hid (Calls Tryz.prog 11 #[.agg #[.slice T 2 2, .slice F 1 1, .slice N 1 1], v4, .slice (some ⟨w8.heap.size, 0, none⟩) 1 1] (w8.alloc (.cells #[.int .i64 1, .string ⟨#[111, 114, 100, 101, 114]⟩, .slice none 0 0, .slice (some ⟨w6.heap.size, 0, none⟩) 3 3] 51)) (OneAns w8)) := Lib.hid (applyOne R v4 ⟨1, nOrder, ⟨none, 0, []⟩, ⟨some ⟨w6.heap.size, 0, none⟩, 3, oRow (md (x.tdiv 2) 5 : Nat) (md (x.tdiv 8) 5 : Nat)⟩⟩ w8 (HSC.out w8 hb28) (HIN.out.1.on hbo8) HIN.out.2.1 (fit_order HM.out.1 HM.out.2.2) rfl
          ⟨kOk_nil, ⟨hel7.of fun g hg => ⟨hne8 g (by omega), by omega⟩, by show 3 ≤ 12; decide⟩⟩)
        obtain ⟨x0, x1, x2⟩ := HBX.out w8 hb28
        have d0 := cell_of_row _ _ 0 _ _ _ hg8
        have d1 := cell_of_row _ _ 1 _ _ _ hg8
        have d2 := cell_of_row _ _ 2 _ _ _ hg8
        have d3 := cell_of_row _ _ 3 _ _ _ hg8
        have H8 := Lib.hid hb28
        have HW8 := Lib.hid hw8
        clear hel7 hb7 hs7 hg7 hw8 hg8 hne8 hs8 hso hso6 hbo7 hbo8 hb28 HAP
        go_upto_region 9 with fail
        rw [← HW8.out]
        go_wp2_with fail
        refine HAQ.out.mono ?_
        rintro e w9 ⟨R9, v9, rfl, hin9, hbg9, hb9⟩
        have HF := Lib.hid (And.intro hin9 (And.intro hbg9 (H8.out.trans (hb9.mono H8.out.size))))
        clear hin9 hbg9 hb9
        go_wp2_with fail
        go_roundw
        case rel => exact ⟨k + 1, R9, by go_num, by omega, HF.out.1, HF.out.2.1, HF.out.2.2⟩
        case measure => simp [intOf]; omega
    · have HF := Lib.hid (And.intro hbg (And.intro hin (HB2.out.trans (hb.mono HB2.out.size))))
      clear hin hbg hb
      go_wp2_with fail
      go_ret
      exact ⟨R, _, rfl, HF.out.1, HF.out.2.1, HF.out.2.2⟩
end Go.Proofs.YtefifkleamiabaaGreatDoor

namespace Go.Proofs.YtefifkleamiabaaGreatDoor
open Go.RowKit Go.Sort

theorem quietAt {P : Program} {f : FuncId} {args : Array Value} {w : World} {n x : Nat} {v : Value}
    (h : Calls P f args (w.drewN (n + x)) fun e w' => e = .returned v ∧ ∃ m, w' = (w.drewN (n + x)).drewN m) : Calls P f args (w.drewN (n + x)) fun e w'' => e = .returned v ∧ ∃ m, w'' = w.drewN (n + m) :=
  h.mono fun _ _ ⟨he, m, hm⟩ => ⟨he, x + m, by rw [hm, World.drewN_drewN, Nat.add_assoc]⟩

set_option maxRecDepth 100000 in
set_option maxHeartbeats 1000000 in
theorem rowListsEqualK (A B : Option Addr) (c d n : Nat) (ks js : List Key) (w : World) (hx : RsOk (· < w.heap.size) w A ks) (hy : RsOk (· < w.heap.size) w B js) (he : ks.map Key.row = js.map Key.row) (hn : n = ks.length) (hl : n ≤ 1000) :
    Calls Tryz.prog 43 #[.slice A n c, .slice B n d] w fun e w' => e = .returned (.bool true) ∧ ∃ n, w' = w.drewN n := by
  have hlen : js.length = n := by have h := congrArg List.length he; rw [List.length_map, List.length_map] at h; omega
  have HX := Lib.hid hx
  have HY := Lib.hid hy
  have HN := Lib.hid (And.intro hn (And.intro hlen he))
  clear hx hy he hn hlen
  go_enter Tryz.func43, Tryz.ntmps43
  go_wp2_with fail
  go_loopw [13] (fun i wr => ∃ k m : Nat, k ≤ n ∧ i = .int .i64 k ∧ wr = w.drewN m) (fun i _ => n - (intOf i).toNat)
  case atStart => exact ⟨0, 0, by omega, rfl, rfl⟩
  case round =>
    obtain ⟨k, m, hk, rfl, rfl⟩ := hrel
    by_cases hlt : k < n
    · have h1 : k < ks.length := by have := HN.out.1; omega
      have h2 : k < js.length := by have := HN.out.2.1; omega
      obtain ⟨b, off, rfl, _, c0⟩ := HX.out.el.key h1
      obtain ⟨b', off', rfl, _, c1⟩ := HY.out.el.key h2
      have hi1 : (k : Int) < (n : Int) := by omega
      have hi0 : (0 : Int) ≤ (k : Int) := by omega
      have hr1 := HX.out.row _ (List.getElem_mem h1)
      have hr2 := HY.out.row _ (List.getElem_mem h2)
      have hrow : ks[k].row = js[k].row := by
        have h := congrArg (fun l => l[k]?) HN.out.2.2
        simp only [List.getElem?_map, List.getElem?_eq_getElem h1, List.getElem?_eq_getElem h2, Option.map_some] at h
        exact Option.some.inj h
      have HRE := Lib.hid fun (W : World) (hW : W.heap = w.heap) => rowsEqual ks[k].A js[k].A ks[k].c js[k].c ks[k].row js[k].row W (· < w.heap.size) (· < w.heap.size) (hr1.el.keep fun _ _ => by rw [hW]) (hr2.el.keep fun _ _ => by rw [hW]) (by have := hr1.len; unfold maxLen; omega) (by have := hr2.len; unfold maxLen; omega)
      rw [decide_eq_true hrow] at HRE
      clear hr1 hr2 hrow
      generalize ks[k] = x at *
      generalize js[k] = y at *
      go_wp2_with fail
      go_quiet (first | (go_at_call 42; exact quietAt (HRE.out _ rfl)))
      go_wp2_with fail
      go_roundw
      case rel => exact ⟨k + 1, _, by omega, by go_num, rfl⟩
      case measure => simp [intOf]; omega
    · go_wp2_with fail
      go_ret
      exact ⟨rfl, _, rfl⟩

set_option maxRecDepth 100000 in
set_option maxHeartbeats 1000000 in
theorem instancesEqualK (A B : Option Addr) (c d n : Nat) (rs ss : List RelM) (w : World) (hx : InOk (· < w.heap.size) w A rs) (hy : InOk (· < w.heap.size) w B ss) (he : rs.map RelM.d = ss.map RelM.d) (hn : n = rs.length) (hl : n ≤ 1000) (hr : ∀ r ∈ rs, r.rows.length ≤ 1000) :
    Calls Tryz.prog 14 #[.slice A n c, .slice B n d] w fun e w' => e = .returned (.bool true) ∧ ∃ n, w' = w.drewN n := by
  have hlen : ss.length = n := by have h := congrArg List.length he; rw [List.length_map, List.length_map] at h; omega
  have HX := Lib.hid hx
  have HY := Lib.hid hy
  have HN := Lib.hid (And.intro hn (And.intro hlen (And.intro he hr)))
  clear hx hy he hn hlen hr
  go_enter Tryz.func14, Tryz.ntmps14
  go_wp2_with fail
  go_loopw [13] (fun i wr => ∃ k m : Nat, k ≤ n ∧ i = .int .i64 k ∧ wr = w.drewN m) (fun i _ => n - (intOf i).toNat)
  case atStart => exact ⟨0, 0, by omega, rfl, rfl⟩
  case round =>
    obtain ⟨k, m, hk, rfl, rfl⟩ := hrel
    by_cases hlt : k < n
    · have h1 : k < rs.length := by have := HN.out.1; omega
      have h2 : k < ss.length := by have := HN.out.2.1; omega
      obtain ⟨b, off, rfl, _, c0, c1⟩ := HX.out.el.rel h1
      obtain ⟨b', off', rfl, _, d0, d1⟩ := HY.out.el.rel h2
      have hi1 : (k : Int) < (n : Int) := by omega
      have hi0 : (0 : Int) ≤ (k : Int) := by omega
      have hr1 := HX.out.rel _ (List.getElem_mem h1)
      have hr2 := HY.out.rel _ (List.getElem_mem h2)
      have hd : rs[k].d = ss[k].d := by
        have h := congrArg (fun l => l[k]?) HN.out.2.2.1
        simp only [List.getElem?_map, List.getElem?_eq_getElem h1, List.getElem?_eq_getElem h2, Option.map_some] at h
        exact Option.some.inj h
      have hnm : rs[k].name = ss[k].name := congrArg Prod.fst hd
      have hrw : rs[k].rows.map Key.row = ss[k].rows.map Key.row := congrArg Prod.snd hd
      have hll : ss[k].rows.length = rs[k].rows.length := by have h := congrArg List.length hrw; rw [List.length_map, List.length_map] at h; omega
      have hl24 := HN.out.2.2.2 _ (List.getElem_mem h1)
      rw [← hnm] at d0
      rw [hll] at d1
      have HRE := Lib.hid fun (W : World) (hW : W.heap = w.heap) => rowListsEqualK rs[k].A ss[k].A rs[k].c ss[k].c rs[k].rows.length rs[k].rows ss[k].rows W ((hr1.keep fun _ _ => by rw [hW]).more fun g hg => by rw [hW]; exact hg) ((hr2.keep fun _ _ => by rw [hW]).more fun g hg => by rw [hW]; exact hg) hrw rfl hl24
      clear hr1 hr2 hd hnm hrw hll hl24
      generalize rs[k] = x at *
      generalize ss[k] = y at *
      obtain ⟨nm, xA, xc, xr⟩ := x
      simp only at *
      have hg : decide (nm = nm) = true := by simp
      go_wp2_with fail
      go_quiet (first | (go_at_call 43; exact quietAt (HRE.out _ rfl)))
      go_wp2_with fail
      go_roundw
      case rel => exact ⟨k + 1, _, by omega, by go_num, rfl⟩
      case measure => simp [intOf]; omega
    · go_wp2_with fail
      go_ret
      exact ⟨rfl, _, rfl⟩
end Go.Proofs.YtefifkleamiabaaGreatDoor

namespace Go.Proofs.YtefifkleamiabaaGreatDoor
open Go.RowKit Go.Sort

/-- A change's data. -/
def ChM.d (c : ChM) : Int × ByteArray × Row × Row := (c.kind, c.name, c.key.row, c.row.row)
theorem Elems.chmAt {w : World} {S : Nat → Prop} {A : Option Addr} {r : List ChM} {k : Nat} (h : Elems 4 ChM.cs w S A r) (hk : k < r.length) : ∃ b off, A = some ⟨b, off, none⟩ ∧ S b ∧ w.cell? ⟨b, off + k * 4, none⟩ = some (.int .i64 r[k].kind) ∧ w.cell? ⟨b, off + k * 4 + 1, none⟩ = some (.string r[k].name) ∧ w.cell? ⟨b, off + k * 4 + 2, none⟩ = some (.slice r[k].key.A r[k].key.row.length r[k].key.c) ∧ w.cell? ⟨b, off + k * 4 + 3, none⟩ = some (.slice r[k].row.A r[k].row.row.length r[k].row.c) := by
  obtain ⟨b, off, e, hb, hc⟩ := h.at_ hk
  exact ⟨b, off, e, hb, hc 0 _ rfl, hc 1 _ rfl, hc 2 _ rfl, hc 3 _ rfl⟩

set_option maxRecDepth 100000 in
set_option maxHeartbeats 4000000 in
theorem changesEqualK (A B : Option Addr) (c d n : Nat) (xs ys : List ChM) (w : World) (hx : Elems 4 ChM.cs w (· < w.heap.size) A xs) (hy : Elems 4 ChM.cs w (· < w.heap.size) B ys) (hxo : ∀ x ∈ xs, ChOk (· < w.heap.size) w x) (hyo : ∀ y ∈ ys, ChOk (· < w.heap.size) w y) (he : xs.map ChM.d = ys.map ChM.d) (hn : n = xs.length) (hl : n ≤ 1000) :
    Calls Tryz.prog 13 #[.slice A n c, .slice B n d] w fun e w' => e = .returned (.bool true) ∧ ∃ n, w' = w.drewN n := by
  have hlen : ys.length = n := by have h := congrArg List.length he; rw [List.length_map, List.length_map] at h; omega
  have HX := Lib.hid (And.intro hx hxo)
  have HY := Lib.hid (And.intro hy hyo)
  have HN := Lib.hid (And.intro hn (And.intro hlen he))
  clear hx hy hxo hyo he hn hlen
  go_enter Tryz.func13, Tryz.ntmps13
  go_wp2_with fail
  go_loopw [13] (fun i wr => ∃ k m : Nat, k ≤ n ∧ i = .int .i64 k ∧ wr = w.drewN m) (fun i _ => n - (intOf i).toNat)
  case atStart => exact ⟨0, 0, by omega, rfl, rfl⟩
  case round =>
    obtain ⟨k, m, hk, rfl, rfl⟩ := hrel
    by_cases hlt : k < n
    · have h1 : k < xs.length := by have := HN.out.1; omega
      have h2 : k < ys.length := by have := HN.out.2.1; omega
      obtain ⟨b, off, rfl, _, c0, c1, c2, c3⟩ := HX.out.1.chmAt h1
      obtain ⟨b', off', rfl, _, d0, d1, d2, d3⟩ := HY.out.1.chmAt h2
      have hi1 : (k : Int) < (n : Int) := by omega
      have hi0 : (0 : Int) ≤ (k : Int) := by omega
      have hr1 := HX.out.2 _ (List.getElem_mem h1)
      have hr2 := HY.out.2 _ (List.getElem_mem h2)
      have hd : xs[k].d = ys[k].d := by
        have h := congrArg (fun l => l[k]?) HN.out.2.2
        simp only [List.getElem?_map, List.getElem?_eq_getElem h1, List.getElem?_eq_getElem h2, Option.map_some] at h
        exact Option.some.inj h
      have hki : xs[k].kind = ys[k].kind := congrArg Prod.fst hd
      have hnm : xs[k].name = ys[k].name := congrArg (fun p => p.2.1) hd
      have hke : xs[k].key.row = ys[k].key.row := congrArg (fun p => p.2.2.1) hd
      have hrw : xs[k].row.row = ys[k].row.row := congrArg (fun p => p.2.2.2) hd
      have HRK := Lib.hid fun (m : Nat) => rowsEqual xs[k].key.A ys[k].key.A xs[k].key.c ys[k].key.c xs[k].key.row ys[k].key.row (w.drewN m) (· < w.heap.size) (· < w.heap.size) (hr1.key.el.keep fun _ _ => rfl) (hr2.key.el.keep fun _ _ => rfl) (by have := hr1.key.len; unfold maxLen; omega) (by have := hr2.key.len; unfold maxLen; omega)
      have HRR := Lib.hid fun (m : Nat) => rowsEqual xs[k].row.A ys[k].row.A xs[k].row.c ys[k].row.c xs[k].row.row ys[k].row.row (w.drewN m) (· < w.heap.size) (· < w.heap.size) (hr1.row.el.keep fun _ _ => rfl) (hr2.row.el.keep fun _ _ => rfl) (by have := hr1.row.len; unfold maxLen; omega) (by have := hr2.row.len; unfold maxLen; omega)
      rw [decide_eq_true hke] at HRK
      rw [decide_eq_true hrw] at HRR
      rw [← hki] at d0
      rw [← hnm] at d1
      clear hr1 hr2 hd hki hnm hke hrw
      generalize xs[k] = x at *
      generalize ys[k] = y at *
      have hg1 : (x.kind != x.kind) = false := by simp
      have hg2 : decide (x.name = x.name) = true := by simp
      go_wp2_with fail
      go_quiet (first | (go_at_call 42; first | (with_reducible exact quietAt (HRK.out _)) | (with_reducible exact quietAt (HRR.out _))))
      go_wp2_with fail
      go_roundw
      case rel => exact ⟨k + 1, _, by omega, by go_num, rfl⟩
      case measure => simp [intOf]; omega
    · go_wp2_with fail
      go_ret
      exact ⟨rfl, _, rfl⟩

end Go.Proofs.YtefifkleamiabaaGreatDoor

namespace Go.Proofs.YtefifkleamiabaaGreatDoor
open Go.RowKit Go.Sort

/-- The executor is made. -/
def ExN (B : Nat) (s : Sc) (TA : Option Addr) (tc : Nat) (ts : List Tr) (R : Nat → List Row) (v13 : Value) (wx : World) : Prop :=
  ∃ px A4 c4 rs', v13 = ptr px ∧ XIn B px s TA tc ts A4 c4 rs' (.slice none 0 0) [] wx ∧ rs'.map RelM.d = bD R
/-- The executor behind some changes. -/
def XS (B px : Nat) (s : Sc) (TA : Option Addr) (tc : Nat) (ts : List Tr) (Inv : Nat → List ChM → (Nat → List Row) → Prop) (i : Nat) (w wr : World) : Prop :=
  ∃ IA ic rs va qs R, XIn B px s TA tc ts IA ic rs va qs wr ∧ rs.map RelM.d = bD R ∧ BG R ∧ (∀ q ∈ qs, ChOk (Free px va wr) wr q) ∧ Inv i qs R ∧ Below B w wr
/-- What Expand answers. -/
def ExpA (Inv : Nat → List ChM → (Nat → List Row) → Prop) (chs : List ChM) (w : World) (e : Ending) (w' : World) : Prop :=
  (∃ qs R2 QA qc v, e = .returned (.tuple #[.slice QA qs.length qc, v, .int .i64 0]) ∧ Inv chs.length qs R2 ∧ BG R2 ∧ Elems 4 ChM.cs w' (· < w'.heap.size) QA qs ∧ (∀ q ∈ qs, ChOk (· < w'.heap.size) w' q) ∧ InB R2 w' v ∧ Below w.heap.size w w')
  ∨ (∃ i qs R', ∃ hi : i < chs.length, Inv i qs R' ∧ BG R' ∧ stopN chs[i] R' = true ∧ e = .returned (.tuple #[.slice none 0 0, .slice none 0 0, .int .i64 9]) ∧ Below w.heap.size w w')
/-- The same change, elsewhere in memory. -/
theorem stopN_d {c c' : ChM} (h : c'.d = c.d) (R : Nat → List Row) : stopN c' R = stopN c R := by
  obtain ⟨h1, h2⟩ := Prod.mk.inj h
  obtain ⟨h2, h3⟩ := Prod.mk.inj h2
  obtain ⟨h3, h4⟩ := Prod.mk.inj h3
  unfold stopN tiOf kkOf
  rw [h1, h2, h3, h4]
theorem fit_d {c c' : ChM} (h : c'.d = c.d) (hf : FitB c) : FitB c' := by
  obtain ⟨k, n, ⟨A, ac, kr⟩, ⟨B, bc, rr⟩⟩ := c
  obtain ⟨k', n', ⟨A', ac', kr'⟩, ⟨B', bc', rr'⟩⟩ := c'
  obtain ⟨h1, h2⟩ := Prod.mk.inj h
  obtain ⟨h2, h3⟩ := Prod.mk.inj h2
  obtain ⟨h3, h4⟩ := Prod.mk.inj h3
  have h1 : k' = k := h1
  have h2 : n' = n := h2
  have h3 : kr' = kr := h3
  have h4 : rr' = rr := h4
  subst h1 h2 h3 h4
  exact ⟨hf.tab, hf.fit⟩
theorem casc_bg {fire : Bool} {ch : ChM} {R R2 : Nat → List Row} {ds : List ChM} (h : Casc fire ch R ds R2) (hb : BG R) (hf : FitB ch) : BG R2 := by
  rcases h with ⟨-, rfl, -⟩ | ⟨-, d, -, -, hfd, -, rfl⟩
  · exact nextB_bg hb hf
  · exact nextB_bg (nextB_bg hb hf) hfd

set_option maxRecDepth 100000 in
set_option maxHeartbeats 8000000 in
theorem expandN {trig : Bool} {ts : List Tr} (hT : Trg trig ts) (s : Sc) (TA IA CA : Option Addr) (tc ic cc : Nat) (rs : List RelM) (chs : List ChM) (R : Nat → List Row) (Inv : Nat → List ChM → (Nat → List Row) → Prop) (w : World) (hs : BV s) (hsc : ScOk (· < w.heap.size) w s) (htg : TgOk (· < w.heap.size) w TA ts) (htc : ∀ t ∈ ts, TrC s t) (hin : InOk (· < w.heap.size) w IA rs) (hd : rs.map RelM.d = bD R) (hbg : BG R)
    (hel : Elems 4 ChM.cs w (· < w.heap.size) CA chs) (hco : ∀ c ∈ chs, ChOk (· < w.heap.size) w c) (hf : ∀ c ∈ chs, FitB c) (hl : chs.length ≤ 8) (h0 : Inv 0 [] R)
    (hstep : ∀ i qs R' ch' ds R2, (hi : i < chs.length) → Inv i qs R' → BG R' → ch'.d = chs[i].d → FitB ch' → stopN ch' R' = false → Casc (fires trig ch') ch' R' ds R2 → Inv (i + 1) (qs ++ ch' :: ds) R2) (hlen : ∀ i qs R', Inv i qs R' → qs.length ≤ 2 * i) :
    Calls Tryz.prog 12 #[s.v, .slice IA 2 ic, .slice TA ts.length tc, .slice CA chs.length cc] w (ExpA Inv chs w) := by
  have hrl : rs.length = 2 := by
    have h := congrArg List.length hd
    rwa [List.length_map] at h
  have hfit := hs.fit hbg hd
  have hts : ts.length ≤ 8 := by rcases hT with ⟨-, rfl⟩ | ⟨-, RA, RB, rfl⟩ <;> simp
  obtain ⟨n, hn⟩ : ∃ n, chs.length = n := ⟨_, rfl⟩
  obtain ⟨w1, hw1⟩ : ∃ w1, w1 = w.alloc (.cells s.cells 27) := ⟨_, rfl⟩
  have hb1 : Below w.heap.size w w1 := by rw [hw1]; exact (Below.refl _ _).alloc (Nat.le_refl _) _
  have hg1 : w1.heap[w.heap.size]? = some (.cells s.cells 27 (0, 0)) := by rw [hw1]; exact heap_alloc_new w _
  have hs1 : w.heap.size < w1.heap.size := by rw [hw1]; simp
  have HBK : Hid (∀ W, Below w1.heap.size w1 W → W.cell? ⟨w.heap.size, 0, none⟩ = some (.slice s.TA s.tabs.length s.tc) ∧ W.cell? ⟨w.heap.size, 1, none⟩ = some (.slice s.FA s.fks.length s.fc) ∧ W.cell? ⟨w.heap.size, 2, none⟩ = some (.slice s.NA s.cns.length s.nc)) := Lib.hid fun W hW => by
    have h0 := (hW.block w.heap.size hs1).trans hg1
    unfold Sc.cells at h0
    exact ⟨cell_of_row _ _ 0 _ _ _ h0, cell_of_row _ _ 1 _ _ _ h0, cell_of_row _ _ 2 _ _ _ h0⟩
  have HCT := Lib.hid fun W (hW : Below w.heap.size w W) => checkTriggers s TA tc ts W (hsc.on hW) hs.val (htg.on hW) htc hts
  have HCF := Lib.hid fun W (hW : Below w.heap.size w W) => conforms s IA ic rs W (hsc.on hW) (hin.on hW) hfit
  obtain ⟨tl, htl⟩ : ∃ tl, ts.length = tl := ⟨_, rfl⟩
  have HCL : Hid (∀ W, Below w.heap.size w W → Calls Tryz.prog 39 #[.slice IA 2 ic] W fun e w4 => ∃ A4 c4, e = .returned (.slice A4 2 c4) ∧ Below W.heap.size W w4 ∧ Hid (ExN w.heap.size s TA tc ts R (ptr w4.heap.size) (w4.alloc (.cells #[.slice s.TA s.tabs.length s.tc, .slice s.FA s.fks.length s.fc, .slice s.NA s.cns.length s.nc, .slice TA tl tc, .slice A4 2 c4, .slice none 0 0] 96)))) := Lib.hid fun W hW => by
    have h := instClone IA ic rs W (hin.on hW) (by omega) (fun r hr => by
      obtain ⟨j, hj, rfl⟩ := List.getElem_of_mem hr
      have := (hfit.rel j hj (by rw [← hfit.len]; exact hj)).len
      omega)
    rw [hrl] at h
    refine h.mono ?_
    rintro e w4 ⟨v4, rs', rfl, ho⟩
    have hl' : rs'.length = 2 := by
      have h := congrArg List.length ho.dat
      rwa [List.length_map, List.length_map, hrl] at h
    obtain ⟨A4, c4, rfl, -, -⟩ := ho.own.form
    rw [hl'] at ho ⊢
    refine ⟨A4, c4, rfl, ho.bel, Lib.hid ⟨_, A4, c4, rs', rfl, ?_, ho.dat.trans hd⟩⟩
    obtain ⟨w5, hw5⟩ : ∃ w5, w5 = w4.alloc (.cells #[.slice s.TA s.tabs.length s.tc, .slice s.FA s.fks.length s.fc, .slice s.NA s.cns.length s.nc, .slice TA tl tc, .slice A4 2 c4, .slice none 0 0] 96) := ⟨_, rfl⟩
    have hb5 : Below w4.heap.size w4 w5 := by rw [hw5]; exact (Below.refl _ _).alloc (Nat.le_refl _) _
    have hg5 : w5.heap[w4.heap.size]? = some (.cells #[.slice s.TA s.tabs.length s.tc, .slice s.FA s.fks.length s.fc, .slice s.NA s.cns.length s.nc, .slice TA tl tc, .slice A4 2 c4, .slice none 0 0] 96 (0, 0)) := by rw [hw5]; exact heap_alloc_new w4 _
    rw [← hw5]
    have hbW := hW.trans (ho.bel.mono hW.size)
    have hb05 := hbW.trans (hb5.mono hbW.size)
    refine ⟨hbW.size, ?_, hsc.keep (Keeps.of_below hb05 fun _ h => h), htg.keep (Keeps.of_below hb05 fun _ h => h), ?_, Own.nil _, by intro h; cases h⟩
    · unfold exC
      rw [hl', htl]
      exact hg5
    · have hi : InOk (· < w4.heap.size) w4 A4 rs' := ho.inOk
      have hs5 := hb5.size
      have hlt : w4.heap.size < w5.heap.size := by rw [hw5]; simp
      exact (hi.keep (Keeps.of_below hb5 fun _ h => h)).more fun g hg => ⟨by omega, by omega, by intro h; cases h⟩
  have HCC := Lib.hid fun W (hW : Below w.heap.size w W) c (hc : c ∈ chs) => cloneChange c W ((hco c hc).on hW)
  have HEL := Lib.hid hel
  have HST := Lib.hid (And.intro hstep (And.intro hlen hf))
  have H0 := Lib.hid (And.intro h0 hbg)
  have HT := Lib.hid (And.intro hT hs)
  have HN := Lib.hid hn
  have hl : n ≤ 8 := by omega
  have HB1 := Lib.hid hb1
  have HW1 := Lib.hid hw1
  rw [hrl] at HCF
  rw [htl] at HCT ⊢
  obtain ⟨c0, c1, c2⟩ := HBK.out w1 (Below.refl _ _)
  unfold Sc.cells at HW1
  unfold Sc.v Sc.cells at HCT HCF ⊢
  unfold ChM.cells at HCC
  rw [hn]
  clear hs hsc htg htc hin hd hel hco hrl hfit hb1 hg1 hs1 hw1 hstep hlen hf h0 hbg hT hn hts htl
  go_enter Tryz.func12, Tryz.ntmps12
  go_upto_region 1 with fail
  rw [← HW1.out]
  go_wp2_with fail
  refine (HCT.out w1 HB1.out).mono ?_
  rintro e w2 ⟨rfl, hb2⟩
  have HB2 := Lib.hid (And.intro hb2 (HB1.out.trans (hb2.mono HB1.out.size)))
  clear hb2 c0 c1 c2 HCT
  obtain ⟨c0, c1, c2⟩ := HBK.out w2 HB2.out.1
  go_wp2_with fail
  refine (HCF.out w2 HB2.out.2).mono ?_
  rintro e w3 ⟨rfl, hb3⟩
  have HB3 := Lib.hid (And.intro (HB2.out.1.trans (hb3.mono HB2.out.1.size)) (HB2.out.2.trans (hb3.mono HB2.out.2.size)))
  clear hb3 c0 c1 c2 HCF
  obtain ⟨c0, c1, c2⟩ := HBK.out w3 HB3.out.1
  go_upto_region 7 with fail
  go_cut [13] from 29 to 34 (fun v13 wx => ExN w.heap.size s TA tc ts R v13 wx ∧ Below w.heap.size w wx)
  case first =>
    have HC4 : Hid (∀ m, Calls Tryz.prog 39 #[.slice IA 2 ic] (w3.drewN m) fun e w4 => ∃ A4 c4, e = .returned (.slice A4 2 c4) ∧ (w4.cell? ⟨w.heap.size, 0, none⟩ = some (.slice s.TA s.tabs.length s.tc) ∧ w4.cell? ⟨w.heap.size, 1, none⟩ = some (.slice s.FA s.fks.length s.fc) ∧ w4.cell? ⟨w.heap.size, 2, none⟩ = some (.slice s.NA s.cns.length s.nc))
        ∧ Hid (Below w.heap.size w w4) ∧ Hid (∀ o, (w4.alloc o).cell? ⟨w.heap.size, 0, none⟩ = some (.slice s.TA s.tabs.length s.tc) ∧ (w4.alloc o).cell? ⟨w.heap.size, 1, none⟩ = some (.slice s.FA s.fks.length s.fc) ∧ (w4.alloc o).cell? ⟨w.heap.size, 2, none⟩ = some (.slice s.NA s.cns.length s.nc))
        ∧ Hid (ExN w.heap.size s TA tc ts R (ptr w4.heap.size) (w4.alloc (.cells #[.slice s.TA s.tabs.length s.tc, .slice s.FA s.fks.length s.fc, .slice s.NA s.cns.length s.nc, .slice TA tl tc, .slice A4 2 c4, .slice none 0 0] 96)))) := Lib.hid fun m => by
      have hd : Below w3.heap.size w3 (w3.drewN m) := below_drewN (Below.refl _ _) m
      refine (HCL.out (w3.drewN m) (HB3.out.2.trans (hd.mono HB3.out.2.size))).mono ?_
      rintro e w4 ⟨A4, c4, rfl, hb4, hex⟩
      have hb34 := hd.trans hb4
      have h14 := HB3.out.1.trans (hb34.mono HB3.out.1.size)
      exact ⟨A4, c4, rfl, HBK.out w4 h14, Lib.hid (HB3.out.2.trans (hb34.mono HB3.out.2.size)), Lib.hid fun o => HBK.out _ (h14.alloc h14.size o), hex⟩
    clear HCL
    go_region_held3 (fun W => W.cell? ⟨w.heap.size, 0, none⟩ = some (.slice s.TA s.tabs.length s.tc) ∧ W.cell? ⟨w.heap.size, 1, none⟩ = some (.slice s.FA s.fks.length s.fc) ∧ W.cell? ⟨w.heap.size, 2, none⟩ = some (.slice s.NA s.cns.length s.nc)) (first | exact ⟨c0, c1, c2⟩ | exact s4 | exact HSA.out _)
      (first
      | (go_at_call 39; refine (HC4.out 1).mono ?_; rintro e w4 ⟨A4, c4, rfl, s4, HB4, HSA, HEX⟩))
    all_goals
      clear s4
      go_wp2_with fail
      go_meet
      exact ⟨HEX.out, HB4.out.alloc HB4.out.size _⟩
  case rest =>
    obtain ⟨⟨px, A4, c4, rs', rfl, hx, hd4⟩, hb5⟩ := hcut
    obtain ⟨w5, rfl⟩ : ∃ w5, w5 = wc := ⟨_, rfl⟩
    have HX : Hid (XS w.heap.size px s TA tc ts Inv 0 w w5) := Lib.hid ⟨A4, c4, rs', _, [], R, hx, hd4, H0.out.2, (fun q hq => by cases hq), H0.out.1, hb5⟩
    have HB5 := Lib.hid (And.intro hb5 hx.lt)
    clear hx hd4 hb5 c0 c1 c2 HCL HBK
    go_wp2_with fail
    go_loopw [37] (fun vi wr => ∃ i : Nat, vi = .int .i64 (i : Int) ∧ i ≤ n ∧ XS w.heap.size px s TA tc ts Inv i w wr) (fun vi _ => n - (intOf vi).toNat)
    case atStart => exact ⟨0, rfl, by omega, HX.out⟩
    case round =>
      obtain ⟨i, rfl, hin, IA6, ic6, rs6, va6, qs, R', hx, hd6, hbg, hcos, hinv, hbw⟩ := hrel
      obtain ⟨wo, rfl⟩ : ∃ wo, wo = wr := ⟨_, rfl⟩
      by_cases hlt : i < n
      · have hic : i < chs.length := by have := HN.out; omega
        have hlt' : (i : Int) < (n : Int) := by omega
        obtain ⟨b1, off, hCA, -, e0, e1, e2, e3⟩ := (HEL.out.on hbw).chmAt hic
        have HCH1 := Lib.hid fun W (hW : Below w.heap.size w W) => HCC.out W hW chs[i] (List.getElem_mem hic)
        have HFI := Lib.hid (HST.out.2.2 _ (List.getElem_mem hic))
        have hstep := fun ch' ds R2 => HST.out.1 i qs R' ch' ds R2 hic hinv hbg
        have hql := HST.out.2.1 i qs R' hinv
        have HSTOP : Hid (∀ w', Below w.heap.size w w' → stopN chs[i] R' = true → ExpA Inv chs w (.returned (.tuple #[.slice none 0 0, .slice none 0 0, .int .i64 9])) w') := Lib.hid fun w' hb hst => .inr ⟨i, qs, R', hic, hinv, hbg, hst, rfl, hb⟩
        generalize chs[i] = ch at *
        obtain ⟨w6, hw6⟩ : ∃ w6, w6 = wo.alloc (.cells #[.int .i64 ch.kind, .string ch.name, .slice ch.key.A ch.key.row.length ch.key.c, .slice ch.row.A ch.row.row.length ch.row.c] 51) := ⟨_, rfl⟩
        have hb6 : Below wo.heap.size wo w6 := by rw [hw6]; exact (Below.refl _ _).alloc (Nat.le_refl _) _
        have hg6 : w6.heap[wo.heap.size]? = some (.cells #[.int .i64 ch.kind, .string ch.name, .slice ch.key.A ch.key.row.length ch.key.c, .slice ch.row.A ch.row.row.length ch.row.c] 51 (0, 0)) := by rw [hw6]; exact heap_alloc_new wo _
        have k0 := cell_of_row _ _ 0 _ _ _ hg6
        have k1 := cell_of_row _ _ 1 _ _ _ hg6
        have k2 := cell_of_row _ _ 2 _ _ _ hg6
        have k3 := cell_of_row _ _ 3 _ _ _ hg6
        have hb06 := hbw.trans (hb6.mono hbw.size)
        have HCH : Hid (Calls Tryz.prog 41 #[.agg #[.int .i64 ch.kind, .string ch.name, .slice ch.key.A ch.key.row.length ch.key.c, .slice ch.row.A ch.row.row.length ch.row.c]] w6 fun e w7 => ∃ ch', e = .returned (.agg ch') ∧ Hid (Calls Tryz.prog 40 #[ptr px, .agg ch', .int .i64 0] w7 fun e w' => (e = .returned (.int .i64 0) ∧ XS w.heap.size px s TA tc ts Inv (i + 1) w w') ∨ (e = .returned (.int .i64 9) ∧ Below w.heap.size w w' ∧ stopN ch R' = true))) := Lib.hid (by
          refine (HCH1.out w6 hb06).mono ?_
          rintro e w7 ⟨ch', rfl, q1, q2, q3, q4, q5, hb7⟩
          have hb57 := hb6.trans (hb7.mono hb6.size)
          refine ⟨ch'.cells, rfl, Lib.hid ?_⟩
          have hpx := hx.lt
          have hs6 := hb6.size
          have hva6 := Own.lt hx.app
          have hcd : ch'.d = ch.d := by unfold ChM.d; rw [q1, q2, q3, q4]
          have hf' := fit_d hcd HFI.out
          have hxb : XB w.heap.size px s TA tc ts ch' R' IA6 ic6 rs6 va6 qs w7 := ⟨hx.below hb57, hd6, hbg, by omega, fun q hq => (hcos q hq).fr hb57, q5.more fun g hg => ⟨hg.2, by omega, fun e => by have := (hva6 g e).2; omega⟩, hf'⟩
          refine (applyAny HT.out.1 HT.out.2 hxb (by omega)).mono ?_
          rintro e w' (⟨hst, rfl, ds, R2, hc, A8, c8, rs8, va8, hx8, hd8, hcos8, hb8, -⟩ | ⟨hst, rfl, hb8⟩)
          · exact .inl ⟨rfl, A8, c8, rs8, va8, _, R2, hx8, hd8, casc_bg hc hbg hf', hcos8, hstep ch' ds R2 hcd hf' hst hc, (hbw.trans (hb57.mono hbw.size)).trans hb8⟩
          · exact .inr ⟨rfl, (hbw.trans (hb57.mono hbw.size)).trans hb8, by rw [← stopN_d hcd]; exact hst⟩)
        have HW6 := Lib.hid hw6
        clear hw6 hb6 hg6 hb06 HCC HCH1 hx hd6 hbg hcos hinv hbw hstep hql
        rw [hCA]
        go_upto_region 11 with fail
        rw [← HW6.out]
        go_wp2_with fail
        refine HCH.out.mono ?_
        rintro e w7 ⟨ch', rfl, HAP⟩
        go_wp2_with fail
        refine HAP.out.mono ?_
        rintro e w8 (⟨rfl, hxs⟩ | ⟨rfl, hb8, hst⟩)
        · have HF := Lib.hid hxs
          clear hxs
          go_wp2_with fail
          go_roundw
          case rel => exact ⟨i + 1, by go_num, by omega, HF.out⟩
          case measure => simp [intOf]; omega
        · have HF := Lib.hid (HSTOP.out w8 hb8 hst)
          clear hb8 hst
          go_wp2_with fail
          go_ret3
          exact HF.out
      · have hie : i = n := by omega
        subst hie
        have HFIN : Hid (∀ m, ExpA Inv chs w (.returned (.tuple #[va6, .slice IA6 rs6.length ic6, .int .i64 0])) (wo.drewN m)) := Lib.hid fun m => by
          have hd : Below wo.heap.size wo (wo.drewN m) := below_drewN (Below.refl _ _) m
          obtain ⟨QA, qc, hva, -, -⟩ := hx.app.form
          obtain ⟨A0, c0, k0, A1, c1, k1, hrs, hr0, hr1⟩ := bD_open hd6
          refine .inl ⟨qs, R', QA, qc, .slice IA6 rs6.length ic6, by rw [hva], by rw [HN.out]; exact hinv, hbg, ?_, fun q hq => (hcos q hq).frw.on hd, ?_, hbw.trans (hd.mono hbw.size)⟩
          · subst hva
            have h1 := (hx.app.elems chmLay.len rfl).more fun g hg => (Own.lt hx.app g hg).2
            exact h1.on hd
          · refine ⟨IA6, ic6, A0, c0, k0, A1, c1, k1, by rw [hrs]; rfl, ?_, hr0, hr1⟩
            rw [← hrs]
            exact hx.inw.on hd
        have y4 : wo.cell? ⟨px, 4, none⟩ = some (.slice IA6 rs6.length ic6) := by
          have h := hx.blk
          unfold exC at h
          exact cell_of_row _ _ 4 _ _ _ h
        have y5 : wo.cell? ⟨px, 5, none⟩ = some va6 := by
          have h := hx.blk
          unfold exC at h
          exact cell_of_row _ _ 5 _ _ _ h
        clear hx hd6 hbg hcos hinv hbw
        go_wp2_with fail
        go_quiet (fail)
        go_wp2_with fail
        go_ret3
        exact HFIN.out _
end Go.Proofs.YtefifkleamiabaaGreatDoor
