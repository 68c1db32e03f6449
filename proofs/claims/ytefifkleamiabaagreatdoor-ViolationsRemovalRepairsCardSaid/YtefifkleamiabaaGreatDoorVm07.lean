/-
  The base schema, rows of items, the two triggers: that they fit. No program's walk.
  The walks of trigger.checkOperand and trigger.derive.
  The walk of trigger.checkAction, where the action fits.
-/
import Derived.Test.YtefifkleamiabaaGreatDoorVm06
import Derived.Deep.CutRange
namespace Go.Proofs.YtefifkleamiabaaGreatDoor
open Go.RowKit Go.Sort

def nItem : ByteArray := ⟨#[105, 116, 101, 109]⟩
def nOrder : ByteArray := ⟨#[111, 114, 100, 101, 114]⟩
def itemCols : List Col := [⟨⟨#[105, 100]⟩, 1, false⟩, ⟨⟨#[115, 105, 122, 101]⟩, 1, true⟩, ⟨⟨#[102, 105, 114, 115, 116]⟩, 3, false⟩, ⟨⟨#[108, 97, 115, 116]⟩, 3, false⟩]
def orderCols : List Col := [⟨⟨#[105, 100]⟩, 1, false⟩, ⟨⟨#[105, 116, 101, 109]⟩, 1, true⟩, ⟨⟨#[112, 97, 105, 100]⟩, 2, false⟩]
def bItem (A P : Option Addr) : Tbl := ⟨nItem, A, 4, itemCols, P, 1, [0]⟩
def bOrder (A P : Option Addr) : Tbl := ⟨nOrder, A, 3, orderCols, P, 1, [0]⟩
def bSc (T IA IP OA OP F FC N : Option Addr) : Sc := ⟨T, 2, [bItem IA IP, bOrder OA OP], F, 1, [⟨nOrder, FC, 1, [1], nItem⟩], N, 1, [⟨nItem, 1, ⟨#[60, 61]⟩, -1, ⟨1, 6, ⟨#[]⟩⟩⟩]⟩

theorem nItem_ok : NameV nItem := ⟨by decide +kernel, by decide +kernel, by decide +kernel, by decide +kernel⟩
theorem nOrder_ok : NameV nOrder := ⟨by decide +kernel, by decide +kernel, by decide +kernel, by decide +kernel⟩
theorem nm_ok (s : ByteArray) (h1 : 1 ≤ s.size := by decide +kernel) (h2 : s.size ≤ 12 := by decide +kernel)
    (h3 : ¬ (48 ≤ (s.data.toList.getD 0 0).toNat ∧ (s.data.toList.getD 0 0).toNat ≤ 57) := by decide +kernel)
    (h4 : ∀ j, j < s.size → (97 ≤ (s.data.toList.getD j 0).toNat ∧ (s.data.toList.getD j 0).toNat ≤ 122) ∨ (48 ≤ (s.data.toList.getD j 0).toNat ∧ (s.data.toList.getD j 0).toNat ≤ 57) := by decide +kernel) : NameV s := ⟨h1, h2, h3, h4⟩
theorem bItem_val (A P : Option Addr) : TabV (bItem A P) where
  name := nItem_ok
  ncols := by show 0 < 4 ∧ 4 ≤ 6; omega
  cname := fun c hc => by
    simp only [bItem, itemCols, List.mem_cons, List.not_mem_nil, or_false] at hc
    rcases hc with rfl | rfl | rfl | rfl <;> exact nm_ok _
  first := by show ∀ (i : Nat) (h : i < itemCols.length), max (colI itemCols[i].name itemCols) 0 = (i : Int); decide +kernel
  kind := by show ∀ c ∈ itemCols, 1 ≤ c.kind ∧ c.kind ≤ 3; decide +kernel
  npk := by show 0 < 1 ∧ 1 ≤ 1000; omega
  pk := by
    intro j h
    have h : j < 1 := h
    obtain rfl : j = 0 := by omega
    exact ⟨by show (0 : Int) ≤ 0; omega, by show 0 < 4; omega, rfl⟩
  ord := by show [(0 : Int)].Pairwise (· < ·); simp
theorem bOrder_val (A P : Option Addr) : TabV (bOrder A P) where
  name := nOrder_ok
  ncols := by show 0 < 3 ∧ 3 ≤ 6; omega
  cname := fun c hc => by
    simp only [bOrder, orderCols, List.mem_cons, List.not_mem_nil, or_false] at hc
    rcases hc with rfl | rfl | rfl <;> exact nm_ok _
  first := by show ∀ (i : Nat) (h : i < orderCols.length), max (colI orderCols[i].name orderCols) 0 = (i : Int); decide +kernel
  kind := by show ∀ c ∈ orderCols, 1 ≤ c.kind ∧ c.kind ≤ 3; decide +kernel
  npk := by show 0 < 1 ∧ 1 ≤ 1000; omega
  pk := by
    intro j h
    have h : j < 1 := h
    obtain rfl : j = 0 := by omega
    exact ⟨by show (0 : Int) ≤ 0; omega, by show 0 < 3; omega, rfl⟩
  ord := by show [(0 : Int)].Pairwise (· < ·); simp
section
variable {T IA IP OA OP F FC N : Option Addr}
theorem bSc_item : tabI nItem (bSc T IA IP OA OP F FC N).tabs = 0 := by
  refine fidx_at (k := 0) (by show 0 < 2; omega) ?_ (by intro x hx; cases hx)
  show (nItem.toList == nItem.toList) = true
  decide +kernel
theorem bSc_order : tabI nOrder (bSc T IA IP OA OP F FC N).tabs = 1 := by
  refine fidx_at (k := 1) (by show 1 < 2; omega) ?_ ?_
  · show (nOrder.toList == nOrder.toList) = true
    decide +kernel
  · intro x hx
    have hx : x ∈ [bItem IA IP] := hx
    rw [List.mem_singleton.1 hx]
    show (nItem.toList == nOrder.toList) = false
    decide +kernel
theorem bSc_val : SchV (bSc T IA IP OA OP F FC N) where
  ntab := by show 2 ≤ 6; omega
  tab := fun t ht => by
    simp only [bSc, List.mem_cons, List.not_mem_nil, or_false] at ht
    rcases ht with rfl | rfl
    · exact bItem_val _ _
    · exact bOrder_val _ _
  ord := by
    intro i h
    have h : i + 1 < 2 := h
    obtain rfl : i = 0 := by omega
    show Op.bytesLess nOrder.toList nItem.toList = false ∧ (nOrder.toList == nItem.toList) = false
    decide +kernel
  nfk := by show 1 ≤ 1; omega
  fk := fun f hf => by
    simp only [bSc, List.mem_cons, List.not_mem_nil, or_false] at hf
    subst hf
    refine ⟨by show 1 ≤ 1000; omega, 1, 0, by show 1 < 2; omega, by show 0 < 2; omega, bSc_order, bSc_item, rfl, ?_⟩
    intro j h h'
    have h : j < 1 := h
    obtain rfl : j = 0 := by omega
    show (0 : Int) ≤ 1 ∧ (1 : Int) < 3 ∧ (0 : Int) ≤ 0 ∧ (0 : Int) < 4 ∧ (1 : Int) = 1
    omega
  ncn := by show 1 ≤ 1; omega
  cn := fun c hc => by
    simp only [bSc, List.mem_cons, List.not_mem_nil, or_false] at hc
    subst hc
    exact ⟨0, 1, by show 0 < 2; omega, bSc_item, rfl, by show 1 < 4; omega, .inr (.inr rfl), rfl, rfl, by decide +kernel⟩
end

/-- An item's row. -/
def iRow (a b : Int) : Row := [⟨1, a, ⟨#[]⟩⟩, ⟨1, b, ⟨#[]⟩⟩, ⟨3, 0, ⟨#[]⟩⟩, ⟨3, 0, ⟨#[]⟩⟩]
theorem iErr {a : Int} (ha : 0 ≤ a ∧ a < 7) : (⟨1, a, ⟨#[]⟩⟩ : Val).err = 0 := by
  show vErr 1 a ⟨#[]⟩ = 0
  unfold vErr
  rw [if_neg (by omega), if_pos (.inl rfl), if_neg (by decide +kernel), if_neg (by omega)]
theorem iRow_ok {a b : Int} (ha : 0 ≤ a ∧ a < 7) (hb : 0 ≤ b ∧ b < 7) : RowC itemCols (iRow a b) where
  len := rfl
  err := fun v hv => by
    simp only [iRow, List.mem_cons, List.not_mem_nil, or_false] at hv
    rcases hv with rfl | rfl | rfl | rfl
    · exact iErr ha
    · exact iErr hb
    · decide +kernel
    · decide +kernel
  col := by
    intro i h
    have h : i < 4 := h
    rcases i with _ | _ | _ | _ | i
    · exact .inl ⟨rfl, by show (1 : Int) ≠ 0; omega⟩
    · exact .inl ⟨rfl, by show (1 : Int) ≠ 0; omega⟩
    · exact .inl ⟨rfl, by show (3 : Int) ≠ 0; omega⟩
    · exact .inl ⟨rfl, by show (3 : Int) ≠ 0; omega⟩
    · omega
def iKey (a : Int) : Row := [⟨1, a, ⟨#[]⟩⟩]
theorem iKey_ok {a : Int} (ha : 0 ≤ a ∧ a < 7) {A P : Option Addr} : KeyC (bItem A P) (iKey a) where
  len := rfl
  err := fun v hv => by
    simp only [iKey, List.mem_cons, List.not_mem_nil, or_false] at hv
    subst hv
    exact iErr ha
  col := by
    intro i h h'
    have h : i < 1 := h
    obtain rfl : i = 0 := by omega
    exact ⟨by show (0 : Int) ≤ 0; omega, by show 0 < 4; omega, rfl⟩
theorem iRow_key (a b : Int) : keyOf [0] (iRow a b) = iKey a := rfl
theorem cmpR_eq0 (k : Row) : cmpR k k = 0 := by have := cmpR_neg k k; omega
theorem rff_nil (pk : List Int) (k : Row) : rff pk k [] = false := rfl
theorem rff_row (a b : Int) : rfi [0] (iKey a) [iRow a b] = 0 ∧ rff [0] (iKey a) [iRow a b] = true := by
  obtain ⟨h1, h2⟩ := rfi_at (pk := [0]) (key := iKey a) (rs := [iRow a b]) (k := 0) (by show 0 < 1; omega) (by show 0 ≤ cmpR (iKey a) (iKey a); rw [cmpR_eq0]; omega) (by intro r hr; cases hr)
  refine ⟨h1, h2.trans ?_⟩
  show decide (cmpR (iKey a) (iKey a) = 0) = true
  rw [cmpR_eq0]
  rfl
theorem ups_item (a b : Int) : upsX [0] (iRow a b) [] = [iRow a b] := rfl
theorem del_item (a b : Int) : delRX [0] (iKey a) [iRow a b] = [] := by
  unfold delRX
  rw [if_pos (rff_row a b).2, (rff_row a b).1]
  rfl
/-- The instance's rows at item. -/
def iRows (full : Bool) (a b : Int) : List Row := if full = true then [iRow a b] else []
/-- An instance with these rows at item, and none at order. -/
def iData (full : Bool) (a b : Int) : List (ByteArray × List Row) := [(nItem, iRows full a b), (nOrder, [])]
theorem bSc_fit {T IA IP OA OP F FC N : Option Addr} {full : Bool} {a b : Int} (ha : 0 ≤ a ∧ a < 7) (hb : 0 ≤ b ∧ b < 7) {rs : List RelM} (hd : rs.map RelM.d = iData full a b) : InC (bSc T IA IP OA OP F FC N).tabs rs := by
  obtain ⟨r0, r1, rfl, h0, h1⟩ : ∃ r0 r1, rs = [r0, r1] ∧ r0.d = (nItem, iRows full a b) ∧ r1.d = (nOrder, []) := by
    have hl : rs.length = 2 := by
      have h := congrArg List.length hd
      rwa [List.length_map] at h
    rcases rs with _ | ⟨r0, _ | ⟨r1, _ | ⟨r2, l⟩⟩⟩
    · cases hl
    · cases hl
    · have h := List.cons.inj hd
      exact ⟨r0, r1, rfl, h.1, (List.cons.inj h.2).1⟩
    · simp at hl
  obtain ⟨hn0, hr0⟩ := Prod.mk.inj h0
  obtain ⟨hn1, hr1⟩ := Prod.mk.inj h1
  have hr1 : r1.rows = [] := List.map_eq_nil_iff.1 hr1
  refine ⟨rfl, by show 2 ≤ 6; omega, fun t ht => ?_, fun i h h' => ?_, fun i h h' => ?_⟩
  · simp only [bSc, List.mem_cons, List.not_mem_nil, or_false] at ht
    rcases ht with rfl | rfl
    · show 4 ≤ 6 ∧ 1 ≤ 12; omega
    · show 3 ≤ 6 ∧ 1 ≤ 12; omega
  · have h : i < 2 := h
    rcases i with _ | _ | i
    · exact hn0
    · exact hn1
    · omega
  · have h : i < 2 := h
    rcases i with _ | _ | i
    · show RelC (bItem IA IP) r0.rows
      cases full with
      | false =>
        have : r0.rows = [] := List.map_eq_nil_iff.1 hr0
        rw [this]
        exact ⟨by show 0 ≤ 24; omega, (fun k hk => by cases hk), List.Pairwise.nil⟩
      | true =>
        obtain ⟨k, hk, hk2⟩ : ∃ k, r0.rows = [k] ∧ k.row = iRow a b := by
          have hr0 : r0.rows.map Key.row = [iRow a b] := hr0
          rcases hq : r0.rows with _ | ⟨k, _ | ⟨k2, l⟩⟩
          · rw [hq] at hr0; cases hr0
          · rw [hq] at hr0; injection hr0 with h0 _; exact ⟨k, rfl, h0⟩
          · rw [hq] at hr0; injection hr0 with _ h1; cases h1
        rw [hk]
        refine ⟨by show 1 ≤ 24; omega, fun x hx => ?_, List.pairwise_singleton _ _⟩
        rw [List.mem_singleton.1 hx, hk2]
        exact iRow_ok ha hb
    · show RelC (bOrder OA OP) r1.rows
      rw [hr1]
      exact ⟨by show 0 ≤ 24; omega, (fun k hk => by cases hk), List.Pairwise.nil⟩
    · omega

/-- The two triggers. -/
def tRem (A B : Option Addr) : Tr := ⟨1, nItem, A, 1, [⟨2, nItem, B, 1, [0]⟩]⟩
def tAdd (A B : Option Addr) (c : Nat) : Tr := ⟨2, nItem, A, 1, [⟨1, nItem, B, c, [0, 1, 2, 3]⟩]⟩
theorem tRem_ok {T IA IP OA OP F FC N A B : Option Addr} : TrC (bSc T IA IP OA OP F FC N) (tRem A B) := by
  refine ⟨.inl rfl, ⟨0, by show 0 < 2; omega, bSc_item, fun a ha => ?_⟩, by show 1 ≤ 4; omega⟩
  rw [List.mem_singleton.1 ha]
  refine ⟨.inr rfl, 0, by show 0 < 2; omega, bSc_item, rfl, by show 1 ≤ 100; omega, fun k hk => ?_, fun k h1 h2 => ?_⟩
  · rw [List.mem_singleton.1 (show k ∈ [(0 : Int)] from hk)]
    exact ⟨by omega, by show 0 < 4; omega⟩
  · have h : k < 1 := h1
    obtain rfl : k = 0 := by omega
    exact ⟨by show (0 : Int) ≤ 0; omega, by show 0 < 4; omega, rfl, .inl rfl⟩
theorem tAdd_ok {T IA IP OA OP F FC N A B : Option Addr} {c : Nat} : TrC (bSc T IA IP OA OP F FC N) (tAdd A B c) := by
  refine ⟨.inr rfl, ⟨0, by show 0 < 2; omega, bSc_item, fun a ha => ?_⟩, by show 1 ≤ 4; omega⟩
  rw [List.mem_singleton.1 ha]
  refine ⟨.inl rfl, 0, by show 0 < 2; omega, bSc_item, rfl, by show 4 ≤ 100; omega, fun k hk => ?_, fun k h1 h2 => ?_⟩
  · rw [List.mem_singleton.1 (show k ∈ [(0 : Int)] from hk)]
    exact ⟨by omega, by show 0 < 4; omega⟩
  · have h : k < 4 := h1
    rcases k with _ | _ | _ | _ | k
    · exact ⟨by show (0 : Int) ≤ 0; omega, by show 0 < 4; omega, rfl, .inl rfl⟩
    · exact ⟨by show (0 : Int) ≤ 1; omega, by show 1 < 4; omega, rfl, .inr rfl⟩
    · exact ⟨by show (0 : Int) ≤ 2; omega, by show 2 < 4; omega, rfl, .inl rfl⟩
    · exact ⟨by show (0 : Int) ≤ 3; omega, by show 3 < 4; omega, rfl, .inl rfl⟩
    · omega
end Go.Proofs.YtefifkleamiabaaGreatDoor

namespace Go.Proofs.YtefifkleamiabaaGreatDoor
open Go.RowKit Go.Sort

set_option maxRecDepth 100000 in
set_option maxHeartbeats 4000000 in
theorem checkOperand (t : Tbl) (o : Int) (c : Col) (nl : Bool) (w : World) (ht : TOk (· < w.heap.size) w t) (hl : t.cols.length ≤ 1000) (ho : OpC t o c nl) :
    Calls Tryz.prog 102 #[t.val, .agg #[.int .i64 o, .int .i64 0, .int .i64 0, .string ⟨#[]⟩], .agg #[.string c.name, .int .i64 c.kind, .bool c.null], .bool nl] w fun e w' => e = .returned (.int .i64 0) ∧ Below w.heap.size w w' := by
  obtain ⟨name, CA, cc, tc, PA, pc, pk⟩ := t
  obtain ⟨h0, h1, h2, h3⟩ := ho
  obtain ⟨j, rfl⟩ := Int.eq_ofNat_of_zero_le h0
  rw [Int.toNat_natCast] at h1 h2 h3
  have hj : j < tc.length := h1
  have hgd : tc.getD j col0 = tc[j] := by rw [List.getD_eq_getElem?_getD, List.getElem?_eq_getElem hj]; rfl
  simp only at h2 h3
  rw [hgd] at h2 h3
  obtain ⟨n, hn⟩ : ∃ n, tc.length = n := ⟨_, rfl⟩
  obtain ⟨w1, hw1⟩ : ∃ w1, w1 = ((w.alloc (.cells #[.string name, .slice CA n cc, .slice PA pk.length pc] 71)).alloc (.cells #[.int .i64 (j : Int), .int .i64 0, .int .i64 0, .string ⟨#[]⟩] 102)).alloc (.cells #[.string c.name, .int .i64 c.kind, .bool c.null] 68) := ⟨_, rfl⟩
  have hb1 : Below w.heap.size w w1 := by rw [hw1]; exact (((Below.refl _ _).alloc (Nat.le_refl _) _).alloc (le_size1 (Nat.le_refl _) _) _).alloc (le_size2 (Nat.le_refl _) _ _) _
  have g0 : w1.heap[w.heap.size]? = some (.cells #[.string name, .slice CA n cc, .slice PA pk.length pc] 71 (0, 0)) := by
    rw [hw1, Below.heap_alloc _ _ _ (by simp; omega), Below.heap_alloc _ _ _ (by simp)]
    exact heap_alloc_new w _
  have g1 : w1.heap[w.heap.size + 1]? = some (.cells #[.int .i64 (j : Int), .int .i64 0, .int .i64 0, .string ⟨#[]⟩] 102 (0, 0)) := by
    rw [hw1, Below.heap_alloc _ _ _ (by simp)]
    exact alloc2_at w _ _
  have g2 : w1.heap[w.heap.size + 1 + 1]? = some (.cells #[.string c.name, .int .i64 c.kind, .bool c.null] 68 (0, 0)) := by
    rw [hw1]
    have h := heap_alloc_new ((w.alloc (.cells #[.string name, .slice CA n cc, .slice PA pk.length pc] 71)).alloc (.cells #[.int .i64 (j : Int), .int .i64 0, .int .i64 0, .string ⟨#[]⟩] 102)) (.cells #[.string c.name, .int .i64 c.kind, .bool c.null] 68)
    simpa using h
  obtain ⟨b, off, hA, -, p0, p1, p2⟩ := (ht.on hb1).cols.col hj
  have p0 : w1.cell? ⟨b, off + j * 3, none⟩ = some (.string tc[j].name) := p0
  have p1 : w1.cell? ⟨b, off + j * 3 + 1, none⟩ = some (.int .i64 tc[j].kind) := p1
  have p2 : w1.cell? ⟨b, off + j * 3 + 2, none⟩ = some (.bool tc[j].null) := p2
  have hA : CA = some ⟨b, off, none⟩ := hA
  rw [h2] at p1
  subst hA
  have x0 := cell_of_row _ _ 1 _ _ _ g0
  have x1 := cell_of_row _ _ 0 _ _ _ g1
  have x2 := cell_of_row _ _ 1 _ _ _ g1
  have x3 := cell_of_row _ _ 2 _ _ _ g1
  have x4 := cell_of_row _ _ 3 _ _ _ g1
  have x5 : ∀ o, (w1.alloc o).cell? ⟨w.heap.size + 1 + 1, 1, none⟩ = some (.int .i64 c.kind) := fun o => by
    have h := (Below.heap_alloc w1 o (w.heap.size + 1 + 1) (Array.getElem?_eq_some_iff.1 g2).1).trans g2
    exact cell_of_row _ _ 1 _ _ _ h
  have hn1 : n ≤ 1000 := by rw [← hn]; exact hl
  have hjn : (j : Int) < (n : Int) := by omega
  have hj0 : ¬ ((j : Int) = -1) := by omega
  have hj1 : ((j : Int) == -1) = false := by simp
  have h3' : (tc[j].null && !nl) = false := by rcases h3 with h | h <;> simp [h]
  have HH := Lib.hid h3
  have HB1 := Lib.hid hb1
  have HW1 := Lib.hid hw1
  unfold Tbl.val
  simp only
  rw [hn]
  clear ht hl h0 h2 h3 hb1 hw1 g0 g1 g2 hgd
  generalize tc[j].name = cn at *
  generalize tc[j].null = cl at *
  go_enter Tryz.func102, Tryz.ntmps102
  go_upto_region 1 with fail
  rw [← HW1.out]
  cases cl with
  | false =>
    go_wp2_with fail
    go_ret
    exact ⟨rfl, HB1.out.alloc HB1.out.size _⟩
  | true =>
    have hnl : nl = true := by simpa using h3'
    subst hnl
    go_wp2_with fail
    go_ret
    exact ⟨rfl, HB1.out.alloc HB1.out.size _⟩

theorem ret_derive {a b c d : Value} {g : Nat} {w : World} (tmps : Array Value) (hp : tmps.getD 4 undef = .pointer (some ⟨g, 0, none⟩)) (hg : w.heap[g]? = some (.cells #[a, b, c, d] 51 (0, 0))) :
    (results Tryz.f75 tmps).run Tryz.prog w = .ok (.agg #[a, b, c, d]) w :=
  results_cell_row (P := Tryz.prog) Tryz.results75 tmps w g 51 _ (0, 0) _ hp hg Tryz.underlying51 rfl (by kernel_rfl)
theorem set4 {w : World} {g : Nat} {t : TypeId} {a b c d a' b' c' d' : Value} (h : w.heap[g]? = some (.cells #[a, b, c, d] t (0, 0))) :
    ((((w.setCell ⟨g, 0, none⟩ a').setCell ⟨g, 1, none⟩ b').setCell ⟨g, 2, none⟩ c').setCell ⟨g, 3, none⟩ d').heap[g]? = some (.cells #[a', b', c', d'] t (0, 0)) := by
  rw [heap_setCell_at (heap_setCell_at (heap_setCell_at (heap_setCell_at h _) _) _) _]
  rfl

set_option maxRecDepth 100000 in
set_option maxHeartbeats 4000000 in
theorem deriveW (a : Ac) (A : Option Addr) (c : Nat) (row : Row) (w : World) (ho : Elems 4 opdCs w (· < w.heap.size) a.A a.ops) (hx : Elems 3 Val.cs w (· < w.heap.size) A row) (hl : a.ops.length ≤ 1000) (hr : ∀ k ∈ a.ops, 0 ≤ k ∧ k < (row.length : Int)) (hk : a.kind = 1 ∨ a.kind = 2) :
    Calls Tryz.prog 75 #[a.val, .slice A row.length c] w fun e w' => ∃ v, e = .returned (.agg #[.int .i64 a.kind, .string a.name, if a.kind = 2 then v else .slice none 0 0, if a.kind = 2 then .slice none 0 0 else v]) ∧ Own 3 Val.cs 60 w.heap.size w' v (keyOf a.ops row) ∧ Below w.heap.size w w' := by
  obtain ⟨kind, name, OA, oc, ops⟩ := a
  obtain ⟨n, hn⟩ : ∃ n, ops.length = n := ⟨_, rfl⟩
  obtain ⟨l, hrl⟩ : ∃ l, row.length = l := ⟨_, rfl⟩
  have hl : n ≤ 1000 := by rw [← hn]; exact hl
  obtain ⟨w1, hw1⟩ : ∃ w1, w1 = (w.alloc (.cells #[.int .i64 kind, .string name, .slice OA n oc] 105)).alloc (.cells #[.int .i64 0, .string ⟨#[]⟩, .slice none 0 0, .slice none 0 0] 51) := ⟨_, rfl⟩
  have hb1 : Below w.heap.size w w1 := by rw [hw1]; exact ((Below.refl _ _).alloc (Nat.le_refl _) _).alloc (le_size1 (Nat.le_refl _) _) _
  have hg0 : w1.heap[w.heap.size]? = some (.cells #[.int .i64 kind, .string name, .slice OA n oc] 105 (0, 0)) := by
    rw [hw1, Below.heap_alloc _ _ _ (by simp)]
    exact heap_alloc_new w _
  have hg1 : w1.heap[w.heap.size + 1]? = some (.cells #[.int .i64 0, .string ⟨#[]⟩, .slice none 0 0, .slice none 0 0] 51 (0, 0)) := by rw [hw1]; exact alloc2_at w _ _
  have hs1 : w1.heap.size = w.heap.size + 2 := by rw [hw1]; simp
  have HBK : Hid (∀ W, Below w1.heap.size w1 W → W.heap[w.heap.size]? = some (.cells #[.int .i64 kind, .string name, .slice OA n oc] 105 (0, 0)) ∧ W.heap[w.heap.size + 1]? = some (.cells #[.int .i64 0, .string ⟨#[]⟩, .slice none 0 0, .slice none 0 0] 51 (0, 0))) := Lib.hid fun W hW =>
    ⟨(hW.block w.heap.size (by omega)).trans hg0, (hW.block (w.heap.size + 1) (by omega)).trans hg1⟩
  have c2 := cell_of_row _ _ 2 _ _ _ hg0
  have HO := Lib.hid (Elems.on ho hb1)
  have HX := Lib.hid (Elems.on hx hb1)
  have HR := Lib.hid hr
  have HK := Lib.hid hk
  have HB1 := Lib.hid hb1
  have HS1 := Lib.hid hs1
  have HW1 := Lib.hid hw1
  have HN := Lib.hid (And.intro hn hrl)
  unfold Ac.val
  simp only at *
  rw [hn, hrl]
  clear ho hx hr hk hw1 hb1 hg0 hg1 hs1 hn hrl
  go_enter Tryz.func75, Tryz.ntmps75
  go_upto_region 1 with fail
  rw [← HW1.out]
  go_wp2_with fail
  go_loopw [5, 11] (fun v5 vi wr => ∃ k : Nat, vi = .int .i64 (k : Int) ∧ k ≤ n ∧ Own 3 Val.cs 60 w1.heap.size wr v5 (keyOf (ops.take k) row) ∧ Below w1.heap.size w1 wr) (fun _ vi _ => n - (intOf vi).toNat)
  case atStart => exact ⟨0, rfl, by omega, Own.nil _, Below.refl _ _⟩
  case round =>
    obtain ⟨k, rfl, hkn, hT⟩ := hrel
    obtain ⟨wo, rfl⟩ : ∃ wo, wo = wr := ⟨_, rfl⟩
    obtain ⟨v5, rfl⟩ : ∃ v5, v5 = u5 := ⟨_, rfl⟩
    obtain ⟨hw, hb⟩ := hT
    by_cases hlt : k < n
    · have hki : k < ops.length := by have := HN.out.1; omega
      obtain ⟨b, off, rfl, -, q0, q1, q2, q3⟩ := (HO.out.on hb).opd hki
      have hlt' : (k : Int) < (n : Int) := by omega
      obtain ⟨hp0, hp1⟩ := HR.out _ (List.getElem_mem hki)
      obtain ⟨j, hj⟩ := Int.eq_ofNat_of_zero_le hp0
      have hjr : j < row.length := by omega
      have hjl : (j : Int) < (l : Int) := by have := HN.out.2; omega
      have hka : keyAt row (ops[k]) = row[j] := by
        rw [hj]
        unfold keyAt
        rw [if_pos ⟨by omega, by omega⟩, Int.toNat_natCast, List.getD_eq_getElem?_getD, List.getElem?_eq_getElem hjr]
        rfl
      have HKO : Hid (keyOf (ops.take (k + 1)) row = keyOf (ops.take k) row ++ [row[j]]) := Lib.hid (by rw [keyOf_take (row := row) hki, hka])
      rw [hj] at q0
      obtain ⟨w2, hw2⟩ : ∃ w2, w2 = wo.alloc (.cells #[.int .i64 (j : Int), .int .i64 0, .int .i64 0, .string ⟨#[]⟩] 102) := ⟨_, rfl⟩
      have hb2 : Below wo.heap.size wo w2 := by rw [hw2]; exact (Below.refl _ _).alloc (Nat.le_refl _) _
      have hg2 : w2.heap[wo.heap.size]? = some (.cells #[.int .i64 (j : Int), .int .i64 0, .int .i64 0, .string ⟨#[]⟩] 102 (0, 0)) := by rw [hw2]; exact heap_alloc_new wo _
      have y0 := cell_of_row _ _ 0 _ _ _ hg2
      have hbw : Below w1.heap.size w1 w2 := hb.trans (hb2.mono hb.size)
      obtain ⟨b', off', rfl, -, e0, e1, e2⟩ := (HX.out.on hbw).val hjr
      have hlen : (keyOf (ops.take k) row).length = k := by
        unfold keyOf
        rw [List.length_map, List.length_take]
        omega
      have HL1 : Hid (((keyOf (ops.take k) row).length + 1) * 32 ≤ 140737488355328) := Lib.hid (by rw [hlen]; omega)
      have HL2 : Hid ((keyOf (ops.take k) row).length + 1 ≤ maxLen) := Lib.hid (by rw [hlen]; unfold maxLen; omega)
      have HO2 := Lib.hid (hw.below hb2)
      have HS2 : Hid (w1.heap.size ≤ w2.heap.size) := Lib.hid hbw.size
      have HFR : Hid (∀ w3 v3, Ext w2 v5 w3 v3 → Below w1.heap.size w1 w3) := Lib.hid fun w3 v3 hx => hbw.trans (hx.below hbw.size fun g hg => (Own.lt hw g hg).1)
      have HW2 := Lib.hid hw2
      have hj0 : ¬ (j : Int) < 0 := by omega
      clear hw2 hb2 hg2 hbw hlen hka hw hb hp0 hp1 hj
      generalize row[j] = x at *
      go_upto_region 5 with fail
      rw [← HW2.out]
      go_wp2_with (at_builtin; refine wpList_app rfl (.tmp 23) (.tmp 29) _ _ rfl rfl rfl (run_push elem_val valLay _ _ _ (keyOf (ops.take k) row) x _ HO2.out rfl HL1.out HL2.out HS2.out rfl) ?_; rintro v2 w3 ⟨ho2, hx2⟩)
      have HF : Hid (Own 3 Val.cs 60 w1.heap.size w3 v2 (keyOf (ops.take (k + 1)) row) ∧ Below w1.heap.size w1 w3) := Lib.hid ⟨by rw [HKO.out]; exact ho2, HFR.out _ _ hx2⟩
      clear ho2 hx2
      go_wp2_with fail
      go_roundw
      case rel => exact ⟨k + 1, by go_num, by omega, HF.out.1, HF.out.2⟩
      case measure => simp [intOf]; omega
    · have hkn' : k = n := by omega
      subst hkn'
      rw [List.take_of_length_le (by have := HN.out.1; omega)] at hw
      obtain ⟨A2, c2, rfl, -, -⟩ := hw.form
      obtain ⟨h0, h1⟩ := HBK.out wo hb
      have x0 := cell_of_row _ _ 0 _ _ _ h0
      have x1 := cell_of_row _ _ 1 _ _ _ h0
      have n0 := cell_of_row _ _ 0 _ _ _ h1
      have n1 := cell_of_row _ _ 1 _ _ _ h1
      have n2 := cell_of_row _ _ 2 _ _ _ h1
      have n3 := cell_of_row _ _ 3 _ _ _ h1
      have f0 := frozen_of_row _ _ 0 _ _ h1
      have f1 := frozen_of_row _ _ 1 _ _ h1
      have f2 := frozen_of_row _ _ 2 _ _ h1
      have f3 := frozen_of_row _ _ 3 _ _ h1
      have hne : ∀ g, (Value.slice A2 (keyOf ops row).length c2).ownBlock = some g → g ≠ w.heap.size + 1 := fun g hg => by have := (Own.lt hw g hg).1; have := HS1.out; omega
      have HF := Lib.hid (And.intro hw (And.intro hb (And.intro h1 hne)))
      have hgs : w.heap.size ≤ w.heap.size + 1 := by omega
      have HBS : Hid (Below w.heap.size w wo) := Lib.hid (HB1.out.trans (hb.mono (by have := HS1.out; omega)))
      clear hw hb h0 h1 hne
      rcases HK.out with rfl | rfl
      · go_wp2_with fail
        refine bodyPost_ret (ret_derive _ rfl (set4 HF.out.2.2.1)) rfl ?_
        exact ⟨_, rfl, ((((HF.out.1.mono (by have := HS1.out; omega)).setCell HF.out.2.2.2 _).setCell HF.out.2.2.2 _).setCell HF.out.2.2.2 _).setCell HF.out.2.2.2 _, (((HBS.out.setCell hgs _).setCell hgs _).setCell hgs _).setCell hgs _⟩
      · go_wp2_with fail
        refine bodyPost_ret (ret_derive _ rfl (set4 HF.out.2.2.1)) rfl ?_
        exact ⟨_, rfl, ((((HF.out.1.mono (by have := HS1.out; omega)).setCell HF.out.2.2.2 _).setCell HF.out.2.2.2 _).setCell HF.out.2.2.2 _).setCell HF.out.2.2.2 _, (((HBS.out.setCell hgs _).setCell hgs _).setCell hgs _).setCell hgs _⟩
end Go.Proofs.YtefifkleamiabaaGreatDoor

namespace Go.Proofs.YtefifkleamiabaaGreatDoor
open Go.RowKit Go.Sort

/-- The key's columns. -/
def pkC (cols : List Col) (pk : List Int) : List Col := pk.map fun k => cols.getD k.toNat col0

set_option linter.unusedSimpArgs false in
set_option maxRecDepth 100000 in
set_option maxHeartbeats 8000000 in
theorem checkActionUps (s : Sc) (t : Tbl) (a : Ac) (w : World) (hs : ScOk (· < w.heap.size) w s) (ht : TOk (· < w.heap.size) w t) (ho : Elems 4 opdCs w (· < w.heap.size) a.A a.ops) (hc : AcC s t a) (hk : a.kind = 1) (hl : s.tabs.length ≤ 1000) (htl : t.cols.length ≤ 1000) :
    Calls Tryz.prog 67 #[s.v, t.val, a.val] w fun e w' => e = .returned (.int .i64 0) ∧ Below w.heap.size w w' := by
  obtain ⟨-, i, hi, hti, hol, hol2, hpk, hop⟩ := hc
  obtain ⟨kind, nm, OA, oc, ops⟩ := a
  have hk : kind = 1 := hk
  subst hk
  obtain ⟨n, hn⟩ : ∃ n, ops.length = n := ⟨_, rfl⟩
  simp only at hti hol hol2 hop
  have hn100 : n ≤ 100 := by omega
  obtain ⟨w1, hw1⟩ : ∃ w1, w1 = ((w.alloc (.cells s.cells 27)).alloc (.cells #[.string t.name, .slice t.CA t.cols.length t.cc, .slice t.PA t.pk.length t.pc] 71)).alloc (.cells #[.int .i64 1, .string nm, .slice OA n oc] 105) := ⟨_, rfl⟩
  have hb1 : Below w.heap.size w w1 := by rw [hw1]; exact (((Below.refl _ _).alloc (Nat.le_refl _) _).alloc (le_size1 (Nat.le_refl _) _) _).alloc (le_size2 (Nat.le_refl _) _ _) _
  have g0 : w1.heap[w.heap.size]? = some (.cells s.cells 27 (0, 0)) := by
    rw [hw1, Below.heap_alloc _ _ _ (by simp; omega), Below.heap_alloc _ _ _ (by simp)]
    exact heap_alloc_new w _
  have g1 : w1.heap[w.heap.size + 1]? = some (.cells #[.string t.name, .slice t.CA t.cols.length t.cc, .slice t.PA t.pk.length t.pc] 71 (0, 0)) := by
    rw [hw1, Below.heap_alloc _ _ _ (by simp)]
    exact alloc2_at w _ _
  have g2 : w1.heap[w.heap.size + 1 + 1]? = some (.cells #[.int .i64 1, .string nm, .slice OA n oc] 105 (0, 0)) := by
    rw [hw1]
    have h := heap_alloc_new ((w.alloc (.cells s.cells 27)).alloc (.cells #[.string t.name, .slice t.CA t.cols.length t.cc, .slice t.PA t.pk.length t.pc] 71)) (.cells #[.int .i64 1, .string nm, .slice OA n oc] 105)
    simpa using h
  have hs1 : w1.heap.size = w.heap.size + 3 := by rw [hw1]; simp
  have HBK : Hid (∀ W, Below w1.heap.size w1 W → (W.cell? ⟨w.heap.size, 0, none⟩ = some (.slice s.TA s.tabs.length s.tc) ∧ W.cell? ⟨w.heap.size, 1, none⟩ = some (.slice s.FA s.fks.length s.fc) ∧ W.cell? ⟨w.heap.size, 2, none⟩ = some (.slice s.NA s.cns.length s.nc))
      ∧ (W.cell? ⟨w.heap.size + 1, 0, none⟩ = some (.string t.name) ∧ W.cell? ⟨w.heap.size + 1, 1, none⟩ = some (.slice t.CA t.cols.length t.cc) ∧ W.cell? ⟨w.heap.size + 1, 2, none⟩ = some (.slice t.PA t.pk.length t.pc))
      ∧ (W.cell? ⟨w.heap.size + 1 + 1, 0, none⟩ = some (.int .i64 1) ∧ W.cell? ⟨w.heap.size + 1 + 1, 1, none⟩ = some (.string nm) ∧ W.cell? ⟨w.heap.size + 1 + 1, 2, none⟩ = some (.slice OA n oc))) := Lib.hid fun W hW => by
    have h0 := (hW.block w.heap.size (by omega)).trans g0
    have h1 := (hW.block (w.heap.size + 1) (by omega)).trans g1
    have h2 := (hW.block (w.heap.size + 1 + 1) (by omega)).trans g2
    unfold Sc.cells at h0
    exact ⟨⟨cell_of_row _ _ 0 _ _ _ h0, cell_of_row _ _ 1 _ _ _ h0, cell_of_row _ _ 2 _ _ _ h0⟩, ⟨cell_of_row _ _ 0 _ _ _ h1, cell_of_row _ _ 1 _ _ _ h1, cell_of_row _ _ 2 _ _ _ h1⟩, ⟨cell_of_row _ _ 0 _ _ _ h2, cell_of_row _ _ 1 _ _ _ h2, cell_of_row _ _ 2 _ _ _ h2⟩⟩
  have HFT := Lib.hid fun W (hW : Below w.heap.size w W) => findTable s nm W (hs.on hW) hl
  have HSC := Lib.hid hs
  have HTT := Lib.hid ht
  have HO := Lib.hid ho
  have HOP := Lib.hid hop
  have HPK := Lib.hid hpk
  have HTI := Lib.hid hti
  have HOL := Lib.hid (And.intro hn hol)
  have HTL := Lib.hid htl
  have HON := Lib.hid hn
  have HB1 := Lib.hid hb1
  have HS1 := Lib.hid hs1
  have HW1 := Lib.hid hw1
  have hin : (i : Int) < (s.tabs.length : Int) := by omega
  obtain ⟨⟨c0, c1, c2⟩, ⟨c3, c4, c5⟩, c6, c7, c8⟩ := HBK.out w1 (Below.refl _ _)
  unfold Sc.cells at HW1
  unfold Sc.v Sc.cells at HFT ⊢
  unfold Tbl.val Ac.val
  simp only
  rw [hn]
  clear hs ht ho hop hpk hti hol hol2 htl hb1 hw1 g0 g1 g2 hs1 hn
  go_enter Tryz.func67, Tryz.ntmps67
  go_upto_region 1 with fail
  rw [← HW1.out]
  go_wp2_with fail
  refine (HFT.out w1 HB1.out).mono ?_
  rintro e w2 ⟨rfl, hb2⟩
  rw [HTI.out]
  have hmi : max (i : Int) 0 = (i : Int) := by omega
  have hdi : decide (0 ≤ (i : Int)) = true := decide_eq_true (by omega)
  unfold findV
  rw [hmi, hdi]
  have hb02 := HB1.out.trans (hb2.mono HB1.out.size)
  have HB2 := Lib.hid (And.intro hb2 hb02)
  clear c0 c1 c2 c3 c4 c5 c6 c7 c8 hmi hdi
  obtain ⟨⟨c0, c1, c2⟩, ⟨c3, c4, c5⟩, c6, c7, c8⟩ := HBK.out w2 hb2
  obtain ⟨b, off, hA, -, p0, p1, p2⟩ := (HSC.out.on hb02).tabs.tbl hi
  rw [hA] at c0
  obtain ⟨w3, hw3⟩ : ∃ w3, w3 = w2.alloc (.cells #[.string s.tabs[i].name, .slice s.tabs[i].CA s.tabs[i].cols.length s.tabs[i].cc, .slice s.tabs[i].PA s.tabs[i].pk.length s.tabs[i].pc] 71) := ⟨_, rfl⟩
  have hb3 : Below w2.heap.size w2 w3 := by rw [hw3]; exact (Below.refl _ _).alloc (Nat.le_refl _) _
  have hg3 : w3.heap[w2.heap.size]? = some (.cells #[.string s.tabs[i].name, .slice s.tabs[i].CA s.tabs[i].cols.length s.tabs[i].cc, .slice s.tabs[i].PA s.tabs[i].pk.length s.tabs[i].pc] 71 (0, 0)) := by rw [hw3]; exact heap_alloc_new w2 _
  have hs3 : w2.heap.size < w3.heap.size := by rw [hw3]; simp
  have HTB : Hid (∀ W, Below w3.heap.size w3 W → W.cell? ⟨w2.heap.size, 1, none⟩ = some (.slice s.tabs[i].CA s.tabs[i].cols.length s.tabs[i].cc) ∧ W.cell? ⟨w2.heap.size, 2, none⟩ = some (.slice s.tabs[i].PA s.tabs[i].pk.length s.tabs[i].pc)) := Lib.hid fun W hW => by
    have h := (hW.block w2.heap.size hs3).trans hg3
    exact ⟨cell_of_row _ _ 1 _ _ _ h, cell_of_row _ _ 2 _ _ _ h⟩
  have HB3 := Lib.hid (And.intro (hb2.trans (hb3.mono hb2.size)) (hb02.trans (hb3.mono hb02.size)))
  have HTK := Lib.hid (HSC.out.tab _ (List.getElem_mem hi))
  have HW3 := Lib.hid hw3
  obtain ⟨x1, x2⟩ := HTB.out w3 (Below.refl _ _)
  clear hb2 hb02 hb3 hg3 hs3 hw3 hA
  go_upto_region 7 with fail
  rw [← HW3.out]
  clear c0 c1 c2 c3 c4 c5 c6 c7 c8 p0 p1 p2
  obtain ⟨⟨c0, c1, c2⟩, ⟨c3, c4, c5⟩, c6, c7, c8⟩ := HBK.out w3 HB3.out.1
  generalize hq : s.tabs[i] = q at *
  obtain ⟨q0, qCA, qcc, qcols, qPA, qpc, qpk⟩ := q
  have HQ := Lib.hid hq
  simp only at *
  clear hq
  go_upto_if 42 with fail
  go_cut [10] from 43 to 58 (fun v10 wx => ∃ A2 c2, v10 = .slice A2 n c2 ∧ Below w3.heap.size w3 wx ∧ Hid (Elems 3 Col.cs wx (· < wx.heap.size) A2 (acCols ⟨1, nm, OA, oc, ops⟩ ⟨q0, qCA, qcc, qcols, qPA, qpc, qpk⟩)))
  case first =>
    have hcl : qcols.length = n := by have h := HOL.out; have h2 : ops.length = qcols.length := h.2; omega
    have HF : Hid (∃ A2 c2, Value.slice qCA qcols.length qcc = .slice A2 n c2 ∧ Below w3.heap.size w3 w3 ∧ Hid (Elems 3 Col.cs w3 (· < w3.heap.size) A2 (acCols ⟨1, nm, OA, oc, ops⟩ ⟨q0, qCA, qcc, qcols, qPA, qpc, qpk⟩))) := Lib.hid ⟨_, _, by rw [hcl], Below.refl _ _, Lib.hid ((HTK.out.on HB3.out.2).cols)⟩
    clear hcl
    go_wp2_with fail
    go_meet
    exact HF.out
  case rest =>
    obtain ⟨A2, cc2, rfl, hbc, HEL⟩ := hcut
    obtain ⟨wy, rfl⟩ : ∃ wy, wy = wc := ⟨_, rfl⟩
    generalize hql : acCols ⟨1, nm, OA, oc, ops⟩ ⟨q0, qCA, qcc, qcols, qPA, qpc, qpk⟩ = ql at *
    have hqn : ql.length = n := by have h := HOL.out; omega
    have HOQ : Hid (∀ (k : Nat) (h1 : k < ops.length) (h2 : k < ql.length), OpC t ops[k] ql[k] ql[k].null) := Lib.hid fun k h1 h2 => HOP.out k h1 h2
    have HBC := Lib.hid (And.intro (HB3.out.1.trans (hbc.mono HB3.out.1.size)) (HB3.out.2.trans (hbc.mono HB3.out.2.size)))
    have HQN := Lib.hid hqn
    clear HOP HOL HPK HTB HTK HQ c0 c1 c2 c3 c4 c5 c6 c7 c8 x1 x2 hql hqn hbc
    obtain ⟨⟨c0, c1, c2⟩, ⟨c3, c4, c5⟩, c6, c7, c8⟩ := HBK.out wy HBC.out.1
    go_wp2_with fail
    go_loopw [68] (fun vi wr => ∃ k : Nat, vi = .int .i64 (k : Int) ∧ k ≤ n ∧ Below wy.heap.size wy wr) (fun vi _ => n - (intOf vi).toNat)
    case atStart => exact ⟨0, rfl, by omega, Below.refl _ _⟩
    case round =>
      obtain ⟨k, rfl, hkn, hb⟩ := hrel
      obtain ⟨wo, rfl⟩ : ∃ wo, wo = wr := ⟨_, rfl⟩
      by_cases hlt : k < n
      · have hkq : k < ql.length := by have := HQN.out; omega
        have hko : k < ops.length := by have h := HO.out; have := HON.out; omega
        have hbw := HBC.out.2.trans (hb.mono HBC.out.2.size)
        obtain ⟨b5, off5, rfl, -, q0', q1', q2', q3'⟩ := (HO.out.on hbw).opd hko
        obtain ⟨b6, off6, rfl, -, r0, r1, r2⟩ := (HEL.out.on hb).col hkq
        have hoc := HOQ.out k hko hkq
        have hlt' : (k : Int) < (n : Int) := by omega
        obtain ⟨w5, hw5⟩ : ∃ w5, w5 = wo.alloc (.cells #[.int .i64 ops[k], .int .i64 0, .int .i64 0, .string ⟨#[]⟩] 102) := ⟨_, rfl⟩
        have hb5 : Below wo.heap.size wo w5 := by rw [hw5]; exact (Below.refl _ _).alloc (Nat.le_refl _) _
        have hg5 : w5.heap[wo.heap.size]? = some (.cells #[.int .i64 ops[k], .int .i64 0, .int .i64 0, .string ⟨#[]⟩] 102 (0, 0)) := by rw [hw5]; exact heap_alloc_new wo _
        have hs5 : wo.heap.size < w5.heap.size := by rw [hw5]; simp
        have hby5 : Below wy.heap.size wy w5 := hb.trans (hb5.mono hb.size)
        have hS : ∀ W, Below w5.heap.size w5 W → W.cell? ⟨w.heap.size + 1, 0, none⟩ = some (.string t.name) ∧ W.cell? ⟨w.heap.size + 1, 1, none⟩ = some (.slice t.CA t.cols.length t.cc) ∧ W.cell? ⟨w.heap.size + 1, 2, none⟩ = some (.slice t.PA t.pk.length t.pc)
            ∧ W.cell? ⟨wo.heap.size, 0, none⟩ = some (.int .i64 ops[k]) ∧ W.cell? ⟨wo.heap.size, 1, none⟩ = some (.int .i64 0) ∧ W.cell? ⟨wo.heap.size, 2, none⟩ = some (.int .i64 0) ∧ W.cell? ⟨wo.heap.size, 3, none⟩ = some (.string ⟨#[]⟩)
            ∧ W.cell? ⟨b6, off6 + k * 3, none⟩ = some (.string ql[k].name) ∧ W.cell? ⟨b6, off6 + k * 3 + 1, none⟩ = some (.int .i64 ql[k].kind) ∧ W.cell? ⟨b6, off6 + k * 3 + 2, none⟩ = some (.bool ql[k].null)
            ∧ W.cell? ⟨w.heap.size + 1 + 1, 0, none⟩ = some (.int .i64 1) := fun W hW => by
          have hwy : Below wy.heap.size wy W := hby5.trans (hW.mono hby5.size)
          obtain ⟨-, ⟨k3, k4, k5⟩, k6, -, -⟩ := HBK.out W (HBC.out.1.trans (hwy.mono HBC.out.1.size))
          have h5 := (hW.block wo.heap.size hs5).trans hg5
          obtain ⟨b7, off7, hA7, -, r0', r1', r2'⟩ := (HEL.out.on hwy).col hkq
          injection hA7 with hA7
          injection hA7 with e1 e2
          subst e1 e2
          exact ⟨k3, k4, k5, cell_of_row _ _ 0 _ _ _ h5, cell_of_row _ _ 1 _ _ _ h5, cell_of_row _ _ 2 _ _ _ h5, cell_of_row _ _ 3 _ _ _ h5, r0', r1', r2', k6⟩
        have HCO : Hid (∀ m, Calls Tryz.prog 102 #[.agg #[.string t.name, .slice t.CA t.cols.length t.cc, .slice t.PA t.pk.length t.pc], .agg #[.int .i64 ops[k], .int .i64 0, .int .i64 0, .string ⟨#[]⟩], .agg #[.string ql[k].name, .int .i64 ql[k].kind, .bool ql[k].null], .bool ql[k].null] (w5.drewN m) fun e w9 => e = .returned (.int .i64 0) ∧ Below w5.heap.size w5 w9) := Lib.hid fun m => by
          have hd : Below w5.heap.size w5 (w5.drewN m) := below_drewN (Below.refl _ _) m
          have hbo := hby5.trans (hd.mono hby5.size)
          refine (checkOperand t ops[k] ql[k] _ (w5.drewN m) (HTT.out.on (HBC.out.2.trans (hbo.mono HBC.out.2.size))) HTL.out hoc).mono ?_
          rintro e w9 ⟨rfl, hb9⟩
          exact ⟨rfl, hd.trans hb9⟩
        have HS := Lib.hid hS
        have s5 := hS w5 (Below.refl _ _)
        have HBY := Lib.hid hby5
        have HW5 := Lib.hid hw5
        clear hw5 hb5 hg5 hs5 hby5 hS hoc hbw hb
        generalize ops[k] = o at *
        generalize ql[k] = q at *
        go_upto_region 20 with fail
        rw [← HW5.out]
        go_region_held3 (fun W => W.cell? ⟨w.heap.size + 1, 0, none⟩ = some (.string t.name) ∧ W.cell? ⟨w.heap.size + 1, 1, none⟩ = some (.slice t.CA t.cols.length t.cc) ∧ W.cell? ⟨w.heap.size + 1, 2, none⟩ = some (.slice t.PA t.pk.length t.pc)
            ∧ W.cell? ⟨wo.heap.size, 0, none⟩ = some (.int .i64 o) ∧ W.cell? ⟨wo.heap.size, 1, none⟩ = some (.int .i64 0) ∧ W.cell? ⟨wo.heap.size, 2, none⟩ = some (.int .i64 0) ∧ W.cell? ⟨wo.heap.size, 3, none⟩ = some (.string ⟨#[]⟩)
            ∧ W.cell? ⟨b6, off6 + k * 3, none⟩ = some (.string q.name) ∧ W.cell? ⟨b6, off6 + k * 3 + 1, none⟩ = some (.int .i64 q.kind) ∧ W.cell? ⟨b6, off6 + k * 3 + 2, none⟩ = some (.bool q.null)
            ∧ W.cell? ⟨w.heap.size + 1 + 1, 0, none⟩ = some (.int .i64 1)) (first | exact s5 | exact s9)
          (first
          | (go_at_call 102; refine (HCO.out 1).mono ?_; rintro e w9 ⟨rfl, hb9⟩; have s9 := HS.out w9 hb9))
        all_goals
          have HB9 := Lib.hid (HBY.out.trans (hb9.mono HBY.out.size))
          clear hb9 s9
          go_wp2_with fail
          go_roundw
          case rel => exact ⟨k + 1, by go_num, by omega, HB9.out⟩
          case measure => simp [intOf]; omega
      · have hkn' : k = n := by omega
        subst hkn'
        have HF := Lib.hid (HBC.out.2.trans (hb.mono HBC.out.2.size))
        clear hb
        go_wp2_with fail
        go_ret
        exact ⟨rfl, HF.out⟩

set_option linter.unusedSimpArgs false in
set_option maxRecDepth 100000 in
set_option maxHeartbeats 8000000 in
theorem checkActionDel (s : Sc) (t : Tbl) (a : Ac) (w : World) (hs : ScOk (· < w.heap.size) w s) (ht : TOk (· < w.heap.size) w t) (ho : Elems 4 opdCs w (· < w.heap.size) a.A a.ops) (hc : AcC s t a) (hk : a.kind = 2) (hl : s.tabs.length ≤ 1000) (htl : t.cols.length ≤ 1000) :
    Calls Tryz.prog 67 #[s.v, t.val, a.val] w fun e w' => e = .returned (.int .i64 0) ∧ Below w.heap.size w w' := by
  obtain ⟨-, i, hi, hti, hol, hol2, hpk, hop⟩ := hc
  obtain ⟨kind, nm, OA, oc, ops⟩ := a
  have hk : kind = 2 := hk
  subst hk
  obtain ⟨n, hn⟩ : ∃ n, ops.length = n := ⟨_, rfl⟩
  simp only at hti hol hol2 hop
  have hn100 : n ≤ 100 := by omega
  obtain ⟨w1, hw1⟩ : ∃ w1, w1 = ((w.alloc (.cells s.cells 27)).alloc (.cells #[.string t.name, .slice t.CA t.cols.length t.cc, .slice t.PA t.pk.length t.pc] 71)).alloc (.cells #[.int .i64 2, .string nm, .slice OA n oc] 105) := ⟨_, rfl⟩
  have hb1 : Below w.heap.size w w1 := by rw [hw1]; exact (((Below.refl _ _).alloc (Nat.le_refl _) _).alloc (le_size1 (Nat.le_refl _) _) _).alloc (le_size2 (Nat.le_refl _) _ _) _
  have g0 : w1.heap[w.heap.size]? = some (.cells s.cells 27 (0, 0)) := by
    rw [hw1, Below.heap_alloc _ _ _ (by simp; omega), Below.heap_alloc _ _ _ (by simp)]
    exact heap_alloc_new w _
  have g1 : w1.heap[w.heap.size + 1]? = some (.cells #[.string t.name, .slice t.CA t.cols.length t.cc, .slice t.PA t.pk.length t.pc] 71 (0, 0)) := by
    rw [hw1, Below.heap_alloc _ _ _ (by simp)]
    exact alloc2_at w _ _
  have g2 : w1.heap[w.heap.size + 1 + 1]? = some (.cells #[.int .i64 2, .string nm, .slice OA n oc] 105 (0, 0)) := by
    rw [hw1]
    have h := heap_alloc_new ((w.alloc (.cells s.cells 27)).alloc (.cells #[.string t.name, .slice t.CA t.cols.length t.cc, .slice t.PA t.pk.length t.pc] 71)) (.cells #[.int .i64 2, .string nm, .slice OA n oc] 105)
    simpa using h
  have hs1 : w1.heap.size = w.heap.size + 3 := by rw [hw1]; simp
  have HBK : Hid (∀ W, Below w1.heap.size w1 W → (W.cell? ⟨w.heap.size, 0, none⟩ = some (.slice s.TA s.tabs.length s.tc) ∧ W.cell? ⟨w.heap.size, 1, none⟩ = some (.slice s.FA s.fks.length s.fc) ∧ W.cell? ⟨w.heap.size, 2, none⟩ = some (.slice s.NA s.cns.length s.nc))
      ∧ (W.cell? ⟨w.heap.size + 1, 0, none⟩ = some (.string t.name) ∧ W.cell? ⟨w.heap.size + 1, 1, none⟩ = some (.slice t.CA t.cols.length t.cc) ∧ W.cell? ⟨w.heap.size + 1, 2, none⟩ = some (.slice t.PA t.pk.length t.pc))
      ∧ (W.cell? ⟨w.heap.size + 1 + 1, 0, none⟩ = some (.int .i64 2) ∧ W.cell? ⟨w.heap.size + 1 + 1, 1, none⟩ = some (.string nm) ∧ W.cell? ⟨w.heap.size + 1 + 1, 2, none⟩ = some (.slice OA n oc))) := Lib.hid fun W hW => by
    have h0 := (hW.block w.heap.size (by omega)).trans g0
    have h1 := (hW.block (w.heap.size + 1) (by omega)).trans g1
    have h2 := (hW.block (w.heap.size + 1 + 1) (by omega)).trans g2
    unfold Sc.cells at h0
    exact ⟨⟨cell_of_row _ _ 0 _ _ _ h0, cell_of_row _ _ 1 _ _ _ h0, cell_of_row _ _ 2 _ _ _ h0⟩, ⟨cell_of_row _ _ 0 _ _ _ h1, cell_of_row _ _ 1 _ _ _ h1, cell_of_row _ _ 2 _ _ _ h1⟩, ⟨cell_of_row _ _ 0 _ _ _ h2, cell_of_row _ _ 1 _ _ _ h2, cell_of_row _ _ 2 _ _ _ h2⟩⟩
  have HFT := Lib.hid fun W (hW : Below w.heap.size w W) => findTable s nm W (hs.on hW) hl
  have HSC := Lib.hid hs
  have HTT := Lib.hid ht
  have HO := Lib.hid ho
  have HOP := Lib.hid hop
  have HPK := Lib.hid hpk
  have HTI := Lib.hid hti
  have HOL := Lib.hid (And.intro hn hol)
  have HTL := Lib.hid htl
  have HON := Lib.hid hn
  have HB1 := Lib.hid hb1
  have HS1 := Lib.hid hs1
  have HW1 := Lib.hid hw1
  have hin : (i : Int) < (s.tabs.length : Int) := by omega
  obtain ⟨⟨c0, c1, c2⟩, ⟨c3, c4, c5⟩, c6, c7, c8⟩ := HBK.out w1 (Below.refl _ _)
  unfold Sc.cells at HW1
  unfold Sc.v Sc.cells at HFT ⊢
  unfold Tbl.val Ac.val
  simp only
  rw [hn]
  clear hs ht ho hop hpk hti hol hol2 htl hb1 hw1 g0 g1 g2 hs1 hn
  go_enter Tryz.func67, Tryz.ntmps67
  go_upto_region 1 with fail
  rw [← HW1.out]
  go_wp2_with fail
  refine (HFT.out w1 HB1.out).mono ?_
  rintro e w2 ⟨rfl, hb2⟩
  rw [HTI.out]
  have hmi : max (i : Int) 0 = (i : Int) := by omega
  have hdi : decide (0 ≤ (i : Int)) = true := decide_eq_true (by omega)
  unfold findV
  rw [hmi, hdi]
  have hb02 := HB1.out.trans (hb2.mono HB1.out.size)
  have HB2 := Lib.hid (And.intro hb2 hb02)
  clear c0 c1 c2 c3 c4 c5 c6 c7 c8 hmi hdi
  obtain ⟨⟨c0, c1, c2⟩, ⟨c3, c4, c5⟩, c6, c7, c8⟩ := HBK.out w2 hb2
  obtain ⟨b, off, hA, -, p0, p1, p2⟩ := (HSC.out.on hb02).tabs.tbl hi
  rw [hA] at c0
  obtain ⟨w3, hw3⟩ : ∃ w3, w3 = w2.alloc (.cells #[.string s.tabs[i].name, .slice s.tabs[i].CA s.tabs[i].cols.length s.tabs[i].cc, .slice s.tabs[i].PA s.tabs[i].pk.length s.tabs[i].pc] 71) := ⟨_, rfl⟩
  have hb3 : Below w2.heap.size w2 w3 := by rw [hw3]; exact (Below.refl _ _).alloc (Nat.le_refl _) _
  have hg3 : w3.heap[w2.heap.size]? = some (.cells #[.string s.tabs[i].name, .slice s.tabs[i].CA s.tabs[i].cols.length s.tabs[i].cc, .slice s.tabs[i].PA s.tabs[i].pk.length s.tabs[i].pc] 71 (0, 0)) := by rw [hw3]; exact heap_alloc_new w2 _
  have hs3 : w2.heap.size < w3.heap.size := by rw [hw3]; simp
  have HTB : Hid (∀ W, Below w3.heap.size w3 W → W.cell? ⟨w2.heap.size, 1, none⟩ = some (.slice s.tabs[i].CA s.tabs[i].cols.length s.tabs[i].cc) ∧ W.cell? ⟨w2.heap.size, 2, none⟩ = some (.slice s.tabs[i].PA s.tabs[i].pk.length s.tabs[i].pc)) := Lib.hid fun W hW => by
    have h := (hW.block w2.heap.size hs3).trans hg3
    exact ⟨cell_of_row _ _ 1 _ _ _ h, cell_of_row _ _ 2 _ _ _ h⟩
  have HB3 := Lib.hid (And.intro (hb2.trans (hb3.mono hb2.size)) (hb02.trans (hb3.mono hb02.size)))
  have HTK := Lib.hid (HSC.out.tab _ (List.getElem_mem hi))
  have HW3 := Lib.hid hw3
  obtain ⟨x1, x2⟩ := HTB.out w3 (Below.refl _ _)
  clear hb2 hb02 hb3 hg3 hs3 hw3 hA
  go_upto_region 7 with fail
  rw [← HW3.out]
  clear c0 c1 c2 c3 c4 c5 c6 c7 c8 p0 p1 p2
  obtain ⟨⟨c0, c1, c2⟩, ⟨c3, c4, c5⟩, c6, c7, c8⟩ := HBK.out w3 HB3.out.1
  generalize hq : s.tabs[i] = q at *
  obtain ⟨q0, qCA, qcc, qcols, qPA, qpc, qpk⟩ := q
  have HQ := Lib.hid hq
  simp only at *
  clear hq
  go_upto_if 42 with fail
  go_cut [10] from 43 to 58 (fun v10 wx => ∃ A2 c2, v10 = .slice A2 n c2 ∧ Below w3.heap.size w3 wx ∧ Hid (Elems 3 Col.cs wx (· < wx.heap.size) A2 (acCols ⟨2, nm, OA, oc, ops⟩ ⟨q0, qCA, qcc, qcols, qPA, qpc, qpk⟩)))
  case first =>
    obtain ⟨m, hm⟩ : ∃ m, qpk.length = m := ⟨_, rfl⟩
    have hmn : m = n := by
      have h := HOL.out
      have h2 : ops.length = (qpk.map fun k => qcols.getD k.toNat col0).length := h.2
      rw [List.length_map] at h2
      omega
    subst hmn
    obtain ⟨l, hl2⟩ : ∃ l, qcols.length = l := ⟨_, rfl⟩
    rw [hm] at x2
    have HM := Lib.hid (And.intro hm hl2)
    clear hm hl2
    go_wp2_with fail
    go_loopw [10, 46] (fun v10 vi wr => ∃ k : Nat, vi = .int .i64 (k : Int) ∧ k ≤ m ∧ Own 3 Col.cs 68 w3.heap.size wr v10 (pkC qcols (qpk.take k)) ∧ Below w3.heap.size w3 wr) (fun _ vi _ => m - (intOf vi).toNat)
    case atStart => exact ⟨0, rfl, by omega, Own.nil _, Below.refl _ _⟩
    case round =>
      obtain ⟨k, rfl, hkn, hT⟩ := hrel
      obtain ⟨wo, rfl⟩ : ∃ wo, wo = wr := ⟨_, rfl⟩
      obtain ⟨v10, rfl⟩ : ∃ v10, v10 = u10 := ⟨_, rfl⟩
      obtain ⟨hw, hb⟩ := hT
      by_cases hlt : k < m
      · have hki : k < qpk.length := by have := HM.out.1; omega
        have htk := HTK.out.on (HB3.out.2.trans (hb.mono HB3.out.2.size))
        obtain ⟨b3, off3, hA3, -, y0⟩ := htk.pk.int hki
        have y0 : wo.cell? ⟨b3, off3 + k, none⟩ = some (.int .i64 qpk[k]) := y0
        have hA3 : qPA = some ⟨b3, off3, none⟩ := hA3
        obtain ⟨hp0, hp1⟩ := HPK.out _ (List.getElem_mem hki)
        obtain ⟨p, hp⟩ := Int.eq_ofNat_of_zero_le hp0
        have hpp : qpk[k] = (p : Int) := hp
        have hpl : p < qcols.length := by
          have h : qpk[k].toNat < qcols.length := hp1
          rwa [hpp, Int.toNat_natCast] at h
        obtain ⟨b4, off4, hA4, -, z0, z1, z2⟩ := htk.cols.col hpl
        have z0 : wo.cell? ⟨b4, off4 + p * 3, none⟩ = some (.string qcols[p].name) := z0
        have z1 : wo.cell? ⟨b4, off4 + p * 3 + 1, none⟩ = some (.int .i64 qcols[p].kind) := z1
        have z2 : wo.cell? ⟨b4, off4 + p * 3 + 2, none⟩ = some (.bool qcols[p].null) := z2
        have hA4 : qCA = some ⟨b4, off4, none⟩ := hA4
        rw [hpp] at y0
        obtain ⟨x1', x2'⟩ := HTB.out wo hb
        have x1' : wo.cell? ⟨w2.heap.size, 1, none⟩ = some (.slice qCA qcols.length qcc) := x1'
        rw [HM.out.2, hA4] at x1'
        have hlt' : (k : Int) < (m : Int) := by omega
        have hpl' : (p : Int) < (l : Int) := by have := HM.out.2; omega
        have HKO : Hid (pkC qcols (qpk.take (k + 1)) = pkC qcols (qpk.take k) ++ [qcols[p]]) := Lib.hid (by
          unfold pkC
          rw [List.take_succ_eq_append_getElem hki, List.map_append, List.map_singleton, hpp, Int.toNat_natCast, List.getD_eq_getElem?_getD, List.getElem?_eq_getElem hpl]
          rfl)
        obtain ⟨ys, hys⟩ : ∃ ys, ys = pkC qcols (qpk.take k) := ⟨_, rfl⟩
        rw [← hys] at HKO hw
        have hlen : ys.length = k := by rw [hys]; unfold pkC; rw [List.length_map, List.length_take]; omega
        have HL1 : Hid ((ys.length + 1) * 32 ≤ 140737488355328) := Lib.hid (by rw [hlen]; omega)
        have HL2 : Hid (ys.length + 1 ≤ maxLen) := Lib.hid (by rw [hlen]; unfold maxLen; omega)
        have HO2 := Lib.hid hw
        have HS2 : Hid (w3.heap.size ≤ wo.heap.size) := Lib.hid hb.size
        have HFR : Hid (∀ w4 v4, Ext wo v10 w4 v4 → Below w3.heap.size w3 w4) := Lib.hid fun w4 v4 hx => hb.trans (hx.below hb.size fun g hg => (Own.lt hw g hg).1)
        clear hlen hys hw hb hp0 hp1 hp hpp x2' htk
        subst hA3
        generalize qcols[p] = x at *
        go_wp2_with (at_builtin; refine wpList_app rfl (.tmp 50) (.tmp 56) _ _ rfl rfl rfl (run_push elem_cols colLay _ _ _ ys x #[.string x.name, .int .i64 x.kind, .bool x.null] HO2.out rfl HL1.out HL2.out HS2.out rfl) ?_; rintro v2 w4 ⟨ho2, hx2⟩)
        have HF : Hid (Own 3 Col.cs 68 w3.heap.size w4 v2 (pkC qcols (qpk.take (k + 1))) ∧ Below w3.heap.size w3 w4) := Lib.hid ⟨by rw [HKO.out]; exact ho2, HFR.out _ _ hx2⟩
        clear ho2 hx2
        go_wp2_with fail
        go_roundw
        case rel =>
          refine ⟨v2, _, _, ⟨k + 1, ?_, by omega, HF.out.1, HF.out.2⟩, rfl, rfl, rfl⟩
          go_num
        case measure => simp [intOf]; omega
      · have hkn' : k = m := by omega
        subst hkn'
        rw [List.take_of_length_le (by have := HM.out.1; omega)] at hw
        have hlen : (pkC qcols qpk).length = k := by unfold pkC; rw [List.length_map]; exact HM.out.1
        obtain ⟨A2, c2, hv, -, -⟩ := hw.form
        rw [hlen] at hv
        subst hv
        have HF : Hid (∃ A3 c3, Value.slice A2 k c2 = .slice A3 k c3 ∧ Below w3.heap.size w3 wo ∧ Hid (Elems 3 Col.cs wo (· < wo.heap.size) A3 (acCols ⟨2, nm, OA, oc, ops⟩ ⟨q0, qCA, qcc, qcols, qPA, qpc, qpk⟩))) := Lib.hid ⟨_, _, rfl, hb, Lib.hid ((hw.elems colLay.len rfl).more fun g hg => (Own.lt hw g hg).2)⟩
        clear hw hb hlen
        go_wp2_with fail
        go_meet
        exact HF.out
  case rest =>
    obtain ⟨A2, cc2, rfl, hbc, HEL⟩ := hcut
    obtain ⟨wy, rfl⟩ : ∃ wy, wy = wc := ⟨_, rfl⟩
    generalize hql : acCols ⟨2, nm, OA, oc, ops⟩ ⟨q0, qCA, qcc, qcols, qPA, qpc, qpk⟩ = ql at *
    have hqn : ql.length = n := by have h := HOL.out; omega
    have HOQ : Hid (∀ (k : Nat) (h1 : k < ops.length) (h2 : k < ql.length), OpC t ops[k] ql[k] false) := Lib.hid fun k h1 h2 => HOP.out k h1 h2
    have HBC := Lib.hid (And.intro (HB3.out.1.trans (hbc.mono HB3.out.1.size)) (HB3.out.2.trans (hbc.mono HB3.out.2.size)))
    have HQN := Lib.hid hqn
    clear HOP HOL HPK HTB HTK HQ c0 c1 c2 c3 c4 c5 c6 c7 c8 x1 x2 hql hqn hbc
    obtain ⟨⟨c0, c1, c2⟩, ⟨c3, c4, c5⟩, c6, c7, c8⟩ := HBK.out wy HBC.out.1
    go_wp2_with fail
    go_loopw [68] (fun vi wr => ∃ k : Nat, vi = .int .i64 (k : Int) ∧ k ≤ n ∧ Below wy.heap.size wy wr) (fun vi _ => n - (intOf vi).toNat)
    case atStart => exact ⟨0, rfl, by omega, Below.refl _ _⟩
    case round =>
      obtain ⟨k, rfl, hkn, hb⟩ := hrel
      obtain ⟨wo, rfl⟩ : ∃ wo, wo = wr := ⟨_, rfl⟩
      by_cases hlt : k < n
      · have hkq : k < ql.length := by have := HQN.out; omega
        have hko : k < ops.length := by have h := HO.out; have := HON.out; omega
        have hbw := HBC.out.2.trans (hb.mono HBC.out.2.size)
        obtain ⟨b5, off5, rfl, -, q0', q1', q2', q3'⟩ := (HO.out.on hbw).opd hko
        obtain ⟨b6, off6, rfl, -, r0, r1, r2⟩ := (HEL.out.on hb).col hkq
        have hoc := HOQ.out k hko hkq
        have hlt' : (k : Int) < (n : Int) := by omega
        obtain ⟨w5, hw5⟩ : ∃ w5, w5 = wo.alloc (.cells #[.int .i64 ops[k], .int .i64 0, .int .i64 0, .string ⟨#[]⟩] 102) := ⟨_, rfl⟩
        have hb5 : Below wo.heap.size wo w5 := by rw [hw5]; exact (Below.refl _ _).alloc (Nat.le_refl _) _
        have hg5 : w5.heap[wo.heap.size]? = some (.cells #[.int .i64 ops[k], .int .i64 0, .int .i64 0, .string ⟨#[]⟩] 102 (0, 0)) := by rw [hw5]; exact heap_alloc_new wo _
        have hs5 : wo.heap.size < w5.heap.size := by rw [hw5]; simp
        have hby5 : Below wy.heap.size wy w5 := hb.trans (hb5.mono hb.size)
        have hS : ∀ W, Below w5.heap.size w5 W → W.cell? ⟨w.heap.size + 1, 0, none⟩ = some (.string t.name) ∧ W.cell? ⟨w.heap.size + 1, 1, none⟩ = some (.slice t.CA t.cols.length t.cc) ∧ W.cell? ⟨w.heap.size + 1, 2, none⟩ = some (.slice t.PA t.pk.length t.pc)
            ∧ W.cell? ⟨wo.heap.size, 0, none⟩ = some (.int .i64 ops[k]) ∧ W.cell? ⟨wo.heap.size, 1, none⟩ = some (.int .i64 0) ∧ W.cell? ⟨wo.heap.size, 2, none⟩ = some (.int .i64 0) ∧ W.cell? ⟨wo.heap.size, 3, none⟩ = some (.string ⟨#[]⟩)
            ∧ W.cell? ⟨b6, off6 + k * 3, none⟩ = some (.string ql[k].name) ∧ W.cell? ⟨b6, off6 + k * 3 + 1, none⟩ = some (.int .i64 ql[k].kind) ∧ W.cell? ⟨b6, off6 + k * 3 + 2, none⟩ = some (.bool ql[k].null)
            ∧ W.cell? ⟨w.heap.size + 1 + 1, 0, none⟩ = some (.int .i64 2) := fun W hW => by
          have hwy : Below wy.heap.size wy W := hby5.trans (hW.mono hby5.size)
          obtain ⟨-, ⟨k3, k4, k5⟩, k6, -, -⟩ := HBK.out W (HBC.out.1.trans (hwy.mono HBC.out.1.size))
          have h5 := (hW.block wo.heap.size hs5).trans hg5
          obtain ⟨b7, off7, hA7, -, r0', r1', r2'⟩ := (HEL.out.on hwy).col hkq
          injection hA7 with hA7
          injection hA7 with e1 e2
          subst e1 e2
          exact ⟨k3, k4, k5, cell_of_row _ _ 0 _ _ _ h5, cell_of_row _ _ 1 _ _ _ h5, cell_of_row _ _ 2 _ _ _ h5, cell_of_row _ _ 3 _ _ _ h5, r0', r1', r2', k6⟩
        have HCO : Hid (∀ m, Calls Tryz.prog 102 #[.agg #[.string t.name, .slice t.CA t.cols.length t.cc, .slice t.PA t.pk.length t.pc], .agg #[.int .i64 ops[k], .int .i64 0, .int .i64 0, .string ⟨#[]⟩], .agg #[.string ql[k].name, .int .i64 ql[k].kind, .bool ql[k].null], .bool false] (w5.drewN m) fun e w9 => e = .returned (.int .i64 0) ∧ Below w5.heap.size w5 w9) := Lib.hid fun m => by
          have hd : Below w5.heap.size w5 (w5.drewN m) := below_drewN (Below.refl _ _) m
          have hbo := hby5.trans (hd.mono hby5.size)
          refine (checkOperand t ops[k] ql[k] _ (w5.drewN m) (HTT.out.on (HBC.out.2.trans (hbo.mono HBC.out.2.size))) HTL.out hoc).mono ?_
          rintro e w9 ⟨rfl, hb9⟩
          exact ⟨rfl, hd.trans hb9⟩
        have HS := Lib.hid hS
        have s5 := hS w5 (Below.refl _ _)
        have HBY := Lib.hid hby5
        have HW5 := Lib.hid hw5
        clear hw5 hb5 hg5 hs5 hby5 hS hoc hbw hb
        generalize ops[k] = o at *
        generalize ql[k] = q at *
        go_upto_region 20 with fail
        rw [← HW5.out]
        refine wp_region_held_drew (S := (fun W => W.cell? ⟨w.heap.size + 1, 0, none⟩ = some (.string t.name) ∧ W.cell? ⟨w.heap.size + 1, 1, none⟩ = some (.slice t.CA t.cols.length t.cc) ∧ W.cell? ⟨w.heap.size + 1, 2, none⟩ = some (.slice t.PA t.pk.length t.pc)
            ∧ W.cell? ⟨wo.heap.size, 0, none⟩ = some (.int .i64 o) ∧ W.cell? ⟨wo.heap.size, 1, none⟩ = some (.int .i64 0) ∧ W.cell? ⟨wo.heap.size, 2, none⟩ = some (.int .i64 0) ∧ W.cell? ⟨wo.heap.size, 3, none⟩ = some (.string ⟨#[]⟩)
            ∧ W.cell? ⟨b6, off6 + k * 3, none⟩ = some (.string q.name) ∧ W.cell? ⟨b6, off6 + k * 3 + 1, none⟩ = some (.int .i64 q.kind) ∧ W.cell? ⟨b6, off6 + k * 3 + 2, none⟩ = some (.bool q.null)
            ∧ W.cell? ⟨w.heap.size + 1 + 1, 0, none⟩ = some (.int .i64 2))) (by kernel_rfl) s5 (fun hHeld => ?_)
        refine wpAnyH_take (i := 0) (oi := _) (v := ?_) rfl (by kernel_rfl) (by kernel_rfl) (by kernel_rfl) (fun _ _ _ h => h) (Or.inl ⟨by rfl, ?_⟩) hHeld ?_
        rotate_left
        · intro w hSw; (try dsimp only at hSw); go_simp; with_reducible rfl
        simp only [Act.put, List.setIfInBounds_toArray, List.set_cons_zero, List.set_cons_succ, List.getElem_toArray, List.getElem_cons_succ, List.getElem_cons_zero]
        refine wpAnyH_take (i := 1) (oi := _) (v := ?_) rfl (by kernel_rfl) (by kernel_rfl) (by kernel_rfl) (fun _ _ _ h => h) (Or.inl ⟨by rfl, ?_⟩) hHeld ?_
        rotate_left
        · intro w hSw; (try dsimp only at hSw); go_simp; with_reducible rfl
        simp only [Act.put, List.setIfInBounds_toArray, List.set_cons_zero, List.set_cons_succ, List.getElem_toArray, List.getElem_cons_succ, List.getElem_cons_zero]
        refine wpAnyH_take (i := 2) (oi := _) (v := ?_) rfl (by kernel_rfl) (by kernel_rfl) (by kernel_rfl) (fun _ _ _ h => h) (Or.inl ⟨by rfl, ?_⟩) hHeld ?_
        rotate_left
        · intro w hSw; (try dsimp only at hSw); go_simp; with_reducible rfl
        simp only [Act.put, List.setIfInBounds_toArray, List.set_cons_zero, List.set_cons_succ, List.getElem_toArray, List.getElem_cons_succ, List.getElem_cons_zero]
        refine wpAnyH_take (i := 3) (oi := _) (v := ?_) rfl (by kernel_rfl) (by kernel_rfl) (by kernel_rfl) (fun _ _ _ h => h) (Or.inl ⟨by rfl, ?_⟩) hHeld ?_
        rotate_left
        · intro w hSw; (try dsimp only at hSw); go_simp; with_reducible rfl
        simp only [Act.put, List.setIfInBounds_toArray, List.set_cons_zero, List.set_cons_succ, List.getElem_toArray, List.getElem_cons_succ, List.getElem_cons_zero]
        refine wpAnyH_take (i := 4) (oi := _) (v := ?_) rfl (by kernel_rfl) (by kernel_rfl) (by kernel_rfl) (fun _ _ _ h => h) (Or.inl ⟨by rfl, ?_⟩) hHeld ?_
        rotate_left
        · intro w hSw; (try dsimp only at hSw); go_simp; with_reducible rfl
        simp only [Act.put, List.setIfInBounds_toArray, List.set_cons_zero, List.set_cons_succ, List.getElem_toArray, List.getElem_cons_succ, List.getElem_cons_zero]
        refine wpAnyH_take (i := 5) (oi := _) (v := ?_) rfl (by kernel_rfl) (by kernel_rfl) (by kernel_rfl) (fun _ _ _ h => h) (Or.inl ⟨by rfl, ?_⟩) hHeld ?_
        rotate_left
        · intro w hSw; (try dsimp only at hSw); go_simp; with_reducible rfl
        simp only [Act.put, List.setIfInBounds_toArray, List.set_cons_zero, List.set_cons_succ, List.getElem_toArray, List.getElem_cons_succ, List.getElem_cons_zero]
        refine wpAnyH_take (i := 6) (oi := _) (v := ?_) rfl (by kernel_rfl) (by kernel_rfl) (by kernel_rfl) (fun _ _ _ h => h) (Or.inl ⟨by rfl, ?_⟩) hHeld ?_
        rotate_left
        · intro w hSw; (try dsimp only at hSw); go_simp; with_reducible rfl
        simp only [Act.put, List.setIfInBounds_toArray, List.set_cons_zero, List.set_cons_succ, List.getElem_toArray, List.getElem_cons_succ, List.getElem_cons_zero]
        refine wpAnyH_take (i := 7) (oi := _) (v := ?_) rfl (by kernel_rfl) (by kernel_rfl) (by kernel_rfl) (fun _ _ _ h => h) (Or.inl ⟨by rfl, ?_⟩) hHeld ?_
        rotate_left
        · intro w hSw; (try dsimp only at hSw); go_simp; with_reducible rfl
        simp only [Act.put, List.setIfInBounds_toArray, List.set_cons_zero, List.set_cons_succ, List.getElem_toArray, List.getElem_cons_succ, List.getElem_cons_zero]
        refine wpAnyH_take (i := 8) (oi := _) (v := ?_) rfl (by kernel_rfl) (by kernel_rfl) (by kernel_rfl) (fun _ _ _ h => h) (Or.inl ⟨by rfl, ?_⟩) hHeld ?_
        rotate_left
        · intro w hSw; (try dsimp only at hSw); go_simp; with_reducible rfl
        simp only [Act.put, List.setIfInBounds_toArray, List.set_cons_zero, List.set_cons_succ, List.getElem_toArray, List.getElem_cons_succ, List.getElem_cons_zero]
        refine wpAnyH_take (i := 9) (oi := _) (v := ?_) rfl (by kernel_rfl) (by kernel_rfl) (by kernel_rfl) (fun _ _ _ h => h) (Or.inl ⟨by rfl, ?_⟩) hHeld ?_
        rotate_left
        · intro w hSw; (try dsimp only at hSw); go_simp; with_reducible rfl
        simp only [Act.put, List.setIfInBounds_toArray, List.set_cons_zero, List.set_cons_succ, List.getElem_toArray, List.getElem_cons_succ, List.getElem_cons_zero]
        refine wpAnyH_take (i := 10) (oi := _) (v := undef) rfl (by kernel_rfl) (by kernel_rfl) (by kernel_rfl) (fun _ _ _ h => h) (Or.inr ⟨by rfl, rfl⟩) hHeld ?_
        simp only [Act.put, List.setIfInBounds_toArray, List.set_cons_zero, List.set_cons_succ, List.getElem_toArray, List.getElem_cons_succ, List.getElem_cons_zero]
        refine wpAnyH_take (i := 11) (oi := _) (v := undef) rfl (by kernel_rfl) (by kernel_rfl) (by kernel_rfl) (fun _ _ _ h => h) (Or.inr ⟨by rfl, rfl⟩) hHeld ?_
        simp only [Act.put, List.setIfInBounds_toArray, List.set_cons_zero, List.set_cons_succ, List.getElem_toArray, List.getElem_cons_succ, List.getElem_cons_zero]
        refine wpAnyH_take (i := 12) (oi := _) (v := undef) rfl (by kernel_rfl) (by kernel_rfl) (by kernel_rfl) (fun _ _ _ h => h) (Or.inr ⟨by rfl, rfl⟩) hHeld ?_
        simp only [Act.put, List.setIfInBounds_toArray, List.set_cons_zero, List.set_cons_succ, List.getElem_toArray, List.getElem_cons_succ, List.getElem_cons_zero]
        refine wpAnyH_take (i := 13) (oi := _) (v := undef) rfl (by kernel_rfl) (by kernel_rfl) (by kernel_rfl) (fun _ _ _ h => h) (Or.inr ⟨by rfl, rfl⟩) hHeld ?_
        simp only [Act.put, List.setIfInBounds_toArray, List.set_cons_zero, List.set_cons_succ, List.getElem_toArray, List.getElem_cons_succ, List.getElem_cons_zero]
        refine wpAnyH_take (i := 14) (oi := _) (v := undef) rfl (by kernel_rfl) (by kernel_rfl) (by kernel_rfl) (fun _ _ _ h => h) (Or.inr ⟨by rfl, rfl⟩) hHeld ?_
        simp only [Act.put, List.setIfInBounds_toArray, List.set_cons_zero, List.set_cons_succ, List.getElem_toArray, List.getElem_cons_succ, List.getElem_cons_zero]
        refine wpAnyH_take (i := 15) (oi := _) (v := ?_) rfl (by kernel_rfl) (by kernel_rfl) (by kernel_rfl) (fun _ _ _ h => h) (Or.inl ⟨by rfl, ?_⟩) hHeld ?_
        rotate_left
        · intro w hSw; (try dsimp only at hSw); go_simp; with_reducible rfl
        simp only [Act.put, List.setIfInBounds_toArray, List.set_cons_zero, List.set_cons_succ, List.getElem_toArray, List.getElem_cons_succ, List.getElem_cons_zero]
        refine wpAnyH_ready (rs := [16]) (by kernel_rfl) (by simp) ?_
        refine AllReadyH.cons (o := _) rfl (fun K hK => ?_) AllReadyH.nil
        (go_simp; go_at_call 102; refine (HCO.out 1).mono ?_; rintro e w9 ⟨rfl, hb9⟩; have s9 := HS.out w9 hb9; go_wp2_with fail)
        refine hK.out _ _ s9 (fun hHeld => ?_)
        clear hK K
        try simp only [Act.put, List.setIfInBounds_toArray, List.set_cons_zero, List.set_cons_succ, List.getElem_toArray, List.getElem_cons_succ, List.getElem_cons_zero]
        refine wpAnyH_take (i := 17) (oi := _) (v := ?_) rfl (by kernel_rfl) (by kernel_rfl) (by kernel_rfl) (fun _ _ _ h => h) (Or.inl ⟨by rfl, ?_⟩) hHeld ?_
        rotate_left
        · intro w hSw; (try dsimp only at hSw); go_simp; with_reducible rfl
        simp only [Act.put, List.setIfInBounds_toArray, List.set_cons_zero, List.set_cons_succ, List.getElem_toArray, List.getElem_cons_succ, List.getElem_cons_zero]
        refine wpAnyH_done (by kernel_rfl) ?_ _
        all_goals
          have HB9 := Lib.hid (HBY.out.trans (hb9.mono HBY.out.size))
          clear hb9 s9
          go_wp2_with fail
          go_roundw
          case rel => exact ⟨k + 1, by go_num, by omega, HB9.out⟩
          case measure => simp [intOf]; omega
      · have hkn' : k = n := by omega
        subst hkn'
        have HF := Lib.hid (HBC.out.2.trans (hb.mono HBC.out.2.size))
        clear hb
        go_wp2_with fail
        go_ret
        exact ⟨rfl, HF.out⟩
end Go.Proofs.YtefifkleamiabaaGreatDoor
