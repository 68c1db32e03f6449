/-
  The base schema, rows of items, the two triggers: that they fit. No program's walk.
-/
import Derived.Test.YtefifkleamiabaaG18
namespace Go.Proofs.Ytefifkleamiabaa
open Go.RowKit Go.Sort

def nItem : ByteArray := ⟨#[105, 116, 101, 109]⟩
def nOrder : ByteArray := ⟨#[111, 114, 100, 101, 114]⟩
def itemCols : List Col := [⟨⟨#[105, 100]⟩, 1, false⟩, ⟨⟨#[115, 105, 122, 101]⟩, 1, true⟩, ⟨⟨#[102, 105, 114, 115, 116]⟩, 3, false⟩, ⟨⟨#[108, 97, 115, 116]⟩, 3, false⟩]
def orderCols : List Col := [⟨⟨#[105, 100]⟩, 1, false⟩, ⟨⟨#[105, 116, 101, 109]⟩, 1, true⟩, ⟨⟨#[112, 97, 105, 100]⟩, 2, false⟩]
def bItem (A P : Option Addr) : Tbl := ⟨nItem, A, 4, itemCols, P, 1, [0]⟩
def bOrder (A P : Option Addr) : Tbl := ⟨nOrder, A, 3, orderCols, P, 1, [0]⟩
def bSc (T IA IP OA OP F FC N : Option Addr) : Sc := ⟨T, 2, [bItem IA IP, bOrder OA OP], F, 1, [⟨nOrder, FC, 1, [1], nItem⟩], N, 1, [⟨nItem, 1, ⟨#[60, 61]⟩, -1, ⟨1, 6, ⟨#[]⟩⟩⟩]⟩

theorem nItem_ok : NameV nItem := ⟨by decide +kernel, by decide +kernel, by decide +kernel, by decide +kernel⟩
theorem nOrder_ok : NameV nOrder := ⟨by decide +kernel, by decide +kernel, by decide +kernel, by decide +kernel⟩
theorem nm_ok (s : ByteArray) (h1 : 1 ≤ s.size := by decide +kernel) (h2 : s.size ≤ 12 := by decide +kernel)
    (h3 : ¬ (48 ≤ (s.data.toList.getD 0 0).toNat ∧ (s.data.toList.getD 0 0).toNat ≤ 57) := by decide +kernel)
    (h4 : ∀ j, j < s.size → (97 ≤ (s.data.toList.getD j 0).toNat ∧ (s.data.toList.getD j 0).toNat ≤ 122) ∨ (48 ≤ (s.data.toList.getD j 0).toNat ∧ (s.data.toList.getD j 0).toNat ≤ 57) := by decide +kernel) : NameV s := ⟨h1, h2, h3, h4⟩
theorem bItem_val (A P : Option Addr) : TabV (bItem A P) where
  name := nItem_ok
  ncols := by show 0 < 4 ∧ 4 ≤ 6; omega
  cname := fun c hc => by
    simp only [bItem, itemCols, List.mem_cons, List.not_mem_nil, or_false] at hc
    rcases hc with rfl | rfl | rfl | rfl <;> exact nm_ok _
  first := by show ∀ (i : Nat) (h : i < itemCols.length), max (colI itemCols[i].name itemCols) 0 = (i : Int); decide +kernel
  kind := by show ∀ c ∈ itemCols, 1 ≤ c.kind ∧ c.kind ≤ 3; decide +kernel
  npk := by show 0 < 1 ∧ 1 ≤ 1000; omega
  pk := by
    intro j h
    have h : j < 1 := h
    obtain rfl : j = 0 := by omega
    exact ⟨by show (0 : Int) ≤ 0; omega, by show 0 < 4; omega, rfl⟩
  ord := by show [(0 : Int)].Pairwise (· < ·); simp
theorem bOrder_val (A P : Option Addr) : TabV (bOrder A P) where
  name := nOrder_ok
  ncols := by show 0 < 3 ∧ 3 ≤ 6; omega
  cname := fun c hc => by
    simp only [bOrder, orderCols, List.mem_cons, List.not_mem_nil, or_false] at hc
    rcases hc with rfl | rfl | rfl <;> exact nm_ok _
  first := by show ∀ (i : Nat) (h : i < orderCols.length), max (colI orderCols[i].name orderCols) 0 = (i : Int); decide +kernel
  kind := by show ∀ c ∈ orderCols, 1 ≤ c.kind ∧ c.kind ≤ 3; decide +kernel
  npk := by show 0 < 1 ∧ 1 ≤ 1000; omega
  pk := by
    intro j h
    have h : j < 1 := h
    obtain rfl : j = 0 := by omega
    exact ⟨by show (0 : Int) ≤ 0; omega, by show 0 < 3; omega, rfl⟩
  ord := by show [(0 : Int)].Pairwise (· < ·); simp
section
variable {T IA IP OA OP F FC N : Option Addr}
theorem bSc_item : tabI nItem (bSc T IA IP OA OP F FC N).tabs = 0 := by
  refine fidx_at (k := 0) (by show 0 < 2; omega) ?_ (by intro x hx; cases hx)
  show (nItem.toList == nItem.toList) = true
  decide +kernel
theorem bSc_order : tabI nOrder (bSc T IA IP OA OP F FC N).tabs = 1 := by
  refine fidx_at (k := 1) (by show 1 < 2; omega) ?_ ?_
  · show (nOrder.toList == nOrder.toList) = true
    decide +kernel
  · intro x hx
    have hx : x ∈ [bItem IA IP] := hx
    rw [List.mem_singleton.1 hx]
    show (nItem.toList == nOrder.toList) = false
    decide +kernel
theorem bSc_val : SchV (bSc T IA IP OA OP F FC N) where
  ntab := by show 2 ≤ 6; omega
  tab := fun t ht => by
    simp only [bSc, List.mem_cons, List.not_mem_nil, or_false] at ht
    rcases ht with rfl | rfl
    · exact bItem_val _ _
    · exact bOrder_val _ _
  ord := by
    intro i h
    have h : i + 1 < 2 := h
    obtain rfl : i = 0 := by omega
    show Op.bytesLess nOrder.toList nItem.toList = false ∧ (nOrder.toList == nItem.toList) = false
    decide +kernel
  nfk := by show 1 ≤ 1; omega
  fk := fun f hf => by
    simp only [bSc, List.mem_cons, List.not_mem_nil, or_false] at hf
    subst hf
    refine ⟨by show 1 ≤ 1000; omega, 1, 0, by show 1 < 2; omega, by show 0 < 2; omega, bSc_order, bSc_item, rfl, ?_⟩
    intro j h h'
    have h : j < 1 := h
    obtain rfl : j = 0 := by omega
    show (0 : Int) ≤ 1 ∧ (1 : Int) < 3 ∧ (0 : Int) ≤ 0 ∧ (0 : Int) < 4 ∧ (1 : Int) = 1
    omega
  ncn := by show 1 ≤ 1; omega
  cn := fun c hc => by
    simp only [bSc, List.mem_cons, List.not_mem_nil, or_false] at hc
    subst hc
    exact ⟨0, 1, by show 0 < 2; omega, bSc_item, rfl, by show 1 < 4; omega, .inr (.inr rfl), rfl, rfl, by decide +kernel⟩
end

/-- An item's row. -/
def iRow (a b : Int) : Row := [⟨1, a, ⟨#[]⟩⟩, ⟨1, b, ⟨#[]⟩⟩, ⟨3, 0, ⟨#[]⟩⟩, ⟨3, 0, ⟨#[]⟩⟩]
theorem iErr {a : Int} (ha : 0 ≤ a ∧ a < 7) : (⟨1, a, ⟨#[]⟩⟩ : Val).err = 0 := by
  show vErr 1 a ⟨#[]⟩ = 0
  unfold vErr
  rw [if_neg (by omega), if_pos (.inl rfl), if_neg (by decide +kernel), if_neg (by omega)]
theorem iRow_ok {a b : Int} (ha : 0 ≤ a ∧ a < 7) (hb : 0 ≤ b ∧ b < 7) : RowC itemCols (iRow a b) where
  len := rfl
  err := fun v hv => by
    simp only [iRow, List.mem_cons, List.not_mem_nil, or_false] at hv
    rcases hv with rfl | rfl | rfl | rfl
    · exact iErr ha
    · exact iErr hb
    · decide +kernel
    · decide +kernel
  col := by
    intro i h
    have h : i < 4 := h
    rcases i with _ | _ | _ | _ | i
    · exact .inl ⟨rfl, by show (1 : Int) ≠ 0; omega⟩
    · exact .inl ⟨rfl, by show (1 : Int) ≠ 0; omega⟩
    · exact .inl ⟨rfl, by show (3 : Int) ≠ 0; omega⟩
    · exact .inl ⟨rfl, by show (3 : Int) ≠ 0; omega⟩
    · omega
def iKey (a : Int) : Row := [⟨1, a, ⟨#[]⟩⟩]
theorem iKey_ok {a : Int} (ha : 0 ≤ a ∧ a < 7) {A P : Option Addr} : KeyC (bItem A P) (iKey a) where
  len := rfl
  err := fun v hv => by
    simp only [iKey, List.mem_cons, List.not_mem_nil, or_false] at hv
    subst hv
    exact iErr ha
  col := by
    intro i h h'
    have h : i < 1 := h
    obtain rfl : i = 0 := by omega
    exact ⟨by show (0 : Int) ≤ 0; omega, by show 0 < 4; omega, rfl⟩
theorem iRow_key (a b : Int) : keyOf [0] (iRow a b) = iKey a := rfl
theorem cmpR_eq0 (k : Row) : cmpR k k = 0 := by have := cmpR_neg k k; omega
theorem rff_nil (pk : List Int) (k : Row) : rff pk k [] = false := rfl
theorem rff_row (a b : Int) : rfi [0] (iKey a) [iRow a b] = 0 ∧ rff [0] (iKey a) [iRow a b] = true := by
  obtain ⟨h1, h2⟩ := rfi_at (pk := [0]) (key := iKey a) (rs := [iRow a b]) (k := 0) (by show 0 < 1; omega) (by show 0 ≤ cmpR (iKey a) (iKey a); rw [cmpR_eq0]; omega) (by intro r hr; cases hr)
  refine ⟨h1, h2.trans ?_⟩
  show decide (cmpR (iKey a) (iKey a) = 0) = true
  rw [cmpR_eq0]
  rfl
theorem ups_item (a b : Int) : upsX [0] (iRow a b) [] = [iRow a b] := rfl
theorem del_item (a b : Int) : delRX [0] (iKey a) [iRow a b] = [] := by
  unfold delRX
  rw [if_pos (rff_row a b).2, (rff_row a b).1]
  rfl
/-- The instance's rows at item. -/
def iRows (full : Bool) (a b : Int) : List Row := if full = true then [iRow a b] else []
/-- An instance with these rows at item, and none at order. -/
def iData (full : Bool) (a b : Int) : List (ByteArray × List Row) := [(nItem, iRows full a b), (nOrder, [])]
theorem bSc_fit {T IA IP OA OP F FC N : Option Addr} {full : Bool} {a b : Int} (ha : 0 ≤ a ∧ a < 7) (hb : 0 ≤ b ∧ b < 7) {rs : List RelM} (hd : rs.map RelM.d = iData full a b) : InC (bSc T IA IP OA OP F FC N).tabs rs := by
  obtain ⟨r0, r1, rfl, h0, h1⟩ : ∃ r0 r1, rs = [r0, r1] ∧ r0.d = (nItem, iRows full a b) ∧ r1.d = (nOrder, []) := by
    have hl : rs.length = 2 := by
      have h := congrArg List.length hd
      rwa [List.length_map] at h
    rcases rs with _ | ⟨r0, _ | ⟨r1, _ | ⟨r2, l⟩⟩⟩
    · cases hl
    · cases hl
    · have h := List.cons.inj hd
      exact ⟨r0, r1, rfl, h.1, (List.cons.inj h.2).1⟩
    · simp at hl
  obtain ⟨hn0, hr0⟩ := Prod.mk.inj h0
  obtain ⟨hn1, hr1⟩ := Prod.mk.inj h1
  have hr1 : r1.rows = [] := List.map_eq_nil_iff.1 hr1
  refine ⟨rfl, by show 2 ≤ 6; omega, fun t ht => ?_, fun i h h' => ?_, fun i h h' => ?_⟩
  · simp only [bSc, List.mem_cons, List.not_mem_nil, or_false] at ht
    rcases ht with rfl | rfl
    · show 4 ≤ 6 ∧ 1 ≤ 12; omega
    · show 3 ≤ 6 ∧ 1 ≤ 12; omega
  · have h : i < 2 := h
    rcases i with _ | _ | i
    · exact hn0
    · exact hn1
    · omega
  · have h : i < 2 := h
    rcases i with _ | _ | i
    · show RelC (bItem IA IP) r0.rows
      cases full with
      | false =>
        have : r0.rows = [] := List.map_eq_nil_iff.1 hr0
        rw [this]
        exact ⟨by show 0 ≤ 24; omega, (fun k hk => by cases hk), List.Pairwise.nil⟩
      | true =>
        obtain ⟨k, hk, hk2⟩ : ∃ k, r0.rows = [k] ∧ k.row = iRow a b := by
          have hr0 : r0.rows.map Key.row = [iRow a b] := hr0
          rcases hq : r0.rows with _ | ⟨k, _ | ⟨k2, l⟩⟩
          · rw [hq] at hr0; cases hr0
          · rw [hq] at hr0; injection hr0 with h0 _; exact ⟨k, rfl, h0⟩
          · rw [hq] at hr0; injection hr0 with _ h1; cases h1
        rw [hk]
        refine ⟨by show 1 ≤ 24; omega, fun x hx => ?_, List.pairwise_singleton _ _⟩
        rw [List.mem_singleton.1 hx, hk2]
        exact iRow_ok ha hb
    · show RelC (bOrder OA OP) r1.rows
      rw [hr1]
      exact ⟨by show 0 ≤ 24; omega, (fun k hk => by cases hk), List.Pairwise.nil⟩
    · omega

/-- The two triggers. -/
def tRem (A B : Option Addr) : Tr := ⟨1, nItem, A, 1, [⟨2, nItem, B, 1, [0]⟩]⟩
def tAdd (A B : Option Addr) (c : Nat) : Tr := ⟨2, nItem, A, 1, [⟨1, nItem, B, c, [0, 1, 2, 3]⟩]⟩
theorem tRem_ok {T IA IP OA OP F FC N A B : Option Addr} : TrC (bSc T IA IP OA OP F FC N) (tRem A B) := by
  refine ⟨.inl rfl, ⟨0, by show 0 < 2; omega, bSc_item, fun a ha => ?_⟩, by show 1 ≤ 4; omega⟩
  rw [List.mem_singleton.1 ha]
  refine ⟨.inr rfl, 0, by show 0 < 2; omega, bSc_item, rfl, by show 1 ≤ 100; omega, fun k hk => ?_, fun k h1 h2 => ?_⟩
  · rw [List.mem_singleton.1 (show k ∈ [(0 : Int)] from hk)]
    exact ⟨by omega, by show 0 < 4; omega⟩
  · have h : k < 1 := h1
    obtain rfl : k = 0 := by omega
    exact ⟨by show (0 : Int) ≤ 0; omega, by show 0 < 4; omega, rfl, .inl rfl⟩
theorem tAdd_ok {T IA IP OA OP F FC N A B : Option Addr} {c : Nat} : TrC (bSc T IA IP OA OP F FC N) (tAdd A B c) := by
  refine ⟨.inr rfl, ⟨0, by show 0 < 2; omega, bSc_item, fun a ha => ?_⟩, by show 1 ≤ 4; omega⟩
  rw [List.mem_singleton.1 ha]
  refine ⟨.inl rfl, 0, by show 0 < 2; omega, bSc_item, rfl, by show 4 ≤ 100; omega, fun k hk => ?_, fun k h1 h2 => ?_⟩
  · rw [List.mem_singleton.1 (show k ∈ [(0 : Int)] from hk)]
    exact ⟨by omega, by show 0 < 4; omega⟩
  · have h : k < 4 := h1
    rcases k with _ | _ | _ | _ | k
    · exact ⟨by show (0 : Int) ≤ 0; omega, by show 0 < 4; omega, rfl, .inl rfl⟩
    · exact ⟨by show (0 : Int) ≤ 1; omega, by show 1 < 4; omega, rfl, .inr rfl⟩
    · exact ⟨by show (0 : Int) ≤ 2; omega, by show 2 < 4; omega, rfl, .inl rfl⟩
    · exact ⟨by show (0 : Int) ≤ 3; omega, by show 3 < 4; omega, rfl, .inl rfl⟩
    · omega
end Go.Proofs.Ytefifkleamiabaa
