/-
  The walks of slices.BinarySearchFunc over keys and entries.
-/
import Derived.Test.YtlgjkhdpinnccaaBk
namespace Go.Proofs.Ytlgjkhdpinnccaa
open Go.RowKit Go.Sort

set_option maxRecDepth 100000 in
set_option maxHeartbeats 1000000 in
theorem bsKeys (A : Option Addr) (c : Nat) (xs : List Key) (B : Option Addr) (d : Nat) (t : Row) (w : World) (K T : Nat → Prop) (hx : Elems 1 Key.cs w (· < w.heap.size) A xs) (hK : ∀ k, K k → k < w.heap.size) (hT : ∀ k, T k → k < w.heap.size)
    (hk : ∀ x ∈ xs, KOk K w x) (hs : xs.Pairwise fun a b => rl a.row b.row) (hy : Elems 3 Val.cs w T B t) (hl : xs.length ≤ 1000) :
    Calls Try.prog 50 #[.slice A xs.length c, .slice B t.length d, .func (.func 41) #[] #[]] w (BsPost w (fun x : Key => x.row) xs t) := by
  have HCMP : Hid (∀ (W : World), Below w.heap.size w W → ∀ x ∈ xs, Calls Try.prog 41 #[.slice x.A x.row.length x.c, .slice B t.length d] W fun e w' => e = .returned (.int .i64 (cmpR x.row t)) ∧ Below W.heap.size W w') := Lib.hid fun W hW x hm => by
    have hx1 := ((hk x hm).el.keep (Keeps.of_below hW hK)).more (S' := (· < W.heap.size)) fun k hk => Nat.lt_of_lt_of_le (hK k hk) hW.size
    have hy1 := (hy.keep (Keeps.of_below hW hT)).more (S' := (· < W.heap.size)) fun k hk => Nat.lt_of_lt_of_le (hT k hk) hW.size
    exact (cmpRows _ _ _ d _ t W _ _ hx1 hy1 (fun _ h => h) (fun _ h => h) (by have := (hk x hm).len; omega)).mono fun e w' ⟨h1, p, h2⟩ => ⟨h1, by rw [h2]; exact below_grow W p.n p.os⟩
  have HX := Lib.hid hx
  have HM := Lib.hid (LtAt.mono (t := t) hs)
  clear hx hk hs hy
  go_enter Try.func50, Try.ntmps50
  go_wp2_with fail
  go_loopw [9, 10] (fun vi vj wr => ∃ i j : Nat, vi = .int .i64 i ∧ vj = .int .i64 j ∧ Bin (LtAt (fun x : Key => x.row) xs t) xs.length i j ∧ Below w.heap.size w wr) (fun vi vj _ => (intOf vj).toNat - (intOf vi).toNat)
  case atStart => exact ⟨0, xs.length, rfl, rfl, Bin.first _ _, Below.refl _ _⟩
  case round =>
    obtain ⟨i, j, rfl, rfl, hB, hb⟩ := hrel
    obtain ⟨l1, l2⟩ := hB.le
    have HB := Lib.hid hB
    clear hB
    by_cases hlt : i < j
    · obtain ⟨h, hh⟩ : ∃ h, h = (i + j) / 2 := ⟨_, rfl⟩
      have hih : i ≤ h ∧ h < j := by omega
      have y1 : ((i : Int) + (j : Int)) / 2 = (h : Int) := by omega
      have y2 : (h : Int) < (xs.length : Int) := by omega
      have hhl : h < xs.length := by omega
      clear hh
      obtain ⟨b, off, rfl, hbs, c0⟩ := (HX.out.keep (Keeps.of_below hb fun _ h => h)).key hhl
      have HC := Lib.hid (HCMP.out wr hb xs[h] (List.getElem_mem hhl))
      have HI := Lib.hid (LtAt.iff (row := fun x : Key => x.row) (t := t) hhl)
      generalize xs[h] = x at *
      go_wp2_with fail
      refine HC.out.mono ?_
      rintro e w1 ⟨rfl, hb1⟩
      have HB1 := Lib.hid (hb.trans (hb1.mono hb.size))
      have HR := Lib.hid (show rl x.row t ↔ cmpR x.row t < 0 from Iff.rfl)
      clear hb hb1 HC c0
      generalize cmpR x.row t = cv at *
      by_cases hcv : cv < 0
      · have HN := Lib.hid (HB.out.up HM.out hih (HI.out.2 (HR.out.2 hcv)))
        go_wp2_with fail
        go_roundw
        case rel => exact ⟨h + 1, j, by go_num, rfl, HN.out, HB1.out⟩
        case measure => simp [intOf]; omega
      · have HN := Lib.hid (HB.out.down HM.out hih (fun h => hcv (HR.out.1 (HI.out.1 h))))
        go_wp2_with fail
        go_roundw
        case rel => exact ⟨i, h, rfl, rfl, HN.out, HB1.out⟩
        case measure => simp [intOf]; omega
    · have hij : i = j := by omega
      subst hij
      by_cases hin : i < xs.length
      · obtain ⟨b, off, rfl, hbs, c0⟩ := (HX.out.keep (Keeps.of_below hb fun _ h => h)).key hin
        have HC := Lib.hid (HCMP.out wr hb xs[i] (List.getElem_mem hin))
        have HF : Hid (∀ fnd : Bool, (fnd = true ↔ xs[i].row = t) → At (fun x : Key => x.row) xs t i fnd) := Lib.hid fun fnd hf => HB.out.at_ (by rw [hf]; exact ⟨fun h => ⟨hin, h⟩, fun ⟨_, h⟩ => h⟩)
        generalize xs[i] = x at *
        go_wp2_with fail
        refine HC.out.mono ?_
        rintro e w1 ⟨rfl, hb1⟩
        have HB1 := Lib.hid (hb.trans (hb1.mono hb.size))
        have HZ : Hid (cmpR x.row t = 0 ↔ x.row = t) := Lib.hid ⟨cmpR_zero, fun h => by rw [h]; exact cmpR_refl t⟩
        generalize cmpR x.row t = cv at *
        clear hb hb1 HC c0
        go_wp2_with fail
        go_ret2
        exact ⟨i, cv == 0, rfl, HF.out _ (by rw [beq_iff_eq]; exact HZ.out), HB1.out⟩
      · have HF : Hid (At (fun x : Key => x.row) xs t i false) := Lib.hid (HB.out.at_ ⟨fun h => Bool.noConfusion h, fun ⟨h, _⟩ => absurd h hin⟩)
        go_wp2_with fail
        go_ret2
        exact ⟨i, false, rfl, HF.out, hb⟩

set_option maxRecDepth 100000 in
set_option maxHeartbeats 1000000 in
theorem bsEnts (A : Option Addr) (c : Nat) (xs : List Ent) (B : Option Addr) (d : Nat) (t : Row) (w : World) (K T : Nat → Prop) (hx : Elems 2 Ent.cs w (· < w.heap.size) A xs) (hK : ∀ k, K k → k < w.heap.size) (hT : ∀ k, T k → k < w.heap.size)
    (hk : ∀ x ∈ xs, KOk K w x.key) (hs : xs.Pairwise fun a b => rl a.key.row b.key.row) (hy : Elems 3 Val.cs w T B t) (hl : xs.length ≤ 1000) :
    Calls Try.prog 51 #[.slice A xs.length c, .slice B t.length d, .func (.func 52) #[] #[]] w (BsPost w (fun x : Ent => x.key.row) xs t) := by
  have HCMP : Hid (∀ (W : World), Below w.heap.size w W → ∀ x ∈ xs, Calls Try.prog 52 #[.agg #[.slice x.key.A x.key.row.length x.key.c, .int .i64 x.val], .slice B t.length d] W fun e w' => e = .returned (.int .i64 (cmpR x.key.row t)) ∧ Below W.heap.size W w') := Lib.hid fun W hW x hm => by
    have hx1 := ((hk x hm).el.keep (Keeps.of_below hW hK)).more (S' := (· < W.heap.size)) fun k hk => Nat.lt_of_lt_of_le (hK k hk) hW.size
    have hy1 := (hy.keep (Keeps.of_below hW hT)).more (S' := (· < W.heap.size)) fun k hk => Nat.lt_of_lt_of_le (hT k hk) hW.size
    have HC : Hid (∀ W' : World, Elems 3 Val.cs W' (· < W'.heap.size) x.key.A x.key.row → Elems 3 Val.cs W' (· < W'.heap.size) B t → Calls Try.prog 41 #[.slice x.key.A x.key.row.length x.key.c, .slice B t.length d] W' fun e w' => e = .returned (.int .i64 (cmpR x.key.row t)) ∧ Below W'.heap.size W' w') :=
      Lib.hid fun W' hx hy => (cmpRows x.key.A B x.key.c d x.key.row t W' _ _ hx hy (fun _ h => h) (fun _ h => h) (by have := (hk x hm).len; omega)).mono fun e w' ⟨h1, p, h2⟩ => ⟨h1, by rw [h2]; exact below_grow W' p.n p.os⟩
    have HX1 := Lib.hid hx1
    have HY1 := Lib.hid hy1
    have HBA : Hid (∀ o, Below W.heap.size W (W.alloc o)) := Lib.hid fun o => (Below.refl _ _).alloc (Nat.le_refl _) o
    have HSA : Hid (∀ o, W.heap.size ≤ (W.alloc o).heap.size) := Lib.hid fun o => le_size1 (Nat.le_refl _) o
    clear hx hx1 hy hy1 hs hk hT hK hW hl hm
    go_enter Try.func52, Try.ntmps52
    go_wp2_with fail
    refine (HC.out _ ((HX1.out.keep (Keeps.of_below (HBA.out _) fun _ h => h)).more fun k hk => Nat.lt_of_lt_of_le hk (HSA.out _)) ((HY1.out.keep (Keeps.of_below (HBA.out _) fun _ h => h)).more fun k hk => Nat.lt_of_lt_of_le hk (HSA.out _))).mono ?_
    rintro e w1 ⟨rfl, hb1⟩
    go_wp2_with fail
    go_ret
    exact ⟨rfl, (HBA.out _).trans (hb1.mono (HSA.out _))⟩
  have HX := Lib.hid hx
  have HM := Lib.hid (LtAt.mono (t := t) hs)
  clear hx hk hs hy
  go_enter Try.func51, Try.ntmps51
  go_wp2_with fail
  go_loopw [9, 10] (fun vi vj wr => ∃ i j : Nat, vi = .int .i64 i ∧ vj = .int .i64 j ∧ Bin (LtAt (fun x : Ent => x.key.row) xs t) xs.length i j ∧ Below w.heap.size w wr) (fun vi vj _ => (intOf vj).toNat - (intOf vi).toNat)
  case atStart => exact ⟨0, xs.length, rfl, rfl, Bin.first _ _, Below.refl _ _⟩
  case round =>
    obtain ⟨i, j, rfl, rfl, hB, hb⟩ := hrel
    obtain ⟨l1, l2⟩ := hB.le
    have HB := Lib.hid hB
    clear hB
    by_cases hlt : i < j
    · obtain ⟨h, hh⟩ : ∃ h, h = (i + j) / 2 := ⟨_, rfl⟩
      have hih : i ≤ h ∧ h < j := by omega
      have y1 : ((i : Int) + (j : Int)) / 2 = (h : Int) := by omega
      have y2 : (h : Int) < (xs.length : Int) := by omega
      have hhl : h < xs.length := by omega
      clear hh
      obtain ⟨b, off, rfl, hbs, c0, c1⟩ := (HX.out.keep (Keeps.of_below hb fun _ h => h)).ent hhl
      have HC := Lib.hid (HCMP.out wr hb xs[h] (List.getElem_mem hhl))
      have HI := Lib.hid (LtAt.iff (row := fun x : Ent => x.key.row) (t := t) hhl)
      generalize xs[h] = x at *
      go_wp2_with fail
      refine HC.out.mono ?_
      rintro e w1 ⟨rfl, hb1⟩
      have HB1 := Lib.hid (hb.trans (hb1.mono hb.size))
      have HR := Lib.hid (show rl x.key.row t ↔ cmpR x.key.row t < 0 from Iff.rfl)
      clear hb hb1 HC c0
      generalize cmpR x.key.row t = cv at *
      by_cases hcv : cv < 0
      · have HN := Lib.hid (HB.out.up HM.out hih (HI.out.2 (HR.out.2 hcv)))
        go_wp2_with fail
        go_roundw
        case rel => exact ⟨h + 1, j, by go_num, rfl, HN.out, HB1.out⟩
        case measure => simp [intOf]; omega
      · have HN := Lib.hid (HB.out.down HM.out hih (fun h => hcv (HR.out.1 (HI.out.1 h))))
        go_wp2_with fail
        go_roundw
        case rel => exact ⟨i, h, rfl, rfl, HN.out, HB1.out⟩
        case measure => simp [intOf]; omega
    · have hij : i = j := by omega
      subst hij
      by_cases hin : i < xs.length
      · obtain ⟨b, off, rfl, hbs, c0, c1⟩ := (HX.out.keep (Keeps.of_below hb fun _ h => h)).ent hin
        have HC := Lib.hid (HCMP.out wr hb xs[i] (List.getElem_mem hin))
        have HF : Hid (∀ fnd : Bool, (fnd = true ↔ xs[i].key.row = t) → At (fun x : Ent => x.key.row) xs t i fnd) := Lib.hid fun fnd hf => HB.out.at_ (by rw [hf]; exact ⟨fun h => ⟨hin, h⟩, fun ⟨_, h⟩ => h⟩)
        generalize xs[i] = x at *
        go_wp2_with fail
        refine HC.out.mono ?_
        rintro e w1 ⟨rfl, hb1⟩
        have HB1 := Lib.hid (hb.trans (hb1.mono hb.size))
        have HZ : Hid (cmpR x.key.row t = 0 ↔ x.key.row = t) := Lib.hid ⟨cmpR_zero, fun h => by rw [h]; exact cmpR_refl t⟩
        generalize cmpR x.key.row t = cv at *
        clear hb hb1 HC c0
        go_wp2_with fail
        go_ret2
        exact ⟨i, cv == 0, rfl, HF.out _ (by rw [beq_iff_eq]; exact HZ.out), HB1.out⟩
      · have HF : Hid (At (fun x : Ent => x.key.row) xs t i false) := Lib.hid (HB.out.at_ ⟨fun h => Bool.noConfusion h, fun ⟨h, _⟩ => absurd h hin⟩)
        go_wp2_with fail
        go_ret2
        exact ⟨i, false, rfl, HF.out, hb⟩

end Go.Proofs.Ytlgjkhdpinnccaa
