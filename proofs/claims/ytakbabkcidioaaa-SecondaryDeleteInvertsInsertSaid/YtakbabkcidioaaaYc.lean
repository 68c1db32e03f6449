/-
  The walks of slices.BinarySearchFunc over keys and the entries of an index; search.
-/
import Derived.Test.YtakbabkcidioaaaYb
namespace Go.Proofs.Ytakbabkcidioaaa
open Go.RowKit Go.Sort

set_option maxRecDepth 100000 in
set_option maxHeartbeats 1000000 in
theorem bsKeys (A : Option Addr) (c : Nat) (xs : List Key) (B : Option Addr) (d : Nat) (t : Row) (w : World) (K T : Nat → Prop) (hx : Elems 1 Key.cs w (· < w.heap.size) A xs) (hK : ∀ k, K k → k < w.heap.size) (hT : ∀ k, T k → k < w.heap.size)
    (hk : ∀ x ∈ xs, KOk K w x) (hs : xs.Pairwise fun a b => rl a.row b.row) (hy : Elems 3 Val.cs w T B t) (hl : xs.length ≤ 1000) :
    Calls Try.prog 33 #[.slice A xs.length c, .slice B t.length d, .func (.func 26) #[] #[]] w (BsPost w (fun x : Key => x.row) xs t) := by
  have HCMP : Hid (∀ (W : World), Below w.heap.size w W → ∀ x ∈ xs, Calls Try.prog 26 #[.slice x.A x.row.length x.c, .slice B t.length d] W fun e w' => e = .returned (.int .i64 (cmpR x.row t)) ∧ Below W.heap.size W w') := Lib.hid fun W hW x hm => by
    have hx1 := ((hk x hm).el.keep (Keeps.of_below hW hK)).more (S' := (· < W.heap.size)) fun k hk => Nat.lt_of_lt_of_le (hK k hk) hW.size
    have hy1 := (hy.keep (Keeps.of_below hW hT)).more (S' := (· < W.heap.size)) fun k hk => Nat.lt_of_lt_of_le (hT k hk) hW.size
    exact (cmpRows _ _ _ d _ t W _ _ hx1 hy1 (fun _ h => h) (fun _ h => h) (by have := (hk x hm).len; omega)).mono fun e w' ⟨h1, p, h2⟩ => ⟨h1, by rw [h2]; exact below_grow W p.n p.os⟩
  have HX := Lib.hid hx
  have HM := Lib.hid (LtAt.mono (t := t) hs)
  clear hx hk hs hy
  go_enter Try.func33, Try.ntmps33
  go_wp2_with fail
  go_loopw [9, 10] (fun vi vj wr => ∃ i j : Nat, vi = .int .i64 i ∧ vj = .int .i64 j ∧ Bin (LtAt (fun x : Key => x.row) xs t) xs.length i j ∧ Below w.heap.size w wr) (fun vi vj _ => (intOf vj).toNat - (intOf vi).toNat)
  case atStart => exact ⟨0, xs.length, rfl, rfl, Bin.first _ _, Below.refl _ _⟩
  case round =>
    obtain ⟨i, j, rfl, rfl, hB, hb⟩ := hrel
    obtain ⟨l1, l2⟩ := hB.le
    have HB := Lib.hid hB
    clear hB
    by_cases hlt : i < j
    · obtain ⟨h, hh⟩ : ∃ h, h = (i + j) / 2 := ⟨_, rfl⟩
      have hih : i ≤ h ∧ h < j := by omega
      have y1 : ((i : Int) + (j : Int)) / 2 = (h : Int) := by omega
      have y2 : (h : Int) < (xs.length : Int) := by omega
      have hhl : h < xs.length := by omega
      clear hh
      obtain ⟨b, off, rfl, hbs, c0⟩ := (HX.out.keep (Keeps.of_below hb fun _ h => h)).key hhl
      have HC := Lib.hid (HCMP.out wr hb xs[h] (List.getElem_mem hhl))
      have HI := Lib.hid (LtAt.iff (row := fun x : Key => x.row) (t := t) hhl)
      generalize xs[h] = x at *
      go_wp2_with fail
      refine HC.out.mono ?_
      rintro e w1 ⟨rfl, hb1⟩
      have HB1 := Lib.hid (hb.trans (hb1.mono hb.size))
      have HR := Lib.hid (show rl x.row t ↔ cmpR x.row t < 0 from Iff.rfl)
      clear hb hb1 HC c0
      generalize cmpR x.row t = cv at *
      by_cases hcv : cv < 0
      · have HN := Lib.hid (HB.out.up HM.out hih (HI.out.2 (HR.out.2 hcv)))
        go_wp2_with fail
        go_roundw
        case rel => exact ⟨h + 1, j, by go_num, rfl, HN.out, HB1.out⟩
        case measure => simp [intOf]; omega
      · have HN := Lib.hid (HB.out.down HM.out hih (fun h => hcv (HR.out.1 (HI.out.1 h))))
        go_wp2_with fail
        go_roundw
        case rel => exact ⟨i, h, rfl, rfl, HN.out, HB1.out⟩
        case measure => simp [intOf]; omega
    · have hij : i = j := by omega
      subst hij
      by_cases hin : i < xs.length
      · obtain ⟨b, off, rfl, hbs, c0⟩ := (HX.out.keep (Keeps.of_below hb fun _ h => h)).key hin
        have HC := Lib.hid (HCMP.out wr hb xs[i] (List.getElem_mem hin))
        have HF : Hid (∀ fnd : Bool, (fnd = true ↔ xs[i].row = t) → At (fun x : Key => x.row) xs t i fnd) := Lib.hid fun fnd hf => HB.out.at_ (by rw [hf]; exact ⟨fun h => ⟨hin, h⟩, fun ⟨_, h⟩ => h⟩)
        generalize xs[i] = x at *
        go_wp2_with fail
        refine HC.out.mono ?_
        rintro e w1 ⟨rfl, hb1⟩
        have HB1 := Lib.hid (hb.trans (hb1.mono hb.size))
        have HZ : Hid (cmpR x.row t = 0 ↔ x.row = t) := Lib.hid ⟨cmpR_zero, fun h => by rw [h]; exact cmpR_refl t⟩
        generalize cmpR x.row t = cv at *
        clear hb hb1 HC c0
        go_wp2_with fail
        go_ret2
        exact ⟨i, cv == 0, rfl, HF.out _ (by rw [beq_iff_eq]; exact HZ.out), HB1.out⟩
      · have HF : Hid (At (fun x : Key => x.row) xs t i false) := Lib.hid (HB.out.at_ ⟨fun h => Bool.noConfusion h, fun ⟨h, _⟩ => absurd h hin⟩)
        go_wp2_with fail
        go_ret2
        exact ⟨i, false, rfl, HF.out, hb⟩

set_option maxRecDepth 100000 in
set_option maxHeartbeats 1000000 in
theorem bsEntM (A : Option Addr) (c : Nat) (xs : List EntM) (B : Option Addr) (d : Nat) (t : Row) (w : World) (K T : Nat → Prop) (hx : Elems 2 EntM.cs w (· < w.heap.size) A xs) (hK : ∀ k, K k → k < w.heap.size) (hT : ∀ k, T k → k < w.heap.size)
    (hk : ∀ x ∈ xs, KOk K w x.vals) (hs : xs.Pairwise fun a b => rl a.vals.row b.vals.row) (hy : Elems 3 Val.cs w T B t) (hl : xs.length ≤ 1000) :
    Calls Try.prog 50 #[.slice A xs.length c, .slice B t.length d, .func (.func 51) #[] #[]] w (BsPost w (fun x : EntM => x.vals.row) xs t) := by
  have HCMP : Hid (∀ (W : World), Below w.heap.size w W → ∀ x ∈ xs, Calls Try.prog 51 #[.agg #[.slice x.vals.A x.vals.row.length x.vals.c, .slice x.KA x.keys.length x.kc], .slice B t.length d] W fun e w' => e = .returned (.int .i64 (cmpR x.vals.row t)) ∧ Below W.heap.size W w') := Lib.hid fun W hW x hm => by
    have hx1 := ((hk x hm).el.keep (Keeps.of_below hW hK)).more (S' := (· < W.heap.size)) fun k hk => Nat.lt_of_lt_of_le (hK k hk) hW.size
    have hy1 := (hy.keep (Keeps.of_below hW hT)).more (S' := (· < W.heap.size)) fun k hk => Nat.lt_of_lt_of_le (hT k hk) hW.size
    have HC : Hid (∀ W' : World, Elems 3 Val.cs W' (· < W'.heap.size) x.vals.A x.vals.row → Elems 3 Val.cs W' (· < W'.heap.size) B t → Calls Try.prog 26 #[.slice x.vals.A x.vals.row.length x.vals.c, .slice B t.length d] W' fun e w' => e = .returned (.int .i64 (cmpR x.vals.row t)) ∧ Below W'.heap.size W' w') :=
      Lib.hid fun W' hx hy => (cmpRows x.vals.A B x.vals.c d x.vals.row t W' _ _ hx hy (fun _ h => h) (fun _ h => h) (by have := (hk x hm).len; omega)).mono fun e w' ⟨h1, p, h2⟩ => ⟨h1, by rw [h2]; exact below_grow W' p.n p.os⟩
    have HX1 := Lib.hid hx1
    have HY1 := Lib.hid hy1
    have HBA : Hid (∀ o, Below W.heap.size W (W.alloc o)) := Lib.hid fun o => (Below.refl _ _).alloc (Nat.le_refl _) o
    have HSA : Hid (∀ o, W.heap.size ≤ (W.alloc o).heap.size) := Lib.hid fun o => le_size1 (Nat.le_refl _) o
    clear hx hx1 hy hy1 hs hk hT hK hW hl hm
    go_enter Try.func51, Try.ntmps51
    go_wp2_with fail
    refine (HC.out _ ((HX1.out.keep (Keeps.of_below (HBA.out _) fun _ h => h)).more fun k hk => Nat.lt_of_lt_of_le hk (HSA.out _)) ((HY1.out.keep (Keeps.of_below (HBA.out _) fun _ h => h)).more fun k hk => Nat.lt_of_lt_of_le hk (HSA.out _))).mono ?_
    rintro e w1 ⟨rfl, hb1⟩
    go_wp2_with fail
    go_ret
    exact ⟨rfl, (HBA.out _).trans (hb1.mono (HSA.out _))⟩
  have HX := Lib.hid hx
  have HM := Lib.hid (LtAt.mono (t := t) hs)
  clear hx hk hs hy
  go_enter Try.func50, Try.ntmps50
  go_wp2_with fail
  go_loopw [9, 10] (fun vi vj wr => ∃ i j : Nat, vi = .int .i64 i ∧ vj = .int .i64 j ∧ Bin (LtAt (fun x : EntM => x.vals.row) xs t) xs.length i j ∧ Below w.heap.size w wr) (fun vi vj _ => (intOf vj).toNat - (intOf vi).toNat)
  case atStart => exact ⟨0, xs.length, rfl, rfl, Bin.first _ _, Below.refl _ _⟩
  case round =>
    obtain ⟨i, j, rfl, rfl, hB, hb⟩ := hrel
    obtain ⟨l1, l2⟩ := hB.le
    have HB := Lib.hid hB
    clear hB
    by_cases hlt : i < j
    · obtain ⟨h, hh⟩ : ∃ h, h = (i + j) / 2 := ⟨_, rfl⟩
      have hih : i ≤ h ∧ h < j := by omega
      have y1 : ((i : Int) + (j : Int)) / 2 = (h : Int) := by omega
      have y2 : (h : Int) < (xs.length : Int) := by omega
      have hhl : h < xs.length := by omega
      clear hh
      obtain ⟨b, off, rfl, hbs, c0, c1⟩ := (HX.out.keep (Keeps.of_below hb fun _ h => h)).entM hhl
      have HC := Lib.hid (HCMP.out wr hb xs[h] (List.getElem_mem hhl))
      have HI := Lib.hid (LtAt.iff (row := fun x : EntM => x.vals.row) (t := t) hhl)
      generalize xs[h] = x at *
      go_wp2_with fail
      refine HC.out.mono ?_
      rintro e w1 ⟨rfl, hb1⟩
      have HB1 := Lib.hid (hb.trans (hb1.mono hb.size))
      have HR := Lib.hid (show rl x.vals.row t ↔ cmpR x.vals.row t < 0 from Iff.rfl)
      clear hb hb1 HC c0
      generalize cmpR x.vals.row t = cv at *
      by_cases hcv : cv < 0
      · have HN := Lib.hid (HB.out.up HM.out hih (HI.out.2 (HR.out.2 hcv)))
        go_wp2_with fail
        go_roundw
        case rel => exact ⟨h + 1, j, by go_num, rfl, HN.out, HB1.out⟩
        case measure => simp [intOf]; omega
      · have HN := Lib.hid (HB.out.down HM.out hih (fun h => hcv (HR.out.1 (HI.out.1 h))))
        go_wp2_with fail
        go_roundw
        case rel => exact ⟨i, h, rfl, rfl, HN.out, HB1.out⟩
        case measure => simp [intOf]; omega
    · have hij : i = j := by omega
      subst hij
      by_cases hin : i < xs.length
      · obtain ⟨b, off, rfl, hbs, c0, c1⟩ := (HX.out.keep (Keeps.of_below hb fun _ h => h)).entM hin
        have HC := Lib.hid (HCMP.out wr hb xs[i] (List.getElem_mem hin))
        have HF : Hid (∀ fnd : Bool, (fnd = true ↔ xs[i].vals.row = t) → At (fun x : EntM => x.vals.row) xs t i fnd) := Lib.hid fun fnd hf => HB.out.at_ (by rw [hf]; exact ⟨fun h => ⟨hin, h⟩, fun ⟨_, h⟩ => h⟩)
        generalize xs[i] = x at *
        go_wp2_with fail
        refine HC.out.mono ?_
        rintro e w1 ⟨rfl, hb1⟩
        have HB1 := Lib.hid (hb.trans (hb1.mono hb.size))
        have HZ : Hid (cmpR x.vals.row t = 0 ↔ x.vals.row = t) := Lib.hid ⟨cmpR_zero, fun h => by rw [h]; exact cmpR_refl t⟩
        generalize cmpR x.vals.row t = cv at *
        clear hb hb1 HC c0
        go_wp2_with fail
        go_ret2
        exact ⟨i, cv == 0, rfl, HF.out _ (by rw [beq_iff_eq]; exact HZ.out), HB1.out⟩
      · have HF : Hid (At (fun x : EntM => x.vals.row) xs t i false) := Lib.hid (HB.out.at_ ⟨fun h => Bool.noConfusion h, fun ⟨h, _⟩ => absurd h hin⟩)
        go_wp2_with fail
        go_ret2
        exact ⟨i, false, rfl, HF.out, hb⟩


theorem Ix.box {w w' : World} {g : Nat} {x : Ix} (h : w.heap[g]? = some (.cells x.cells 30 (0, 0))) (hb : w'.heap[g]? = w.heap[g]?) :
    w'.cell? ⟨g, 0, none⟩ = some (.string x.t.name) ∧ w'.cell? ⟨g, 1, none⟩ = some (.slice x.t.CA x.t.cols.length x.t.cc) ∧ w'.cell? ⟨g, 2, none⟩ = some (.slice x.t.PA x.t.pk.length x.t.pc) ∧ w'.cell? ⟨g, 3, none⟩ = some (.slice x.XA x.cols.length x.xc) ∧ w'.cell? ⟨g, 4, none⟩ = some (.slice x.EA x.ents.length x.ec) := by
  rw [← hb] at h
  refine ⟨?_, ?_, ?_, ?_, ?_⟩ <;> (rw [cell_of_row _ _ _ _ _ (0, 0) h]; rfl)

set_option maxRecDepth 100000 in
set_option maxHeartbeats 1000000 in
theorem searchW (x : Ix) (B : Option Addr) (d : Nat) (t : Row) (w : World) (hx : IOk (· < w.heap.size) w x) (hs : x.ents.Pairwise fun a b => rl a.vals.row b.vals.row) (hy : Elems 3 Val.cs w (· < w.heap.size) B t) (hl : x.ents.length ≤ 1000) :
    Calls Try.prog 31 #[x.val, .slice B t.length d] w (BsPost w (fun e : EntM => e.vals.row) x.ents t) := by
  have HBS : Hid (∀ o, Calls Try.prog 50 #[.slice x.EA x.ents.length x.ec, .slice B t.length d, .func (.func 51) #[] #[]] (w.alloc o) (BsPost w (fun e : EntM => e.vals.row) x.ents t)) := Lib.hid fun o => by
    have hb : Below w.heap.size w (w.alloc o) := (Below.refl _ _).alloc (Nat.le_refl _) o
    refine (bsEntM x.EA x.ec x.ents B d t (w.alloc o) _ _ (hx.ents.on hb) (fun _ h => h) (fun _ h => h) (fun e he => ((hx.ent e he).on hb).vals) hs (hy.on hb) hl).mono ?_
    rintro e w' ⟨i, fnd, rfl, h, hb'⟩
    exact ⟨i, fnd, rfl, h, hb.trans (hb'.mono hb.size)⟩
  clear hx hs hy hl
  obtain ⟨⟨name, CA, cc, tc, PA, pc, pk⟩, XA, xc, cols, EA, ec, ents⟩ := x
  unfold Ix.val Ix.cells
  simp only at HBS ⊢
  go_enter Try.func31, Try.ntmps31
  go_wp2_with fail
  refine (HBS.out _).mono ?_
  rintro e w' ⟨i, fnd, rfl, h, hb⟩
  have HF := Lib.hid (And.intro h hb)
  clear h hb HBS
  go_wp2_with fail
  go_ret2
  exact ⟨i, fnd, rfl, HF.out.1, HF.out.2⟩
end Go.Proofs.Ytakbabkcidioaaa
