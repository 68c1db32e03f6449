/-
  Pages in memory; the walks of New, dataStart, slotAt, setSlot, bytes.Clone.
-/
import Derived.Test.YtalgocjhcgmdlaaRows
import Derived.Test.YtalgocjhcgmdlaaOwn
import Derived.Test.YtalgocjhcgmdlaaPgr
import Derived.Laws.OwnMore
import Derived.Lib.SliceRun
import Derived.Laws.CopyOwn
import Derived.Deep.QuietTactic
namespace Go.Proofs.Ytalgocjhcgmdlaa
open Go.RowKit

/-- The cells of a byte, as a number. -/
def nbCs (n : Nat) : List Value := [.int .u8 (n : Int)]
theorem nbLay : Lay 1 nbCs := ⟨fun _ => rfl, fun x c hc => by simp [nbCs] at hc; subst hc; rfl⟩
theorem elem_u8 : ElemT Try.prog 23 5 1 1 := ⟨Try.underlying23, by
  have h : (Try.prog.info? 5).map (fun i => (i.zero, i.size, i.bytes)) = some (some (.int .u8 0), 1, 1) := by kernel_rfl
  obtain ⟨i0, hi, hz0, hz1, hz2⟩ := info_parts h
  exact ⟨i0, _, hi, hz0, hz1, hz2, rfl⟩, by omega⟩
abbrev Byt (base : Nat) (w : World) (v : Value) (xs : List Nat) : Prop := Own 1 nbCs 5 base w v xs
theorem Elems.nb {w : World} {S : Nat → Prop} {A : Option Addr} {xs : List Nat} {k : Nat} (h : Elems 1 nbCs w S A xs) (hk : k < xs.length) :
    ∃ b off, A = some ⟨b, off, none⟩ ∧ S b ∧ w.cell? ⟨b, off + k, none⟩ = some (.int .u8 (xs[k] : Int)) := by
  obtain ⟨b, off, e, hb, hc⟩ := h.at_ hk
  exact ⟨b, off, e, hb, by simpa using hc 0 _ rfl⟩

theorem nb_flat_get (xs : List Nat) (k : Nat) : (xs.flatMap nbCs)[k]? = xs[k]?.map fun n : Nat => Value.int .u8 (n : Int) := by
  induction xs generalizing k with
  | nil => rfl
  | cons x xs ih =>
    cases k with
    | zero => rfl
    | succ k => show (xs.flatMap nbCs)[k]? = _; rw [ih]; rfl
theorem nb_flat_set (xs : List Nat) (k m : Nat) : (xs.flatMap nbCs).set k (.int .u8 (m : Int)) = (xs.set k m).flatMap nbCs := by
  induction xs generalizing k with
  | nil => rfl
  | cons x xs ih =>
    cases k with
    | zero => rfl
    | succ k =>
      show Value.int .u8 (x : Int) :: (xs.flatMap nbCs).set k _ = _
      rw [ih]
      rfl
theorem nb_map (xs : List Nat) : xs.flatMap nbCs = xs.map fun n : Nat => Value.int .u8 (n : Int) := by
  induction xs with
  | nil => rfl
  | cons x xs ih => rw [List.flatMap_cons, ih]; rfl
theorem nb_flat_len (xs : List Nat) : (xs.flatMap nbCs).length = xs.length := by
  induction xs with
  | nil => rfl
  | cons x xs ih => rw [List.flatMap_cons, List.length_append, ih, List.length_cons]; show 1 + _ = _; omega

/-- A slice of bytes of the call's own, with its block. -/
structure Rw (base : Nat) (w : World) (g c : Nat) (p : List Nat) : Prop where
  own : Byt base w (.slice (some ⟨g, 0, none⟩) p.length c) p
section
variable {base : Nat} {w w' : World} {g c : Nat} {p : List Nat}
theorem Rw.lt (h : Rw base w g c p) : base ≤ g ∧ g < w.heap.size := h.own.lt g rfl
theorem Rw.cap (h : Rw base w g c p) : p.length ≤ c ∧ c ≤ maxLen := by
  rcases h.own.2 with ⟨h1, _⟩ | ⟨g', cap, cur, h1, h2, h3, hnc, hcm, _⟩
  · cases h1
  · injection h1 with h1 _ h5
    subst h5
    exact ⟨hnc, hcm⟩
theorem Rw.row (h : Rw base w g c p) : ∃ cur, w.heap[g]? = some (.cells cur 5 (0, 0)) ∧ cur.size = c ∧ cur.toList.take p.length = p.flatMap nbCs := by
  rcases h.own.2 with ⟨h1, _⟩ | ⟨g', cap, cur, h1, h2, h3, hnc, hcm, hsz, htk⟩
  · cases h1
  · injection h1 with h1 _ h5
    injection h1 with h1
    injection h1 with h1 h6
    subst h1 h5
    exact ⟨cur, h3, by simpa using hsz, by simpa using htk⟩
theorem Rw.at_ (h : Rw base w g c p) {k : Nat} (hk : k < p.length) : w.cell? ⟨g, k, none⟩ = some (.int .u8 (B p k : Nat)) ∧ w.frozen? ⟨g, k, none⟩ = false := by
  obtain ⟨cur, h1, h2, h3⟩ := h.row
  refine ⟨?_, frozen_of_row w g _ _ _ h1⟩
  rw [cell_of_row w g _ _ _ _ h1]
  have := congrArg (fun l => l[k]?) h3
  simp only [List.getElem?_take, if_pos hk, nb_flat_get, List.getElem?_eq_getElem hk, Option.map_some] at this
  rw [B_get hk, ← this, Array.getElem?_toList]
theorem Rw.below (h : Rw base w g c p) (hb : Below w.heap.size w w') : Rw base w' g c p := ⟨h.own.below hb⟩
theorem Rw.mono {base' : Nat} (h : Rw base w g c p) (hb : base' ≤ base) : Rw base' w g c p := ⟨h.own.mono hb⟩
theorem Rw.drew (h : Rw base w g c p) : Rw base w.drew g c p := ⟨h.own.drew⟩
theorem Rw.drewN (h : Rw base w g c p) (n : Nat) : Rw base (w.drewN n) g c p := ⟨h.own.drewN n⟩
theorem Rw.elems (h : Rw base w g c p) : Elems 1 nbCs w (· = g) (some ⟨g, 0, none⟩) p := (h.own.elems nbLay.len rfl).more fun k hk => by
  injection hk with hk
  exact hk.symm
theorem Rw.of (h : Byt base w (.slice (some ⟨g, 0, none⟩) p.length c) p) : Rw base w g c p := ⟨h⟩
/-- One byte is written. -/
theorem Rw.set (h : Rw base w g c p) (k m : Nat) : Rw base (w.setCell ⟨g, k, none⟩ (.int .u8 (m : Int))) g c (p.set k m) := by
  obtain ⟨h1, _⟩ := World.ownsRow.stored (w := w) h.own k (.int .u8 (m : Int))
  refine ⟨?_⟩
  unfold Byt Own
  rw [List.length_set, ← nb_flat_set]
  exact h1
/-- Some bytes are copied in. -/
theorem Rw.blit (h : Rw base w g c p) {cur : Array Value} (hs : cur.size = c) (ht : cur.toList.take p.length = p.flatMap nbCs) (o : Nat) (r : List Nat) (hr : o + r.length ≤ p.length)
    (h1 : w'.heap[g]? = some (.cells (splice cur.toList o (r.flatMap nbCs)).toArray 5 (0, 0))) : Rw base w' g c (Go.Proofs.Ytalgocjhcgmdlaa.blit p o r) := by
  obtain ⟨hc1, hc2⟩ := h.cap
  have hbl : (Go.Proofs.Ytalgocjhcgmdlaa.blit p o r).length = p.length := blit_len hr
  have hl : cur.toList.length = c := by simpa using hs
  refine ⟨⟨by rw [nb_flat_len]; simp, .inr ⟨g, c, _, rfl, h.lt.1, h1, by rw [hbl]; exact hc1, hc2, ?_, ?_⟩⟩⟩
  · have := length_splice cur.toList o (r.flatMap nbCs) (by rw [nb_flat_len]; omega)
    simp only [List.size_toArray, Nat.mul_one]
    omega
  · rw [hbl, Nat.mul_one]
    have e1 : cur.toList.take o = (p.take o).flatMap nbCs := by
      have := congrArg (List.take o) ht
      rw [List.take_take, Nat.min_eq_left (by omega)] at this
      rw [this, nb_map, nb_map, List.map_take]
    have e2 : (cur.toList.drop (o + r.length)).take (p.length - (o + r.length)) = (p.drop (o + r.length)).flatMap nbCs := by
      have := congrArg (List.drop (o + r.length)) ht
      rw [List.drop_take] at this
      rw [this, nb_map, nb_map, List.map_drop]
    show (cur.toList.take o ++ (r.flatMap nbCs ++ cur.toList.drop (o + (r.flatMap nbCs).length))).take p.length = _
    rw [nb_flat_len, List.take_append, List.take_append, nb_flat_len, List.length_take, hl, Nat.min_eq_left (by omega), List.take_take, Nat.min_eq_right (by omega), e1, List.take_of_length_le (l := r.flatMap nbCs) (by rw [nb_flat_len]; omega), Nat.sub_sub, e2]
    unfold Go.Proofs.Ytalgocjhcgmdlaa.blit
    rw [List.flatMap_append, List.flatMap_append, List.append_assoc]
end

/-- make([]byte, m). -/
theorem make_bytes (m : Nat) (hm : m ≤ 4000) : ∃ Z : Array Value, (∀ W : World, (Instr.makeSlice 23 (.int .i64 (m : Int)) (.int .i64 (m : Int))).run Try.prog W = .ok (.slice (some ⟨W.heap.size, 0, none⟩) m m) (W.alloc (.cells Z 5))) ∧
    ∀ (W : World) (base : Nat), base ≤ W.heap.size → Byt base (W.alloc (.cells Z 5)) (.slice (some ⟨W.heap.size, 0, none⟩) m m) (List.replicate m 0) := by
  have h : (Try.prog.info? 5).map (fun i => (i.zero, i.size, i.bytes)) = some (some (.int .u8 0), 1, 1) := by kernel_rfl
  obtain ⟨i, hi, hz, h1, h2⟩ := info_parts h
  refine ⟨madeCells (Value.int .u8 0).cells m, fun W => ?_, fun W base hb => ?_⟩
  · have := run_makeSlice (P := Try.prog) W 23 5 i (.int .u8 0) Try.underlying23 hi hz .i64 .i64 m m (by omega) (Int.le_refl _) (by rw [h1]; simp; omega) (by rw [h2]; omega) (by omega)
    rw [h1] at this
    simpa using this
  · have := World.ownsRow_lit (base := base) (e := 5) (size := 1) W (madeCells (Value.int .u8 0).cells m) m hb (by unfold maxLen; omega) (by rw [size_madeCells]; omega)
    have e : (madeCells (Value.int .u8 0).cells m).toList = (List.replicate m 0).flatMap nbCs := by
      rw [nb_map, List.map_replicate]
      exact toList_madeCells_one _ _
    rw [e] at this
    unfold Byt Own
    rw [List.length_replicate]
    exact this

/-- A page in memory. -/
def Pg (base : Nat) (w : World) (g c : Nat) (p : List Nat) : Prop := Rw base w g c p ∧ p.length = 256 ∧ ∀ k, B p k < 256
section
variable {base : Nat} {w w' : World} {g c : Nat} {p : List Nat}
theorem Pg.at_ (h : Pg base w g c p) {k : Nat} (hk : k < 256) : w.cell? ⟨g, k, none⟩ = some (.int .u8 (B p k : Nat)) := (h.1.at_ (by rw [h.2.1]; exact hk)).1
theorem Pg.below (h : Pg base w g c p) (hb : Below w.heap.size w w') : Pg base w' g c p := ⟨h.1.below hb, h.2⟩
theorem Pg.cap (h : Pg base w g c p) : 256 ≤ c ∧ c ≤ maxLen := by have := h.1.cap; rw [h.2.1] at this; exact this
theorem Pg.own (h : Pg base w g c p) : Byt base w (.slice (some ⟨g, 0, none⟩) 256 c) p := by have := h.1.own; rw [h.2.1] at this; exact this
end

set_option maxRecDepth 100000 in
set_option maxHeartbeats 400000 in
theorem dataStart {base g c : Nat} {p : List Nat} (w : World) (h : Pg base w g c p) :
    Calls Try.prog 24 #[.slice (some ⟨g, 0, none⟩) 256 c] w fun e w' => e = .returned (.int .i64 (dS p : Nat)) ∧ w = w' := by
  have c1 := h.at_ (k := 1) (by omega)
  have hxb := h.2.2 1
  have hds : dS p = if B p 1 = 0 then 256 else B p 1 := rfl
  by_cases h0 : B p 1 = 0
  · rw [if_pos h0] at hds
    rw [hds]
    rw [h0] at c1
    clear h0 hds h hxb
    go_enter Try.func24, Try.ntmps24
    go_wp2_with fail
    go_ret
    exact ⟨rfl, rfl⟩
  · rw [if_neg h0] at hds
    rw [hds]
    generalize B p 1 = x at *
    have hx : ((x : Int) == 0) = false := by rw [beq_eq_false_iff_ne]; omega
    clear h0 hds h
    go_enter Try.func24, Try.ntmps24
    go_wp2_with fail
    go_ret
    exact ⟨rfl, rfl⟩

set_option maxRecDepth 100000 in
set_option maxHeartbeats 400000 in
theorem slotAt {base g c : Nat} {p : List Nat} (w : World) (h : Pg base w g c p) (i : Nat) (hi : i ≤ 126) :
    Calls Try.prog 26 #[.slice (some ⟨g, 0, none⟩) 256 c, .int .i64 i] w fun e w' => e = .returned (.tuple #[.int .i64 (so p i : Nat), .int .i64 (sl p i : Nat)]) ∧ ∃ n, w' = w.drewN n := by
  have c1 := h.at_ (k := 2 + 2 * i) (by omega)
  have c2 := h.at_ (k := 3 + 2 * i) (by omega)
  have hxb := h.2.2 (2 + 2 * i)
  have hyb := h.2.2 (3 + 2 * i)
  have e1 : so p i = B p (2 + 2 * i) := rfl
  have e2 : sl p i = B p (3 + 2 * i) := rfl
  rw [e1, e2]
  generalize B p (2 + 2 * i) = x at *
  generalize B p (3 + 2 * i) = y at *
  obtain ⟨a, ha⟩ : ∃ a : Nat, a = 2 + 2 * i := ⟨_, rfl⟩
  obtain ⟨b, hb⟩ : ∃ b : Nat, b = 3 + 2 * i := ⟨_, rfl⟩
  rw [← ha] at c1
  rw [← hb] at c2
  obtain ⟨d, hd⟩ : ∃ d : Nat, d = 2 * i := ⟨_, rfl⟩
  have i0 : IntKind.i64.wrap (2 * (i : Int)) = (d : Int) := by rw [IntKind.wrap_i64]; omega
  have i1 : IntKind.i64.wrap (2 + (d : Int)) = (a : Int) := by rw [IntKind.wrap_i64]; omega
  have i2 : IntKind.i64.wrap (3 + (d : Int)) = (b : Int) := by rw [IntKind.wrap_i64]; omega
  have i3 : IntKind.i64.wrap (x : Int) = (x : Int) := by rw [IntKind.wrap_i64]; omega
  have i4 : IntKind.i64.wrap (y : Int) = (y : Int) := by rw [IntKind.wrap_i64]; omega
  have a0 : (0 : Int) ≤ (a : Int) := by omega
  have b0 : (0 : Int) ≤ (b : Int) := by omega
  have a1 : (a : Int) < 256 := by omega
  have b1 : (b : Int) < 256 := by omega
  clear ha hb hd e1 e2 h
  go_enter Try.func26, Try.ntmps26
  go_wp2_with fail
  go_quiet (fail)
  go_wp2_with fail
  go_ret2
  exact ⟨rfl, _, rfl⟩

end Go.Proofs.Ytalgocjhcgmdlaa
