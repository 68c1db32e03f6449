/-
  The walks of setSlot, New, bytes.Clone.
-/
import Derived.Test.YtalgocjhcgmdlaaPw
namespace Go.Proofs.Ytalgocjhcgmdlaa
open Go.RowKit

theorem Rw.of_own {base : Nat} {w : World} {v : Value} {p : List Nat} (h : Byt base w v p) (h0 : 0 < p.length) : ∃ g c, v = .slice (some ⟨g, 0, none⟩) p.length c ∧ Rw base w g c p := by
  rcases h.2 with ⟨_, hz⟩ | ⟨g, cap, cur, hv, _⟩
  · omega
  · subst hv
    exact ⟨g, cap, rfl, ⟨h⟩⟩
theorem Pg.of_own {base : Nat} {w : World} {v : Value} {p : List Nat} (h : Byt base w v p) (hl : p.length = 256) (hb : ∀ k, B p k < 256) : ∃ g c, v = .slice (some ⟨g, 0, none⟩) 256 c ∧ Pg base w g c p := by
  obtain ⟨g, c, hv, hr⟩ := Rw.of_own h (by omega)
  rw [hl] at hv
  exact ⟨g, c, hv, hr, hl, hb⟩
theorem Pg.mono {base base' : Nat} {w : World} {g c : Nat} {p : List Nat} (h : Pg base w g c p) (hb : base' ≤ base) : Pg base' w g c p := ⟨h.1.mono hb, h.2⟩
theorem Pg.elems {base : Nat} {w : World} {g c : Nat} {p : List Nat} (h : Pg base w g c p) : Elems 1 nbCs w (· < w.heap.size) (some ⟨g, 0, none⟩) p := h.1.elems.more fun k hk => by
  have := h.1.lt.2
  rw [hk]
  exact this
theorem Pg.set {base : Nat} {w : World} {g c : Nat} {p : List Nat} (h : Pg base w g c p) {k m : Nat} (hk : k < 256) (hm : m < 256) : Pg base (w.setCell ⟨g, k, none⟩ (.int .u8 (m : Int))) g c (p.set k m) :=
  ⟨h.1.set k m, by rw [List.length_set, h.2.1], fun x => by
    rw [B_set x (by rw [h.2.1]; exact hk)]
    have := h.2.2 x
    split <;> omega⟩
theorem Pg.lt {base : Nat} {w : World} {g c : Nat} {p : List Nat} (h : Pg base w g c p) : base ≤ g ∧ g < w.heap.size := h.1.lt
theorem Pg.fz {base : Nat} {w : World} {g c : Nat} {p : List Nat} (h : Pg base w g c p) {k : Nat} (hk : k < 256) : w.frozen? ⟨g, k, none⟩ = false := (h.1.at_ (by rw [h.2.1]; exact hk)).2

set_option maxRecDepth 100000 in
set_option maxHeartbeats 400000 in
theorem setSlot {base g c : Nat} {p : List Nat} (w : World) (h : Pg base w g c p) (i o l : Nat) (hi : i ≤ 126) (ho : o < 256) (hl : l < 256) :
    Calls Try.prog 29 #[.slice (some ⟨g, 0, none⟩) 256 c, .int .i64 i, .int .i64 o, .int .i64 l] w fun e w' => e = .returned (.tuple #[]) ∧ Pg base w' g c (setS p i o l) ∧ Below base w w' := by
  have c1 := h.at_ (k := 2 + 2 * i) (by omega)
  have c2 := h.at_ (k := 3 + 2 * i) (by omega)
  have z1 := h.fz (k := 2 + 2 * i) (by omega)
  have z2 := h.fz (k := 3 + 2 * i) (by omega)
  have HP := Lib.hid ((h.set (k := 2 + 2 * i) (by omega) ho).set (k := 3 + 2 * i) (by omega) hl)
  have HB : Hid (Below base w ((w.setCell ⟨g, 2 + 2 * i, none⟩ (.int .u8 (o : Int))).setCell ⟨g, 3 + 2 * i, none⟩ (.int .u8 (l : Int)))) :=
    Lib.hid (((Below.refl _ _).setCell (p := ⟨g, 2 + 2 * i, none⟩) h.lt.1 _).setCell (p := ⟨g, 3 + 2 * i, none⟩) h.lt.1 _)
  have hne : 2 + 2 * i ≠ 3 + 2 * i := by omega
  have e1 : setS p i o l = (p.set (2 + 2 * i) o).set (3 + 2 * i) l := rfl
  rw [← e1] at HP
  generalize setS p i o l = q at *
  generalize B p (2 + 2 * i) = x at *
  generalize B p (3 + 2 * i) = y at *
  obtain ⟨a, ha⟩ : ∃ a : Nat, a = 2 + 2 * i := ⟨_, rfl⟩
  obtain ⟨b, hb⟩ : ∃ b : Nat, b = 3 + 2 * i := ⟨_, rfl⟩
  rw [← ha] at c1 z1 HP HB hne
  rw [← hb] at c2 z2 HP HB hne
  have i1 : (2 : Int) + 2 * (i : Int) = (a : Int) := by omega
  have i2 : (3 : Int) + 2 * (i : Int) = (b : Int) := by omega
  have a1 : (a : Int) < 256 := by omega
  have b1 : (b : Int) < 256 := by omega
  have o1 : (o : Int) % 256 = (o : Int) := by omega
  have l1 : (l : Int) % 256 = (l : Int) := by omega
  clear ha hb e1 h
  go_enter Try.func29, Try.ntmps29
  go_wp2_with fail
  go_end0
  exact ⟨rfl, HP.out, HB.out⟩

set_option maxRecDepth 100000 in
set_option maxHeartbeats 400000 in
theorem newPage (w : World) :
    Calls Try.prog 16 #[] w fun e w' => e = .returned (.slice (some ⟨w.heap.size, 0, none⟩) 256 256) ∧ Pg w.heap.size w' w.heap.size 256 zeros ∧ Below w.heap.size w w' := by
  obtain ⟨Z, hmk, hmo⟩ := make_bytes 256 (by omega)
  have HM := Lib.hid (hmo w w.heap.size (Nat.le_refl _))
  have hmk' : ∀ W : World, (Instr.makeSlice 23 (.int .i64 256) (.int .i64 256)).run Try.prog W = .ok (.slice (some ⟨W.heap.size, 0, none⟩) 256 256) (W.alloc (.cells Z 5)) := hmk
  clear hmo hmk
  go_enter Try.func16, Try.ntmps16
  go_wp2_with fail
  go_ret
  exact ⟨rfl, ⟨⟨HM.out⟩, zeros_len, fun k => by rw [B_zeros]; omega⟩, (Below.refl _ _).alloc (Nat.le_refl _) _⟩

set_option maxRecDepth 100000 in
set_option maxHeartbeats 400000 in
theorem cloneB (a : Addr) (n c : Nat) (xs : List Nat) (w : World) (hx : Elems 1 nbCs w (· < w.heap.size) (some a) xs) (hn : n = xs.length) (hs : xs.length ≤ 1000000) :
    Calls Try.prog 28 #[.slice (some a) n c] w fun e w' => ∃ v, e = .returned v ∧ Byt w.heap.size w' v xs ∧ Below w.heap.size w w' := by
  have hnil := fun W => Lib.run_eql_slice_nil (P := Try.prog) W 23 5 (some a) n c 0 0 Try.underlying23
  simp only [Option.isNone_some] at hnil
  have HX := Lib.hid (hx.keep (w' := w.alloc (.cells #[] 5)) fun k hk => Below.heap_alloc _ _ _ hk)
  have hB : w.heap.size ≤ (w.alloc (.cells #[] 5)).heap.size := by simp
  have H1 : Hid ((([] : List Nat).length + xs.length) * 1 ≤ 140737488355328) := Lib.hid (by simp; omega)
  have H2 : Hid (([] : List Nat).length + xs.length ≤ maxLen) := Lib.hid (by unfold maxLen; simp; omega)
  have HN := Lib.hid hn
  clear hx hs hn
  go_enter Try.func28, Try.ntmps28
  go_wp2_with (at_builtin; refine wpList_app rfl (.tmp 5) (.tmp 6) _ _ rfl rfl rfl (run_pushs elem_u8 nbLay _ (w.alloc (.cells #[] 5)) _ ([] : List Nat) (Own.lit0 w) HX.out HN.out H1.out H2.out hB) ?_; rintro v1 w1 ⟨ho1, hx1⟩)
  go_ret
  exact ⟨_, rfl, by simpa using ho1, ((Below.refl _ _).alloc (Nat.le_refl _) _).trans (hx1.below (base := w.heap.size) (by simp) (fun g hg => Nat.le_of_eq (Option.some.inj hg)))⟩

/-- A page is cloned. -/
theorem clonePage {base g c : Nat} {p : List Nat} (w : World) (h : Pg base w g c p) :
    Calls Try.prog 28 #[.slice (some ⟨g, 0, none⟩) 256 c] w fun e w' => ∃ g' c', e = .returned (.slice (some ⟨g', 0, none⟩) 256 c') ∧ Pg w.heap.size w' g' c' p ∧ Below w.heap.size w w' := by
  refine (cloneB ⟨g, 0, none⟩ 256 c p w h.elems h.2.1.symm (by rw [h.2.1]; omega)).mono ?_
  rintro e w' ⟨v, rfl, ho, hb⟩
  obtain ⟨g', c', rfl, hp⟩ := Pg.of_own ho h.2.1 h.2.2
  exact ⟨g', c', rfl, hp, hb⟩

end Go.Proofs.Ytalgocjhcgmdlaa
