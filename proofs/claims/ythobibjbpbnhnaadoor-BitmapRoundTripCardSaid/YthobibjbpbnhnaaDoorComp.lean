/-
  The walk of bitmap.compress.
-/
import Derived.Test.YthobibjbpbnhnaaDoorBw
import Derived.Test.YthobibjbpbnhnaaDoorLaw
import Derived.Deep.RegionHeld3
import Derived.StillTailTactics
import Derived.IntWalk
namespace Go.Proofs.YthobibjbpbnhnaaDoor
open Go.RowKit

theorem elem_ints : ElemT Tryd.prog 22 3 1 8 := ⟨Tryd.underlying22, by
  have h : (Tryd.prog.info? 3).map (fun i => (i.zero, i.size, i.bytes)) = some (some (.int .i64 0), 1, 8) := by kernel_rfl
  obtain ⟨i0, hi, hz0, hz1, hz2⟩ := info_parts h
  exact ⟨i0, _, hi, hz0, hz1, hz2, rfl⟩, by omega⟩
abbrev Ints (base : Nat) (w : World) (v : Value) (xs : List Int) : Prop := Own 1 intCs 3 base w v xs
theorem Elems.int {w : World} {S : Nat → Prop} {A : Option Addr} {xs : List Int} {k : Nat} (h : Elems 1 intCs w S A xs) (hk : k < xs.length) :
    ∃ b off, A = some ⟨b, off, none⟩ ∧ S b ∧ w.cell? ⟨b, off + k, none⟩ = some (.int .i64 xs[k]) := by
  obtain ⟨b, off, e, hb, hc⟩ := h.at_ hk
  exact ⟨b, off, e, hb, by simpa using hc 0 _ rfl⟩
/-- Groups in memory. -/
def natCs (n : Nat) : List Value := [.int .i64 (n : Int)]
theorem natLay : Lay 1 natCs := ⟨fun _ => rfl, fun x c hc => by simp [natCs] at hc; subst hc; rfl⟩
abbrev Nats (base : Nat) (w : World) (v : Value) (xs : List Nat) : Prop := Own 1 natCs 3 base w v xs
theorem Elems.nat {w : World} {S : Nat → Prop} {A : Option Addr} {xs : List Nat} {k : Nat} (h : Elems 1 natCs w S A xs) (hk : k < xs.length) :
    ∃ b off, A = some ⟨b, off, none⟩ ∧ S b ∧ w.cell? ⟨b, off + k, none⟩ = some (.int .i64 (xs[k] : Int)) := by
  obtain ⟨b, off, e, hb, hc⟩ := h.at_ hk
  exact ⟨b, off, e, hb, by simpa using hc 0 _ rfl⟩

theorem Own.form' {α : Type} {sz : Nat} {cs : α → List Value} {e : TypeId} {base : Nat} {w : World} {v : Value} {xs : List α} (h : Own sz cs e base w v xs) : ∃ A n c, v = .slice A n c ∧ xs.length = n := by
  obtain ⟨A, c, hv, _, _⟩ := h.form
  exact ⟨A, _, c, hv, rfl⟩

/-- The last word of an own slice: where it lies. -/
theorem Ints.last {base : Nat} {w : World} {v : Value} {d : List Int} {l : Int} (h : Ints base w v (d ++ [l])) :
    ∃ g c, v = .slice (some ⟨g, 0, none⟩) (d.length + 1) c ∧ base ≤ g ∧ g < w.heap.size ∧ d.length + 1 ≤ c ∧ c ≤ maxLen ∧ w.cell? ⟨g, d.length, none⟩ = some (.int .i64 l) ∧ w.frozen? ⟨g, d.length, none⟩ = false := by
  obtain ⟨A, c, hv, hc, hm⟩ := h.form
  have he := h.elems intLay.len hv
  obtain ⟨b, off, hA, hb, hcell⟩ := he.int (k := d.length) (by simp)
  subst hA
  rw [hv] at h
  rcases h.2 with ⟨h1, _⟩ | ⟨g, cap, cur, h1, h2, h3, _⟩
  · cases h1
  · injection h1 with h1 _ h5
    injection h1 with h1
    injection h1 with h1 h6
    subst h1 h5 h6
    have hl : (d ++ [l]).length = d.length + 1 := by simp
    rw [hl] at hv hc
    exact ⟨b, c, hv, h2, (Array.getElem?_eq_some_iff.1 h3).1, hc, hm, by simpa using hcell, frozen_of_row w b _ _ _ h3⟩

/-- The last word is changed in place. -/
theorem Ints.turn {base : Nat} {w : World} {g c : Nat} {d : List Int} {l : Int} (h : Ints base w (.slice (some ⟨g, 0, none⟩) (d.length + 1) c) (d ++ [l])) (m : Int) :
    Ints base (w.setCell ⟨g, d.length, none⟩ (.int .i64 m)) (.slice (some ⟨g, 0, none⟩) (d.length + 1) c) (d ++ [m]) ∧ Ext w (.slice (some ⟨g, 0, none⟩) (d.length + 1) c) (w.setCell ⟨g, d.length, none⟩ (.int .i64 m)) (.slice (some ⟨g, 0, none⟩) (d.length + 1) c) := by
  have h' : w.ownsRow base 3 1 (.slice (some ⟨g, 0, none⟩) (d.length + 1) c) (d.length + 1) ((d ++ [l]).flatMap intCs) := by
    have := h
    unfold Ints Own at this
    simpa using this
  obtain ⟨h1, h2⟩ := h'.stored d.length (.int .i64 m)
  refine ⟨?_, ⟨h2, .inl rfl⟩⟩
  unfold Ints Own
  have hl : (d ++ [m]).length = d.length + 1 := by simp
  rw [hl]
  have hdl : (d.flatMap intCs).length = d.length := by
    clear h h' h1 h2 hl
    induction d with
    | nil => simp
    | cons x d ih => rw [List.flatMap_cons, List.length_append, ih, intLay.len, List.length_cons]; omega
  have e : ((d ++ [l]).flatMap intCs).set d.length (.int .i64 m) = (d ++ [m]).flatMap intCs := by
    rw [List.flatMap_append, List.flatMap_append, List.set_append_right _ _ (by omega), hdl, Nat.sub_self]
    rfl
  rw [e] at h1
  exact h1

/-- What compress leaves. -/
def CompPost (w : World) (n : Nat) (ws : List Int) (e : Ending) (w' : World) : Prop := ∃ v, e = .returned (.agg #[.int .i64 n, v]) ∧ Ints w.heap.size w' v ws ∧ Below w.heap.size w w'

theorem comp_word {gs : List Nat} (hg : ∀ g ∈ gs, g ≤ 2147483647) (k : Nat) : (comp (gs.take k)).length ≤ gs.length ∧ ∀ w ∈ comp (gs.take k), w < 0 → -(2 * (gs.length : Int) + 1) ≤ w := by
  have hg' : ∀ g ∈ gs.take k, g ≤ 2147483647 := fun g h => hg g (List.mem_of_mem_take h)
  have h1 := wc_comp hg'
  have h2 := ws_len h1
  have h3 := exp_comp hg'
  have hl : (gs.take k).length ≤ gs.length := by rw [List.length_take]; omega
  rw [h3] at h2
  refine ⟨by omega, fun w hw hn => ?_⟩
  obtain ⟨i, hi, rfl⟩ := List.mem_iff_getElem.1 hw
  have h4 := word_le hi hn
  rw [h3] at h4
  rcases fill_of hn with ⟨h, _⟩ | ⟨h, _⟩ <;> omega

/-- The state between two groups. -/
structure CInv (w : World) (n : Nat) (wr : World) (v : Value) (ws : List Int) : Prop where
  own : Ints (w.heap.size + 2) wr v ws
  below : Below w.heap.size w wr
  b4 : wr.heap[w.heap.size]? = some (.cells #[.int .i64 0, .slice none 0 0] 25 (0, 0))
  b5 : wr.heap[w.heap.size + 1]? = some (.cells #[.int .i64 n, v] 25 (0, 0))

section
variable {w wr w1 : World} {n : Nat} {v v1 : Value} {ws ws1 : List Int}
theorem CInv.lb (h : CInv w n wr v ws) : w.heap.size + 2 ≤ wr.heap.size := (Array.getElem?_eq_some_iff.1 h.b5).1
theorem CInv.c1 (h : CInv w n wr v ws) : wr.cell? ⟨w.heap.size + 1, 1, none⟩ = some v := cell_of_row _ _ 1 _ _ _ h.b5
theorem CInv.z1 (h : CInv w n wr v ws) : wr.frozen? ⟨w.heap.size + 1, 1, none⟩ = false := frozen_of_row _ _ 1 _ _ h.b5
theorem CInv.ne (h : CInv w n wr v ws) {k : Nat} (hk : k < w.heap.size + 2) : some k ≠ v.ownBlock := fun e => by
  have := (h.own.lt k e.symm).1
  omega
theorem CInv.bel (h : CInv w n wr v ws) (hx : Ext wr v w1 v1) : Below w.heap.size w w1 := h.below.trans (hx.below h.below.size (fun g hg => by have := (h.own.lt g hg).1; omega))
theorem CInv.f1 (h : CInv w n wr v ws) (hx : Ext wr v w1 v1) : w1.frozen? ⟨w.heap.size + 1, 1, none⟩ = false :=
  frozen_of_row _ _ 1 _ _ ((hx.grown.block _ (by have := h.lb; omega) (h.ne (by omega))).trans h.b5)
theorem CInv.f2 (h : CInv w n wr v ws) (hx : Ext wr v w1 v1) : w1.cell? ⟨w.heap.size + 1, 1, none⟩ = some v :=
  cell_of_row _ _ 1 _ _ _ ((hx.grown.block _ (by have := h.lb; omega) (h.ne (by omega))).trans h.b5)
theorem CInv.same (h : CInv w n wr v ws) (hx : Ext wr v w1 v) (ho : Ints (w.heap.size + 2) w1 v ws1) : CInv w n w1 v ws1 :=
  ⟨ho, h.bel hx, (hx.grown.block _ (by have := h.lb; omega) (h.ne (by omega))).trans h.b4, (hx.grown.block _ (by have := h.lb; omega) (h.ne (by omega))).trans h.b5⟩
theorem CInv.push (h : CInv w n wr v ws) (hx : Ext wr v w1 v1) (ho : Ints (w.heap.size + 2) w1 v1 ws1) : CInv w n (w1.setCell ⟨w.heap.size + 1, 1, none⟩ v1) v1 ws1 := by
  have e4 := (hx.grown.block _ (by have := h.lb; omega) (h.ne (by omega))).trans h.b4
  have e5 := (hx.grown.block _ (by have := h.lb; omega) (h.ne (by omega))).trans h.b5
  exact ⟨ho.setCell (fun g hg => by have := (ho.lt g hg).1; show g ≠ w.heap.size + 1; omega) _, (h.bel hx).setCell (by show _ ≤ w.heap.size + 1; omega) _, (Below.heap_setCell _ _ _ _ (by show w.heap.size ≠ w.heap.size + 1; omega)).trans e4, heap_setCell_same _ _ 1 _ _ v1 e5⟩
end

set_option maxRecDepth 100000 in
set_option maxHeartbeats 1000000 in
theorem compress (n : Nat) (A : Option Addr) (c : Nat) (gs : List Nat) (w : World) (hx : Elems 1 natCs w (· < w.heap.size) A gs) (hl : gs.length ≤ 4000) (hg : ∀ g ∈ gs, g ≤ 2147483647) :
    Calls Tryd.prog 14 #[.int .i64 n, .slice A gs.length c] w (CompPost w n (comp gs)) := by
  have HG := Lib.hid hg
  have HCW := Lib.hid (comp_word hg)
  clear hg
  go_enter Tryd.func14, Tryd.ntmps14
  go_wp2_with fail
  go_loopw [15] (fun i wr => ∃ (k : Nat) (v : Value), k ≤ gs.length ∧ i = .int .i64 k ∧ CInv w n wr v (comp (gs.take k))) (fun i _ => gs.length - (intOf i).toNat)
  case atStart => exact ⟨0, .slice none 0 0, by omega, rfl, ⟨Own.nil _, ((Below.refl _ _).alloc (Nat.le_refl _) _).alloc (le_size1 (Nat.le_refl _) _) _, (Below.heap_alloc _ _ _ (by simp)).trans (heap_alloc_new w _), alloc2_at _ _ _⟩⟩
  case round =>
    obtain ⟨k, v, hk, rfl, HI0⟩ := hrel
    have HI := Lib.hid HI0
    have hb := HI0.below
    have d1 := HI0.c1
    have z1 := HI0.z1
    have hlb := HI0.lb
    by_cases hlt : k < gs.length
    · obtain ⟨b, off, rfl, hbs, c0⟩ := (hx.keep (Keeps.of_below hb fun _ h => h)).nat hlt
      have HT := Lib.hid (comp_take hlt)
      have hwl := (HCW.out k).1
      have hww := (HCW.out k).2
      have hgk := HG.out _ (List.getElem_mem hlt)
      generalize comp (gs.take k) = ws at *
      generalize gs[k] = g at *
      have H1 : Hid ((ws.length + 1) * 8 ≤ 140737488355328) := Lib.hid (by omega)
      have H2 : Hid (ws.length + 1 ≤ maxLen) := Lib.hid (by unfold maxLen; omega)
      obtain ⟨A1, c1, rfl, _, _⟩ := HI0.own.form
      clear HI0
      by_cases hlit : 0 < g ∧ g < 2147483647
      · rw [push_lit hlit] at HT
        obtain ⟨hl1, hl2⟩ := hlit
        have hi1 : (0 : Int) < (g : Int) := by omega
        have hi2 : (g : Int) < 2147483647 := by omega
        have HW := Lib.hid hww
        clear hww hl1 hl2 hgk
        generalize ((g : Nat) : Int) = x at *
        go_wp2_with (at_builtin; refine wpList_app rfl (.tmp 26) (.tmp 28) _ _ rfl rfl rfl (run_push elem_ints intLay _ wr _ ws x _ HI.out.own rfl H1.out H2.out hlb rfl) ?_; rintro v1 w1 ⟨ho1, hx1⟩; have f1 := HI.out.f1 hx1; have f2 := HI.out.f2 hx1; obtain ⟨A2, m2, c2, rfl, _⟩ := ho1.form')
        go_roundw
        case rel => exact ⟨k + 1, _, by omega, by go_num, by rw [HT.out]; exact HI.out.push hx1 ho1⟩
        case measure => simp [intOf]; omega
      · have HLIT := Lib.hid hlit
        obtain ⟨q, hq⟩ : ∃ q : Int, q = ((g % 2 : Nat) : Int) := ⟨_, rfl⟩
        have hx01 : (g : Int) = 0 ∧ q = 0 ∨ (g : Int) = 2147483647 ∧ q = 1 := by omega
        have hgm : (g : Int).tmod 2 = q := by rw [hq, Int.tmod_eq_emod_of_nonneg (by omega)]; omega
        clear hlit hgk
        rcases list_snoc' ws with rfl | ⟨d, l, rfl⟩
        · rw [push_nil HLIT.out, ← hq] at HT
          simp only [List.length_nil] at *
          clear hq
          generalize ((g : Nat) : Int) = x at *
          rcases hx01 with ⟨hx0, hq0⟩ | ⟨hx0, hq0⟩
          all_goals
            subst hx0 hq0
            go_wp2_with (at_builtin; refine wpList_app rfl (.tmp 67) (.tmp 71) _ _ rfl rfl rfl (run_push elem_ints intLay _ wr _ [] _ _ HI.out.own rfl H1.out H2.out hlb rfl) ?_; rintro v1 w1 ⟨ho1, hx1⟩; have f1 := HI.out.f1 hx1; have f2 := HI.out.f2 hx1; obtain ⟨A2, m2, c2, rfl, _⟩ := ho1.form')
            go_roundw
            case rel => exact ⟨k + 1, _, by omega, by go_num, by rw [HT.out]; exact HI.out.push hx1 ho1⟩
            case measure => simp [intOf]; omega
        · obtain ⟨g0, c1', hv, hg0, hgw, hlc1, hcm, c2, z2⟩ := HI.out.own.last
          have hll := hww l (by simp)
          injection hv with hv1 hv2 hv3
          subst hv1 hv3
          have hlen : (d ++ [l]).length = d.length + 1 := by simp
          rw [hlen] at HI d1
          have hdl : d.length + 1 ≤ 4000 := by rw [hlen] at hwl; omega
          have hi1 : (d.length : Int) < (d.length : Int) + 1 := by omega
          have hi0 : (0 : Int) ≤ (d.length : Int) := by omega
          have hgt : decide ((0 : Int) < (d.length : Int) + 1) = true := by rw [decide_eq_true_iff]; omega
          have HW := Lib.hid hww
          have HCM := Lib.hid hcm
          rw [hlen] at hwl
          clear hlen
          clear hww hcm hv2
          by_cases hneg : l < 0
          · have hl1 : -1000000 ≤ l := by have := hll hneg; omega
            have HD := Lib.hid fun W => decodeFill l W hneg hl1
            have hnn : decide (l < 0) = true := by rw [decide_eq_true_iff]; exact hneg
            clear hll
            by_cases hp : fillP l = g
            · rw [push_more HLIT.out d ⟨hneg, hp⟩] at HT
              rw [hp] at HD
              have hs1 : IntKind.i64.wrap (l - 2) = l - 2 := IntWalk.i64_in _ (by omega)
              clear hq hp hgm
              generalize ((g : Nat) : Int) = x at *
              generalize fillN l = m at *
              rcases hx01 with ⟨hx0, hq0⟩ | ⟨hx0, hq0⟩
              all_goals
                subst hx0 hq0
                go_wp2_with fail
                refine (HD.out _).mono ?_
                rintro e w1 ⟨rfl, rfl⟩
                go_wp2_with fail
                go_roundw
                case rel => exact ⟨k + 1, _, by omega, by go_num, by rw [HT.out]; exact HI.out.same (HI.out.own.turn (l - 2)).2 (HI.out.own.turn (l - 2)).1⟩
                case measure => simp [intOf]; omega
            · rw [push_new HLIT.out d (fun h => hp h.2), ← hq] at HT
              have hcmp : (((fillP l : Nat) : Int) == (g : Int)) = false := by rw [beq_eq_false_iff_ne]; omega
              clear hq hp hgm
              generalize ((g : Nat) : Int) = x at *
              generalize fillN l = m at *
              generalize ((fillP l : Nat) : Int) = y at *
              rcases hx01 with ⟨hx0, hq0⟩ | ⟨hx0, hq0⟩
              all_goals
                subst hx0 hq0
                go_wp2_with fail
                refine (HD.out _).mono ?_
                rintro e w1 ⟨rfl, rfl⟩
                go_wp2_with (at_builtin; refine wpList_app rfl (.tmp 67) (.tmp 71) _ _ rfl rfl rfl (run_push elem_ints intLay _ wr _ (d ++ [l]) _ _ HI.out.own rfl H1.out H2.out hlb rfl) ?_; rintro v1 w1 ⟨ho1, hx1⟩; have f1 := HI.out.f1 hx1; have f2 := HI.out.f2 hx1; obtain ⟨A2, m2, c2, rfl, _⟩ := ho1.form')
                go_roundw
                case rel => exact ⟨k + 1, _, by omega, by go_num, by rw [HT.out]; exact HI.out.push hx1 ho1⟩
                case measure => simp [intOf]; omega
          · rw [push_new HLIT.out d (fun h => hneg h.1), ← hq] at HT
            have hnn : decide (l < 0) = false := by rw [decide_eq_false_iff_not]; exact hneg
            clear hq hll
            generalize ((g : Nat) : Int) = x at *
            rcases hx01 with ⟨hx0, hq0⟩ | ⟨hx0, hq0⟩
            all_goals
              subst hx0 hq0
              go_wp2_with (at_builtin; refine wpList_app rfl (.tmp 67) (.tmp 71) _ _ rfl rfl rfl (run_push elem_ints intLay _ wr _ (d ++ [l]) _ _ HI.out.own rfl H1.out H2.out hlb rfl) ?_; rintro v1 w1 ⟨ho1, hx1⟩; have f1 := HI.out.f1 hx1; have f2 := HI.out.f2 hx1; obtain ⟨A2, m2, c2, rfl, _⟩ := ho1.form')
              go_roundw
              case rel => exact ⟨k + 1, _, by omega, by go_num, by rw [HT.out]; exact HI.out.push hx1 ho1⟩
              case measure => simp [intOf]; omega
    · have hkl : k = gs.length := by omega
      subst hkl
      rw [List.take_of_length_le (Nat.le_refl _)] at HI
      obtain ⟨A2, m2, c2, rfl, _⟩ := HI0.own.form'
      have d0 := cell_of_row _ _ 0 _ _ _ HI0.b5
      have y0 := cell_of_row _ _ 0 _ _ _ HI0.b4
      have y1 := cell_of_row _ _ 1 _ _ _ HI0.b4
      have x0 := frozen_of_row _ _ 0 _ _ HI0.b4
      have x1 := frozen_of_row _ _ 1 _ _ HI0.b4
      clear HI0
      go_wp2_with fail
      have e0 := heap_setCell_same _ w.heap.size 0 _ _ (.int .i64 n) HI.out.b4
      have e1 := heap_setCell_same _ w.heap.size 1 _ _ (.slice A2 m2 c2) e0
      have r0 := cell_of_row _ w.heap.size 0 _ _ _ e1
      have r1 := cell_of_row _ w.heap.size 1 _ _ _ e1
      simp at r0 r1
      refine bodyPost_ret (v := .agg #[.int .i64 n, .slice A2 m2 c2]) (by simp [results, Tryd.results14, go_sem, r0, r1]) rfl ?_
      have hne : ∀ i g, (Value.slice A2 m2 c2).ownBlock = some g → g ≠ (⟨w.heap.size, i, none⟩ : Addr).block := fun i g hg => by have := (HI.out.own.lt g hg).1; show g ≠ w.heap.size; omega
      exact ⟨_, rfl, ((HI.out.own.setCell (hne 0) _).setCell (hne 1) _).mono (by omega), (HI.out.below.setCell (p := ⟨w.heap.size, 0, none⟩) (Nat.le_refl _) _).setCell (p := ⟨w.heap.size, 1, none⟩) (Nat.le_refl _) _⟩

end Go.Proofs.YthobibjbpbnhnaaDoor
