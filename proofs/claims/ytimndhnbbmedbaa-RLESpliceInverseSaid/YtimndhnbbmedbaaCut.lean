/-
  The walk of rle.cut.
-/
import Derived.Test.YtimndhnbbmedbaaConc
import Derived.IntWalk
namespace Go.Proofs.Ytimndhnbbmedbaa
open Go.RowKit

/-- What cut leaves. -/
def CutPost (w : World) (rs : List Run) (i : Nat) (e : Ending) (w' : World) : Prop := ∃ vh vt hs ts, e = .returned (.tuple #[vh, vt]) ∧ Runs w.heap.size w' vh hs ∧ Runs w.heap.size w' vt ts ∧ CutAt rs i hs ts ∧ Below w.heap.size w w'

theorem concat2 (W : World) {g : Nat} (hg : W.heap.size = g) {S : Nat → Prop} (A' : Option Addr) (l c' : Nat) (ts : List Run) (hx : Elems 4 Run.cs W S A' ts) (hS : ∀ k, S k → k < W.heap.size) (hl : l = ts.length) (x : Val) (m : Nat) (mi : Int) (hm : mi = m) (ht : ts.length ≤ 1000) :
    Calls Try.prog 24 #[.slice (some ⟨g + 1, 0, none⟩) 2 2] (((W.alloc (.cells #[.int .i64 x.kind, .int .i64 x.int, .string x.text, .int .i64 mi] 45)).alloc (.cells #[.slice (some ⟨g, 0, none⟩) 1 1, .slice A' l c'] 27)).drew)
      fun e w' => ∃ v, e = .returned v ∧ Runs W.heap.size w' v ([⟨x, m⟩] ++ ts) ∧ Below W.heap.size W w' := by
  subst hg hl hm
  have hS1 : (W.alloc (.cells #[.int .i64 x.kind, .int .i64 x.int, .string x.text, .int .i64 (m : Int)] 45)).heap.size = W.heap.size + 1 := size1 _ _
  have hB : Below W.heap.size W (((W.alloc (.cells #[.int .i64 x.kind, .int .i64 x.int, .string x.text, .int .i64 (m : Int)] 45)).alloc (.cells #[.slice (some ⟨W.heap.size, 0, none⟩) 1 1, .slice A' ts.length c'] 27)).drew) :=
    (((Below.refl _ _).alloc (Nat.le_refl _) _).alloc (by omega) _).drew
  have hH : (((W.alloc (.cells #[.int .i64 x.kind, .int .i64 x.int, .string x.text, .int .i64 (m : Int)] 45)).alloc (.cells #[.slice (some ⟨W.heap.size, 0, none⟩) 1 1, .slice A' ts.length c'] 27)).drew).heap[W.heap.size + 1]? = _ := alloc2_at W _ _
  have hR : (((W.alloc (.cells #[.int .i64 x.kind, .int .i64 x.int, .string x.text, .int .i64 (m : Int)] 45)).alloc (.cells #[.slice (some ⟨W.heap.size, 0, none⟩) 1 1, .slice A' ts.length c'] 27)).drew).heap[W.heap.size]? = some (.cells #[.int .i64 x.kind, .int .i64 x.int, .string x.text, .int .i64 (m : Int)] 45 (0, 0)) := (Below.heap_alloc _ _ _ (by omega)).trans (heap_alloc_new W _)
  have hz : (((W.alloc (.cells #[.int .i64 x.kind, .int .i64 x.int, .string x.text, .int .i64 (m : Int)] 45)).alloc (.cells #[.slice (some ⟨W.heap.size, 0, none⟩) 1 1, .slice A' ts.length c'] 27)).drew).heap.size = W.heap.size + 2 := by
    show ((W.alloc _).alloc _).heap.size = _
    rw [size1, hS1]
  generalize (((W.alloc (.cells #[.int .i64 x.kind, .int .i64 x.int, .string x.text, .int .i64 (m : Int)] 45)).alloc (.cells #[.slice (some ⟨W.heap.size, 0, none⟩) 1 1, .slice A' ts.length c'] 27)).drew) = w at *
  refine (concat (some ⟨W.heap.size + 1, 0, none⟩) 2 [⟨some ⟨W.heap.size, 0, none⟩, 1, [⟨x, m⟩]⟩, ⟨A', c', ts⟩] w ?_ ?_ (by simp) ?_).mono ?_
  · intro _
    refine ⟨_, _, rfl, by omega, fun i h hi j u hu => ?_⟩
    have hj : j < 1 := (List.getElem?_eq_some_iff.1 hu).1
    have hj0 : j = 0 := by omega
    subst hj0
    rw [cell_of_row _ (W.heap.size + 1) _ _ _ (0, 0) hH]
    match i, hi with
    | 0, hi => simp at hi; subst hi; simpa [Hdr.cs] using hu
    | 1, hi => simp at hi; subst hi; simpa [Hdr.cs] using hu
    | i + 2, hi => simp at hi
  · intro h hh
    simp at hh
    rcases hh with rfl | rfl
    · intro _
      refine ⟨_, _, rfl, by omega, fun i r hi j u hu => ?_⟩
      match i, hi with
      | 0, hi =>
        simp at hi
        subst hi
        rw [cell_of_row _ W.heap.size _ _ _ (0, 0) hR]
        simpa [Run.cs] using hu
      | i + 1, hi => simp at hi
    · exact (hx.keep (Keeps.of_below hB hS)).more fun k hk => by have := hS k hk; omega
  · simp [Hdr.all]; omega
  · rintro e w' ⟨v, rfl, ho, hb⟩
    refine ⟨v, rfl, ?_, hB.trans (hb.mono hB.size)⟩
    have := ho.mono (base' := W.heap.size) (by omega)
    simpa [Hdr.all] using this

set_option maxRecDepth 100000 in
set_option maxHeartbeats 1000000 in
theorem cut (A : Option Addr) (c : Nat) (rs : List Run) (i : Nat) (w : World) (hx : Elems 4 Run.cs w (· < w.heap.size) A rs) (hlc : rs.length ≤ c) (hcm : c ≤ maxLen) (hl : rs.length ≤ 400) (hp : ∀ r ∈ rs, 1 ≤ r.n) (hi : i ≤ 100000) (hn : ∀ r ∈ rs, r.n ≤ 100000) :
    Calls Try.prog 23 #[.slice A rs.length c, .int .i64 i] w (CutPost w rs i) := by
  unfold maxLen at hcm
  have HP := Lib.hid hp
  have HN := Lib.hid hn
  clear hp hn
  go_enter Try.func23, Try.ntmps23
  go_wp2_with fail
  go_loopw [1, 6, 11] (fun n h i' wr => ∃ k j : Nat, k ≤ rs.length ∧ i' = .int .i64 k ∧ n = .int .i64 j ∧ tot rs k + j = i ∧ Runs w.heap.size wr h (rs.take k) ∧ Below w.heap.size w wr) (fun _ _ i' _ => rs.length - (intOf i').toNat)
  case atStart => exact ⟨0, i, by omega, rfl, rfl, by rw [tot_zero]; omega, Own.nil _, Below.refl _ _⟩
  case round =>
    obtain ⟨k, j, hk, rfl, rfl, htj, ho, hb⟩ := hrel
    by_cases hlt : k < rs.length
    · have hx' := hx.keep (Keeps.of_below hb fun _ h => h)
      obtain ⟨b, off, rfl, hbs, c0, c1, c2, c3⟩ := hx'.run hlt
      have hts := tot_succ hlt
      have hr1 := HP.out _ (List.getElem_mem hlt)
      have hr2 := HN.out _ (List.getElem_mem hlt)
      have hj2 : j ≤ 100000 := by omega
      by_cases hj : j < rs[k].n
      · have HC := Lib.hid (cutAt_mid HP.out hlt htj hj)
        have H1 : Hid (((rs.take k).length + 1) * 40 ≤ 140737488355328) := Lib.hid (by rw [List.length_take]; omega)
        have H2 : Hid ((rs.take k).length + 1 ≤ maxLen) := Lib.hid (by rw [List.length_take]; unfold maxLen; omega)
        have HO := Lib.hid (ho.alloc (.cells #[.int .i64 rs[k].v.kind, .int .i64 rs[k].v.int, .string rs[k].v.text, .int .i64 (rs[k].n : Int)] 45))
        have HO0 := Lib.hid ho
        have hne : u6.ownBlock ≠ some wr.heap.size := fun e => by have := (ho.lt _ e).2; omega
        have hs1 : IntKind.i64.wrap ((k : Int) + 1) = (k : Int) + 1 := IntWalk.i64_in _ (by omega)
        have hs2 : (0 : Int) ≤ (k : Int) + 1 := by omega
        have hs3 : ((k : Int) + 1).toNat = k + 1 := by omega
        have hs4 : k + 1 ≤ rs.length := hlt
        have hs5 : IntKind.i64.wrap ((rs[k].n : Int) - (j : Int)) = (rs[k].n : Int) - (j : Int) := IntWalk.i64_in _ (by omega)
        have HX := Lib.hid hx'
        clear ho hts hx'
        generalize rs[k] = x at *
        generalize rs.take k = d at *
        have HJ := Lib.hid htj
        clear htj
        have hs6 : (k : Int) + 1 ≤ (rs.length : Int) := by omega
        have hs7 : (rs.length : Int) ≤ (c : Int) := by omega
        have hs8 : (k : Int) + 1 ≤ (c : Int) := by omega
        have hs9 : IntKind.i64.wrap (x.n : Int) = (x.n : Int) := IntWalk.i64_in _ (by omega)
        by_cases hck : c = k + 1
        · have hdn : rs.drop (k + 1) = [] := List.drop_of_length_le (by omega)
          rw [hdn] at HC
          have HU : Hid (Elems 4 Run.cs wr (· < w.heap.size) (some ⟨b, off, none⟩) ([] : List Run)) := Lib.hid (Elems.nil _ _ _)
          have HD : Hid (0 = ([] : List Run).length) := Lib.hid rfl
          have hd4 : ([] : List Run).length ≤ 1000 := by simp
          subst hck
          clear hdn
          by_cases hj0 : 0 < j
          · have hB1 := le_size1 hb.size (.cells #[.int .i64 x.v.kind, .int .i64 x.v.int, .string x.v.text, .int .i64 (x.n : Int)] 45)
            have HJ0 := Lib.hid hj0
            have hji : (0 : Int) < (j : Int) := by omega
            clear hj0
            go_wp2_with (at_builtin; refine wpList_app rfl (.tmp 22) (.tmp 27) _ _ rfl rfl rfl (run_push elem_run runLay _ _ u6 d ⟨x.v, j⟩ _ HO.out rfl H1.out H2.out hB1 (size1 _ _)) ?_; rintro v1 w1 ⟨ho1, hx1⟩; have f0 := hx1.old_cell (g := wr.heap.size) (i := 0) (World.cell?_alloc_new _ _ _ _) hne; have f1 := hx1.old_cell (g := wr.heap.size) (i := 1) (World.cell?_alloc_new _ _ _ _) hne; have f2 := hx1.old_cell (g := wr.heap.size) (i := 2) (World.cell?_alloc_new _ _ _ _) hne; have f3 := hx1.old_cell (g := wr.heap.size) (i := 3) (World.cell?_alloc_new _ _ _ _) hne)
            have hbx : Below w.heap.size wr w1 := ((Below.refl _ _).alloc hb.size _).trans (hx1.below hB1 (fun g hg => (HO0.out.lt g hg).1))
            have HU1 := Lib.hid (HU.out.keep fun q hq => hbx.block q hq)
            have hsw : w.heap.size ≤ w1.heap.size := Nat.le_trans hb.size hbx.size
            have hlt1 : wr.heap.size < w1.heap.size := Nat.lt_of_lt_of_le (by rw [size1]; omega) hx1.size
            have hm1 : ((x.n : Int) - (j : Int)) = ((x.n - j : Nat) : Int) := by omega
            have HM1 := Lib.hid hm1
            clear hm1
            go_region_held3 (fun w' => w'.cell? ⟨wr.heap.size, 0, none⟩ = some (.int .i64 x.v.kind) ∧ w'.cell? ⟨wr.heap.size, 1, none⟩ = some (.int .i64 x.v.int) ∧ w'.cell? ⟨wr.heap.size, 2, none⟩ = some (.string x.v.text) ∧ w'.cell? ⟨wr.heap.size, 3, none⟩ = some (.int .i64 (x.n : Int))) (go_keep)
              (first
                | (go_at_call 24; (refine (concat2 w1 rfl (some ⟨b, off, none⟩) _ _ ([] : List Run) HU1.out (fun q hq => Nat.lt_of_lt_of_le hq hsw) HD.out x.v (x.n - j) _ HM1.out hd4).mono ?_; rintro e w2 ⟨v2, rfl, ho2, hb2⟩; have g0 := (hb2.cell (p := ⟨wr.heap.size, 0, none⟩) hlt1).trans f0; have g1 := (hb2.cell (p := ⟨wr.heap.size, 1, none⟩) hlt1).trans f1; have g2 := (hb2.cell (p := ⟨wr.heap.size, 2, none⟩) hlt1).trans f2; have g3 := (hb2.cell (p := ⟨wr.heap.size, 3, none⟩) hlt1).trans f3)))
            go_wp2_with fail
            go_ret2
            exact ⟨_, _, _, _, rfl, (ho1.below hb2), ho2.mono hsw, by have h := HC.out; rw [if_pos HJ0.out] at h; exact h, (hb.trans hbx).trans (hb2.mono hsw)⟩
          · have hj1 : j = 0 := by omega
            subst hj1
            have hlt1 : wr.heap.size < (wr.alloc (.cells #[.int .i64 x.v.kind, .int .i64 x.v.int, .string x.v.text, .int .i64 (x.n : Int)] 45)).heap.size := by rw [size1]; omega
            go_wp2_with fail
            go_region_held3 (fun w' => w'.cell? ⟨wr.heap.size, 0, none⟩ = some (.int .i64 x.v.kind) ∧ w'.cell? ⟨wr.heap.size, 1, none⟩ = some (.int .i64 x.v.int) ∧ w'.cell? ⟨wr.heap.size, 2, none⟩ = some (.string x.v.text) ∧ w'.cell? ⟨wr.heap.size, 3, none⟩ = some (.int .i64 (x.n : Int))) (go_keep)
              (first
                | (go_at_call 24; (refine (concat2 _ (size1 wr _) (some ⟨b, off, none⟩) _ _ ([] : List Run) (HU.out.keep fun q hq => Below.heap_alloc wr _ q (Nat.lt_of_lt_of_le hq hb.size)) (fun q hq => Nat.lt_of_lt_of_le hq (le_size1 hb.size _)) HD.out x.v x.n _ rfl hd4).mono ?_; rintro e w1 ⟨v1, rfl, ho1, hb1⟩; have f0 := (hb1.cell (p := ⟨wr.heap.size, 0, none⟩) hlt1).trans (World.cell?_alloc_new wr _ _ 0); have f1 := (hb1.cell (p := ⟨wr.heap.size, 1, none⟩) hlt1).trans (World.cell?_alloc_new wr _ _ 1); have f2 := (hb1.cell (p := ⟨wr.heap.size, 2, none⟩) hlt1).trans (World.cell?_alloc_new wr _ _ 2); have f3 := (hb1.cell (p := ⟨wr.heap.size, 3, none⟩) hlt1).trans (World.cell?_alloc_new wr _ _ 3))))
            go_wp2_with fail
            go_ret2
            exact ⟨_, _, _, _, rfl, (HO.out.below hb1), ho1.mono (le_size1 hb.size _), by simpa using HC.out, hb.trans (((Below.refl _ _).alloc hb.size _).trans (hb1.mono (le_size1 hb.size _)))⟩
        · have hcut := HX.out.cut (k := k + 1) hs4 hlc
          rw [if_neg hck] at hcut
          have hA : Option.map (fun a : Addr => a.add ((k + 1) * 4)) (some ⟨b, off, none⟩) = some ⟨b, off + (k + 1) * 4, none⟩ := by show some (Addr.add ⟨b, off, none⟩ _) = _; rw [Addr.add_lit]
          rw [hA] at hcut
          have hdl : rs.length - (k + 1) = (rs.drop (k + 1)).length := by simp
          have HD := Lib.hid hdl
          have HU := Lib.hid hcut
          have hd4 : (rs.drop (k + 1)).length ≤ 1000 := by simp; omega
          clear hA hdl hcut
          by_cases hj0 : 0 < j
          · have hB1 := le_size1 hb.size (.cells #[.int .i64 x.v.kind, .int .i64 x.v.int, .string x.v.text, .int .i64 (x.n : Int)] 45)
            have HJ0 := Lib.hid hj0
            have hji : (0 : Int) < (j : Int) := by omega
            clear hj0
            go_wp2_with (at_builtin; refine wpList_app rfl (.tmp 22) (.tmp 27) _ _ rfl rfl rfl (run_push elem_run runLay _ _ u6 d ⟨x.v, j⟩ _ HO.out rfl H1.out H2.out hB1 (size1 _ _)) ?_; rintro v1 w1 ⟨ho1, hx1⟩; have f0 := hx1.old_cell (g := wr.heap.size) (i := 0) (World.cell?_alloc_new _ _ _ _) hne; have f1 := hx1.old_cell (g := wr.heap.size) (i := 1) (World.cell?_alloc_new _ _ _ _) hne; have f2 := hx1.old_cell (g := wr.heap.size) (i := 2) (World.cell?_alloc_new _ _ _ _) hne; have f3 := hx1.old_cell (g := wr.heap.size) (i := 3) (World.cell?_alloc_new _ _ _ _) hne)
            have hbx : Below w.heap.size wr w1 := ((Below.refl _ _).alloc hb.size _).trans (hx1.below hB1 (fun g hg => (HO0.out.lt g hg).1))
            have HU1 := Lib.hid (HU.out.keep fun q hq => hbx.block q hq)
            have hsw : w.heap.size ≤ w1.heap.size := Nat.le_trans hb.size hbx.size
            have hlt1 : wr.heap.size < w1.heap.size := Nat.lt_of_lt_of_le (by rw [size1]; omega) hx1.size
            have hm1 : ((x.n : Int) - (j : Int)) = ((x.n - j : Nat) : Int) := by omega
            have HM1 := Lib.hid hm1
            clear hm1
            go_region_held3 (fun w' => w'.cell? ⟨wr.heap.size, 0, none⟩ = some (.int .i64 x.v.kind) ∧ w'.cell? ⟨wr.heap.size, 1, none⟩ = some (.int .i64 x.v.int) ∧ w'.cell? ⟨wr.heap.size, 2, none⟩ = some (.string x.v.text) ∧ w'.cell? ⟨wr.heap.size, 3, none⟩ = some (.int .i64 (x.n : Int))) (go_keep)
              (first
                | (go_at_call 24; (refine (concat2 w1 rfl (some ⟨b, off + (k + 1) * 4, none⟩) _ _ (rs.drop (k + 1)) HU1.out (fun q hq => Nat.lt_of_lt_of_le hq hsw) HD.out x.v (x.n - j) _ HM1.out hd4).mono ?_; rintro e w2 ⟨v2, rfl, ho2, hb2⟩; have g0 := (hb2.cell (p := ⟨wr.heap.size, 0, none⟩) hlt1).trans f0; have g1 := (hb2.cell (p := ⟨wr.heap.size, 1, none⟩) hlt1).trans f1; have g2 := (hb2.cell (p := ⟨wr.heap.size, 2, none⟩) hlt1).trans f2; have g3 := (hb2.cell (p := ⟨wr.heap.size, 3, none⟩) hlt1).trans f3)))
            go_wp2_with fail
            go_ret2
            exact ⟨_, _, _, _, rfl, (ho1.below hb2), ho2.mono hsw, by have h := HC.out; rw [if_pos HJ0.out] at h; exact h, (hb.trans hbx).trans (hb2.mono hsw)⟩
          · have hj1 : j = 0 := by omega
            subst hj1
            have hlt1 : wr.heap.size < (wr.alloc (.cells #[.int .i64 x.v.kind, .int .i64 x.v.int, .string x.v.text, .int .i64 (x.n : Int)] 45)).heap.size := by rw [size1]; omega
            go_wp2_with fail
            go_region_held3 (fun w' => w'.cell? ⟨wr.heap.size, 0, none⟩ = some (.int .i64 x.v.kind) ∧ w'.cell? ⟨wr.heap.size, 1, none⟩ = some (.int .i64 x.v.int) ∧ w'.cell? ⟨wr.heap.size, 2, none⟩ = some (.string x.v.text) ∧ w'.cell? ⟨wr.heap.size, 3, none⟩ = some (.int .i64 (x.n : Int))) (go_keep)
              (first
                | (go_at_call 24; (refine (concat2 _ (size1 wr _) (some ⟨b, off + (k + 1) * 4, none⟩) _ _ (rs.drop (k + 1)) (HU.out.keep fun q hq => Below.heap_alloc wr _ q (Nat.lt_of_lt_of_le hq hb.size)) (fun q hq => Nat.lt_of_lt_of_le hq (le_size1 hb.size _)) HD.out x.v x.n _ rfl hd4).mono ?_; rintro e w1 ⟨v1, rfl, ho1, hb1⟩; have f0 := (hb1.cell (p := ⟨wr.heap.size, 0, none⟩) hlt1).trans (World.cell?_alloc_new wr _ _ 0); have f1 := (hb1.cell (p := ⟨wr.heap.size, 1, none⟩) hlt1).trans (World.cell?_alloc_new wr _ _ 1); have f2 := (hb1.cell (p := ⟨wr.heap.size, 2, none⟩) hlt1).trans (World.cell?_alloc_new wr _ _ 2); have f3 := (hb1.cell (p := ⟨wr.heap.size, 3, none⟩) hlt1).trans (World.cell?_alloc_new wr _ _ 3))))
            go_wp2_with fail
            go_ret2
            exact ⟨_, _, _, _, rfl, (HO.out.below hb1), ho1.mono (le_size1 hb.size _), by simpa using HC.out, hb.trans (((Below.refl _ _).alloc hb.size _).trans (hb1.mono (le_size1 hb.size _)))⟩
      · have hjn : rs[k].n ≤ j := by omega
        have hT : rs.take (k + 1) = rs.take k ++ [rs[k]] := List.take_succ_eq_append_getElem hlt
        have H1 : Hid (((rs.take k).length + 1) * 40 ≤ 140737488355328) := Lib.hid (by rw [List.length_take]; omega)
        have H2 : Hid ((rs.take k).length + 1 ≤ maxLen) := Lib.hid (by rw [List.length_take]; unfold maxLen; omega)
        have HT := Lib.hid hT
        have HO := Lib.hid (ho.alloc (.cells #[.int .i64 rs[k].v.kind, .int .i64 rs[k].v.int, .string rs[k].v.text, .int .i64 (rs[k].n : Int)] 45))
        have HO0 := Lib.hid ho
        have hne : u6.ownBlock ≠ some wr.heap.size := fun e => by have := (ho.lt _ e).2; omega
        have HTS : Hid (tot rs (k + 1) + (j - rs[k].n) = i) := Lib.hid (by omega)
        generalize rs[k] = x at *
        generalize rs.take k = d at *
        have HJ := Lib.hid htj
        clear hT ho hts htj
        go_wp2_with (at_builtin; refine wpList_app rfl (.tmp 44) (.tmp 46) _ _ rfl rfl rfl (run_push elem_run runLay _ _ u6 d x _ HO.out rfl H1.out H2.out (le_size1 hb.size _) (size1 _ _)) ?_; rintro v1 w1 ⟨ho1, hx1⟩; have f3 := hx1.old_cell (g := wr.heap.size) (i := 3) (World.cell?_alloc_new _ _ _ _) hne)
        go_roundw
        case rel => exact ⟨k + 1, j - x.n, by omega, by go_num, val_int (by omega), HTS.out, by rw [HT.out]; exact ho1, hb.trans (((Below.refl _ _).alloc hb.size _).trans (hx1.below (le_size1 hb.size _) (fun g hg => (HO0.out.lt g hg).1)))⟩
        case measure => simp [intOf]; omega
    · have hkl : k = rs.length := by omega
      subst hkl
      rw [List.take_of_length_le (Nat.le_refl _)] at ho
      have HC := Lib.hid (cutAt_end HP.out (i := i) (by omega))
      go_wp2_with fail
      go_ret2
      exact ⟨_, _, _, _, rfl, ho, Own.nil _, HC.out, hb⟩

end Go.Proofs.Ytimndhnbbmedbaa
