/-
  The walk of relation.Upsert.
-/
import Derived.Test.YtefifkleamiabaaG9
namespace Go.Proofs.Ytefifkleamiabaa
open Go.RowKit Go.Sort

/-- What Upsert leaves of the rows. -/
def upsX (pk : List Int) (row : Row) (rs : List Row) : List Row := if rff pk (keyOf pk row) rs = true then rs.set (rfi pk (keyOf pk row) rs) row else rs.take (rfi pk (keyOf pk row) rs) ++ row :: rs.drop (rfi pk (keyOf pk row) rs)

/-- Behind Key: Find, and the box's cells. -/
def UpK (w3 : World) (fargs : Array Value) (bx : Nat) (x0 x1 x2 : Value) (kl : Nat) (i : Nat) (b : Bool) (e : Ending) (w4 : World) : Prop :=
  ∃ A c, e = .returned (.slice A kl c) ∧ w4.cell? ⟨bx, 0, none⟩ = some x0 ∧ w4.cell? ⟨bx, 1, none⟩ = some x1 ∧ w4.cell? ⟨bx, 2, none⟩ = some x2
    ∧ Hid (Calls Try.prog 39 (fargs ++ #[.slice A kl c]) w4 fun e w5 => e = .returned (.tuple #[.int .i64 (i : Nat), .bool b]) ∧ Below w3.heap.size w3 w5)

set_option maxRecDepth 100000 in
set_option maxHeartbeats 4000000 in
theorem relUpsert (t : Tbl) (A : Option Addr) (c : Nat) (ks : List Key) (key : Key) (w : World) (ht : TOk (· < w.heap.size) w t) (h : RsOk (· < w.heap.size) w A ks) (hk : KOk (· < w.heap.size) w key) (hl : ks.length ≤ 999) (hp : t.pk.length ≤ 12) :
    Calls Try.prog 41 #[t.val, .slice A ks.length c, .slice key.A key.row.length key.c] w fun e w' => ∃ v ks', e = .returned v ∧ RO w.heap.size w w' v ks' (upsX t.pk key.row (ks.map Key.row)) := by
  obtain ⟨w1, hw1⟩ : ∃ w1, w1 = w.alloc (.cells #[.string t.name, .slice t.CA t.cols.length t.cc, .slice t.PA t.pk.length t.pc] 58) := ⟨_, rfl⟩
  have hbx := heap_alloc_new w (.cells #[.string t.name, .slice t.CA t.cols.length t.cc, .slice t.PA t.pk.length t.pc] 58)
  rw [← hw1] at hbx
  have hb1 : Below w.heap.size w w1 := by rw [hw1]; exact (Below.refl _ _).alloc (Nat.le_refl _) _
  have hs1 : w.heap.size < w1.heap.size := by rw [hw1]; simp
  have HBK : Hid (∀ W, Below w1.heap.size w1 W → W.cell? ⟨w.heap.size, 0, none⟩ = some (.string t.name) ∧ W.cell? ⟨w.heap.size, 1, none⟩ = some (.slice t.CA t.cols.length t.cc) ∧ W.cell? ⟨w.heap.size, 2, none⟩ = some (.slice t.PA t.pk.length t.pc)) := Lib.hid fun W hW => by
    have h := (hW.block w.heap.size hs1).trans hbx
    exact ⟨by rw [cell_of_row _ _ _ _ _ _ h]; rfl, by rw [cell_of_row _ _ _ _ _ _ h]; rfl, by rw [cell_of_row _ _ _ _ _ _ h]; rfl⟩
  have HCL := Lib.hid (relClone A c ks w1 (h.on hb1) (by omega))
  have HCR := Lib.hid fun W (hW : Below w.heap.size w W) => cloneRow key.A key.row.length key.c key.row W _ (hk.on hW).el (fun _ h => h) rfl (by have := hk.len; omega)
  have HKF : Hid (∀ W, Below w1.heap.size w1 W → ∀ A' c' ks' B d n', RsOk (· < W.heap.size) W A' ks' → KOk (· < W.heap.size) W ⟨B, d, key.row⟩ → ks'.length = n' → n' ≤ 1000 → ∀ m, Calls Try.prog 19 #[t.val, .slice B key.row.length d] (W.drewN m)
      (UpK W #[t.val, .slice A' n' c'] w.heap.size (.string t.name) (.slice t.CA t.cols.length t.cc) (.slice t.PA t.pk.length t.pc) t.pk.length (rfi t.pk (keyOf t.pk key.row) (ks'.map Key.row)) (rff t.pk (keyOf t.pk key.row) (ks'.map Key.row)))) := Lib.hid fun W hW A' c' ks' B d n' h1 h2 h3 h4 m => by
    have hd : Below W.heap.size W (W.drewN m) := below_drewN (Below.refl _ _) m
    have h0 : Below w.heap.size w (W.drewN m) := (hb1.trans (hW.mono hb1.size)).trans (hd.mono (Nat.le_trans hb1.size hW.size))
    refine (relKey t B d key.row (W.drewN m) (ht.on h0) ((h2.on hd).el) (by omega)).mono ?_
    rintro e w4 ⟨v4, rfl, ho4, hb4⟩
    obtain ⟨A4, c4, rfl, -, -⟩ := ho4.form
    have hb14 : Below W.heap.size W w4 := hd.trans hb4
    have hkl : (keyOf t.pk key.row).length = t.pk.length := by unfold keyOf; rw [List.length_map]
    obtain ⟨y0, y1, y2⟩ := HBK.out w4 (hW.trans (hb14.mono hW.size))
    rw [hkl]
    refine ⟨A4, c4, rfl, y0, y1, y2, Lib.hid ?_⟩
    have hf := relFind t A' c' ks' ⟨A4, c4, keyOf t.pk key.row⟩ w4 (ht.on ((hb1.trans (hW.mono hb1.size)).trans (hb14.mono (Nat.le_trans hb1.size hW.size)))) (h1.on hb14) ⟨(ho4.elems valLay.len rfl).more fun g hg => (Own.lt ho4 g hg).2, by show (keyOf t.pk key.row).length ≤ 12; omega⟩ (by omega) hp
    simp only [hkl, h3] at hf
    exact hf.mono fun e w' h => ⟨h.1, hb14.trans (h.2.mono hb14.size)⟩
  have HB1 := Lib.hid hb1
  have HW1 := Lib.hid hw1
  have HKL := Lib.hid hk.len
  obtain ⟨n, hn⟩ : ∃ n, ks.length = n := ⟨_, rfl⟩
  rw [hn] at HCL hl ⊢
  have HN := Lib.hid hn
  obtain ⟨name, CA, cc, tc, PA, pc, pk⟩ := t
  unfold Tbl.val at HKF ⊢
  obtain ⟨kA, kc, kr⟩ := key
  simp only at *
  generalize hR : ks.map Key.row = R at *
  have HRL : Hid (R.length = n) := Lib.hid (by rw [← hR, List.length_map]; exact HN.out)
  clear ht h hk hn hw1 hbx hb1 hs1 hp hR
  go_enter Try.func41, Try.ntmps41
  go_upto_region 1 with fail
  rw [← HW1.out]
  go_wp2_with fail
  refine HCL.out.mono ?_
  rintro e w2 ⟨v2, ks2, rfl, hro⟩
  have hkl2 : ks2.length = n := by
    have h := congrArg List.length hro.rows
    rw [List.length_map, HRL.out] at h
    exact h
  obtain ⟨A2, c2, hv2, -, -⟩ := hro.own.form
  rw [hkl2] at hv2
  subst hv2
  have HCR2 := Lib.hid (HCR.out w2 (HB1.out.trans (hro.bel.mono HB1.out.size)))
  have HRO := Lib.hid hro
  have HL2 := Lib.hid hkl2
  clear hro hkl2
  go_wp2_with fail
  refine HCR2.out.mono ?_
  rintro e w3 ⟨v3, rfl, ho3, hb3⟩
  obtain ⟨A3, c3, rfl, -, -⟩ := ho3.form
  have hro3 := HRO.out.below hb3 HRO.out.bel.size
  have hky3 : KOk (fun g => w2.heap.size ≤ g ∧ g < w3.heap.size) w3 ⟨A3, c3, kr⟩ := ⟨(ho3.elems valLay.len rfl).more fun g hg => Own.lt ho3 g hg, HKL.out⟩
  have hkf := HKF.out w3 hro3.bel A2 c2 ks2 A3 c3 n hro3.rs (hky3.more fun g hg => hg.2) HL2.out (by omega)
  rw [hro3.rows] at hkf
  obtain ⟨y0, y1, y2⟩ := HBK.out w3 hro3.bel
  have HKF3 := Lib.hid hkf
  have H3 := Lib.hid (And.intro hro3 (And.intro hky3 hb3))
  clear hkf hro3 hky3 hb3 ho3
  go_upto_region 3 with fail
  go_cut [8, 9] from 15 to 22 (fun v8 v9 wx => v8 = .int .i64 (rfi pk (keyOf pk kr) R : Nat) ∧ v9 = .bool (rff pk (keyOf pk kr) R) ∧ Below w3.heap.size w3 wx)
  case first =>
    go_region_law (first
      | (go_simp; go_at_call 19; refine (HKF3.out 1).mono ?_; rintro e w4 ⟨A4, c4, rfl, z0, z1, z2, HFD⟩)
      | (go_simp; go_at_call 39; refine HFD.out.mono ?_; rintro e w5 ⟨rfl, hb5⟩))
    all_goals
      have HB5 := Lib.hid hb5
      clear hb5
      go_wp2_with fail
      go_meet
      exact ⟨rfl, rfl, HB5.out⟩
  case rest =>
    obtain ⟨rfl, rfl, hb5⟩ := hcut
    obtain ⟨w5, rfl⟩ : ∃ w5, w5 = wc := ⟨_, rfl⟩
    obtain ⟨hro3, hky3, hb3⟩ := H3.out
    have hro5 := hro3.below hb5 hro3.bel.size
    have hky5 : KOk (fun g => w2.heap.size ≤ g ∧ g < w3.heap.size) w5 ⟨A3, c3, kr⟩ := hky3.keep (Keeps.of_below hb5 fun _ h => h.2)
    have hro5' : RO w.heap.size w w5 (.slice A2 n c2) ks2 R := ⟨hro5.own.mono HB1.out.size, hro5.rows, fun k hk => (hro5.el k hk).more fun g hg => ⟨Nat.le_trans HB1.out.size hg.1, hg.2⟩, HB1.out.trans (hro5.bel.mono HB1.out.size)⟩
    have hA2 : ∀ g, (Value.slice A2 n c2).ownBlock = some g → w1.heap.size ≤ g ∧ g < w2.heap.size := fun g hg => Own.lt HRO.out.own g hg
    have H5 := Lib.hid (And.intro hro5' (And.intro hky5 (And.intro hA2 hb5)))
    have H23 : Hid (w2.heap.size ≤ w3.heap.size ∧ w.heap.size ≤ w1.heap.size ∧ w1.heap.size ≤ w2.heap.size) := Lib.hid ⟨hb3.size, HB1.out.size, HRO.out.bel.size⟩
    clear hro3 hky3 hb3 hro5 hky5 hro5' hb5 hA2
    cases hff : rff pk (keyOf pk kr) R with
    | true =>
      have hlt := rff_lt hff
      rw [HRL.out] at hlt
      have HD : Hid (upsX pk kr R = R.set (rfi pk (keyOf pk kr) R) kr) := Lib.hid (by unfold upsX; rw [if_pos hff])
      clear hff
      generalize rfi pk (keyOf pk kr) R = i at *
      obtain ⟨g2, c2', cur2, hv, -⟩ := H5.out.1.own.open_ (by rw [HL2.out]; omega)
      injection hv with hv1 hv2 hv3
      subst hv1
      obtain ⟨hset, ⟨q, z0⟩, z1⟩ := Own.set1 keyLay H5.out.1.own (i := i) (y := ⟨A3, c3, kr⟩) (v := .slice A3 kr.length c3) (by rw [HL2.out]; exact hlt) rfl
      have HSET := Lib.hid hset
      have hlt' : (i : Int) < (n : Int) := by omega
      clear hset hlt hv2 hv3
      go_wp2_with fail
      go_ret
      rw [HD.out]
      obtain ⟨hro, hky, hA2, hb5⟩ := H5.out
      obtain ⟨h23, h01, h12⟩ := H23.out
      obtain ⟨hg1, hg2⟩ := hA2 g2 rfl
      have hsz : (w5.setCell ⟨g2, i, none⟩ (.slice A3 kr.length c3)).heap.size = w5.heap.size := by simp [World.setCell]
      refine ⟨_, ks2.set i ⟨A3, c3, kr⟩, rfl, HSET.out, by rw [List.map_set, hro.rows], fun k hk => ?_, hro.bel.setCell (p := ⟨g2, i, none⟩) (by show w.heap.size ≤ g2; omega) _⟩
      have hoff : ∀ g, g ≠ g2 → (w5.setCell ⟨g2, i, none⟩ (.slice A3 kr.length c3)).heap[g]? = w5.heap[g]? := fun g hg => Below.heap_setCell w5 ⟨g2, i, none⟩ _ g hg
      rcases List.mem_or_eq_of_mem_set hk with hm | rfl
      · refine ((hro.el k hm).keep fun g hg => hoff g fun e => hg.2.2 (by rw [e]; rfl)).more fun g hg => ⟨hg.1, by rw [hsz]; exact hg.2.1, hg.2.2⟩
      · refine (hky.keep fun g hg => hoff g (by omega)).more fun g hg => ⟨by omega, by rw [hsz]; have := hb5.size; omega, fun e => by have e := Option.some.inj (show some g2 = some g from e); omega⟩
    | false =>
      have hle := rfi_le pk (keyOf pk kr) R
      rw [HRL.out] at hle
      have HD : Hid (upsX pk kr R = R.take (rfi pk (keyOf pk kr) R) ++ kr :: R.drop (rfi pk (keyOf pk kr) R)) := Lib.hid (by unfold upsX; rw [if_neg (by rw [hff]; simp)])
      clear hff
      generalize rfi pk (keyOf pk kr) R = i at *
      obtain ⟨w6, hw6⟩ : ∃ w6, w6 = w5.alloc (.cells #[.slice A3 kr.length c3] 23) := ⟨_, rfl⟩
      have hb6 : Below w5.heap.size w5 w6 := by rw [hw6]; exact (Below.refl _ _).alloc (Nat.le_refl _) _
      have hg6 : w6.heap[w5.heap.size]? = some (.cells #[.slice A3 kr.length c3] 23 (0, 0)) := by rw [hw6]; exact heap_alloc_new w5 _
      have hro6 := H5.out.1.below hb6 H5.out.1.bel.size
      have hin := insKey A2 c2 ks2 i ⟨A3, c3, kr⟩ w6 (by have h := hro6.own.mono (Nat.zero_le _); rw [HL2.out]; exact h) (by rw [HL2.out]; exact hle) hg6 rfl (fun e => by have h := (Own.lt H5.out.1.own w5.heap.size (by rw [← e, HL2.out])).2; omega) (by rw [HL2.out]; omega)
      rw [HL2.out] at hin
      have HIN := Lib.hid hin
      have H6 := Lib.hid (And.intro hro6 hb6)
      have HW6 := Lib.hid hw6
      clear hin hro6 hb6 hg6 hw6
      go_upto_region 7 with fail
      go_wp2_with fail
      rw [← HW6.out]
      refine HIN.out.mono ?_
      rintro e w7 ⟨v7, rfl, ho7, hx7⟩
      have H7 := Lib.hid (And.intro ho7 hx7)
      clear ho7 hx7
      go_wp2_with fail
      go_ret
      rw [HD.out]
      obtain ⟨ho7, hx7⟩ := H7.out
      obtain ⟨hro6, hb6⟩ := H6.out
      obtain ⟨-, hky, hA2, hb5⟩ := H5.out
      obtain ⟨h23, h01, h12⟩ := H23.out
      have hv2 : ∀ g, (Value.slice A2 n c2).ownBlock = some g → w.heap.size ≤ g := fun g hg => (Own.lt hro6.own g hg).1
      have hv7 : ∀ g, v7.ownBlock = some g → w.heap.size ≤ g := hx7.own_lt (base := w.heap.size) hv2 hro6.bel.size
      refine ⟨_, ks2.take i ++ ⟨A3, c3, kr⟩ :: ks2.drop i, rfl, ho7.rebase hv7, by rw [List.map_append, List.map_cons, List.map_take, List.map_drop, hro6.rows], fun k hk => ?_, hro6.bel.trans (hx7.below (base := w.heap.size) hro6.bel.size hv2)⟩
      have hm : k ∈ ks2 ∨ k = ⟨A3, c3, kr⟩ := by
        rcases List.mem_append.1 hk with h | h
        · exact .inl (List.mem_of_mem_take h)
        · rcases List.mem_cons.1 h with h | h
          · exact .inr h
          · exact .inl (List.mem_of_mem_drop h)
      rcases hm with hm | rfl
      · exact ((hro6.el k hm).keep (hx7.keeps fun g hg => ⟨hg.2.1, fun e => hg.2.2 e.symm⟩)).more fun g hg => ⟨hg.1, Nat.lt_of_lt_of_le hg.2.1 hx7.size, hx7.ne hg.2.2 hg.2.1⟩
      · have hb56 := hb5.size
        have hb66 := hb6.size
        have hne : ∀ g, w2.heap.size ≤ g → (Value.slice A2 n c2).ownBlock ≠ some g := fun g hg e => by have := (hA2 g e).2; omega
        have hky6 : KOk (fun g => w2.heap.size ≤ g ∧ g < w3.heap.size) w6 ⟨A3, c3, kr⟩ := hky.keep (Keeps.of_below hb6 fun g hg => by omega)
        exact (hky6.keep (hx7.keeps fun g hg => ⟨by omega, fun e => hne g hg.1 e.symm⟩)).more fun g hg => ⟨by omega, by have := hx7.size; omega, hx7.ne (hne g hg.1) (by omega)⟩
end Go.Proofs.Ytefifkleamiabaa
