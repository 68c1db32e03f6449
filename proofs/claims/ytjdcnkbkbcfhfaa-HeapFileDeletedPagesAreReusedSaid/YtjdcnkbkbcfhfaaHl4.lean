/-
  The walk of the law HeapFileDeletedPagesAreReused.
-/
import Derived.Test.YtjdcnkbkbcfhfaaHm23
namespace Go.Proofs.Ytjdcnkbkbcfhfaa
open Go.RowKit Go.Sort

/-- The counts of pages: a cell for each round. -/
structure PgsAt (gp : Nat) (w : World) (f : Nat → Nat) : Prop where
  blk : w.heap[gp]? = some (.cells #[.int .i64 (f 0 : Nat), .int .i64 (f 1 : Nat)] 33 (0, 0))
theorem PgsAt.at_ {gp : Nat} {w : World} {f : Nat → Nat} (h : PgsAt gp w f) {k : Nat} (hk : k < 2) : w.cell? ⟨gp, k, none⟩ = some (.int .i64 (f k : Nat)) ∧ w.frozen? ⟨gp, k, none⟩ = false := by
  refine ⟨?_, frozen_of_row _ _ _ _ _ h.blk⟩
  rw [cell_of_row _ _ _ _ _ _ h.blk]
  rcases k with _ | _ | k
  · rfl
  · rfl
  · omega
theorem PgsAt.set {gp : Nat} {w : World} {f : Nat → Nat} (h : PgsAt gp w f) {k : Nat} (hk : k < 2) (P : Nat) : PgsAt gp (w.setCell ⟨gp, k, none⟩ (.int .i64 (P : Nat))) (fun i => if i = k then P else f i) := by
  refine ⟨?_⟩
  rw [heap_setCell_at h.blk]
  rcases k with _ | _ | k
  · rfl
  · rfl
  · omega
theorem PgsAt.fr {gp : Nat} {F : Nat → Prop} {w w' : World} {f : Nat → Nat} (h : PgsAt gp w f) (hf : Fr F w w') (hg : F gp) : PgsAt gp w' f := ⟨(hf.blk gp hg).trans h.blk⟩

/-- The table lies elsewhere. -/
structure TabOff (gp : Nat) (t : Tbl) : Prop where
  cols : ∀ b off, t.CA = some ⟨b, off, none⟩ → b ≠ gp
  pk : ∀ b off, t.PA = some ⟨b, off, none⟩ → b ≠ gp
theorem TabOff.of {gp : Nat} {t : Tbl} {w : World} (h : TOk (· < gp) w t) (hc : t.cols = iCols) (hp : t.pk = [0]) : TabOff gp t := by
  refine ⟨fun b off e => ?_, fun b off e => ?_⟩
  · obtain ⟨b', off', e', hb, -⟩ := h.cols (by rw [hc]; decide)
    rw [e] at e'
    injection e' with e'
    injection e' with e1 e2
    omega
  · obtain ⟨b', off', e', hb, -⟩ := h.pk (by rw [hp]; decide)
    rw [e] at e'
    injection e' with e'
    injection e' with e1 e2
    omega
theorem Elems.off {α : Type} {sz : Nat} {cs : α → List Value} {w w' : World} {S : Nat → Prop} {A : Option Addr} {xs : List α} {gp : Nat} (h : Elems sz cs w S A xs) (ho : ∀ b off, A = some ⟨b, off, none⟩ → b ≠ gp) (hk : ∀ i, i ≠ gp → w'.heap[i]? = w.heap[i]?) : Elems sz cs w' S A xs := fun hn => by
  obtain ⟨b, off, e, hs, hc⟩ := h hn
  exact ⟨b, off, e, hs, fun i x hx j u hu => (World.cell?_of_block (w := w) (hk b (ho b off e))).trans (hc i x hx j u hu)⟩
/-- A store into a block that is not the file's. -/
theorem FileT.poke {F : Nat → Prop} {w : World} {fb tb : Nat} {t : Tbl} {pgs : Pgs} {ps : List PE} {gp : Nat} {f : Nat → Nat} (h : FileT F w fb tb t pgs ps) (hp : PgsAt gp w f) (hF : F gp) (ht : TabOff gp t) (i : Nat) (v : Value) : FileT F (w.setCell ⟨gp, i, none⟩ v) fb tb t pgs ps := by
  obtain ⟨G, pv, xs, h, h2⟩ := h
  obtain ⟨hG, hfb, hpv⟩ := h.out gp hF
  have hoff : ∀ k, k ≠ gp → (w.setCell ⟨gp, i, none⟩ v).heap[k]? = w.heap[k]? := fun k hk => heap_setCell_off hk _
  have hgl := h.lt gp hG
  refine ⟨G, pv, xs, ⟨(hoff fb (fun e => hfb e.symm)).trans h.blk, ?_, h.own.of_block fun g hg => hoff g fun e => hpv (by rw [hg, e]), fun x hx => ?_, ⟨h.tab.cols.off ht.cols hoff, h.tab.pk.off ht.pk hoff⟩, h.gfb, h.gpv, h.out⟩, h2⟩
  · refine (h.tree.keep (by rw [setCell_size]; exact Nat.le_refl _) fun k _ hk => hoff k fun e => hk (by rw [e]; exact hG)).sub fun k hk => .inl hk
  · obtain ⟨h3, h4⟩ := h.page x hx
    refine ⟨h3.of_block (hoff _ fun e => ?_), h4⟩
    have h5 := h3.own
    rcases h5.2 with ⟨h6, -⟩ | ⟨g, cap, cur, h6, -, h7, -⟩
    · cases h6
    · injection h6 with h6
      injection h6 with h6
      injection h6 with h6
      rw [← h6, e, hp.blk] at h7
      injection h7 with h7
      injection h7 with _ h7
      exact absurd h7 (by decide)
theorem FS.poke {F : Nat → Prop} {w0 w : World} {fb tb : Nat} {t : Tbl} {a b gp : Nat} {f : Nat → Nat} (h : FS F w0 fb tb t a b w) (hp : PgsAt gp w f) (hF : F gp) (ht : TabOff gp t) (i : Nat) (v : Value) : FS F (w.setCell ⟨gp, i, none⟩ v) fb tb t a b (w.setCell ⟨gp, i, none⟩ v) := by
  obtain ⟨pgs, ps, f, h1, h2, h3, h4, h5, h6⟩ := h
  exact ⟨pgs, ps, f, h1.poke hp hF ht i v, h2, h3, h4, h5, Fr.refl _⟩
theorem FS.rebase {F : Nat → Prop} {w0 w : World} {fb tb : Nat} {t : Tbl} {a b : Nat} (h : FS F w0 fb tb t a b w) : FS F w fb tb t a b w := by
  obtain ⟨pgs, ps, f, h1, h2, h3, h4, h5, h6⟩ := h
  exact ⟨pgs, ps, f, h1, h2, h3, h4, h5, Fr.refl _⟩
theorem FS.lt {F : Nat → Prop} {w0 w : World} {fb tb : Nat} {t : Tbl} {a b : Nat} (h : FS F w0 fb tb t a b w) : ∀ k, F k → k < w.heap.size := by
  obtain ⟨pgs, ps, f, h1, h2, h3, h4, h5, h6⟩ := h
  exact h1.lt
/-- A store into a block that holds no row. -/
theorem RowsAt.poke {F F' : Nat → Prop} {g m gp : Nat} {ns : List Int} {w : World} (h : RowsAt F g m ns w) (hF : ∀ k, F k → F' k ∧ k ≠ gp) (i : Nat) (v : Value) : RowsAt F' g m ns (w.setCell ⟨gp, i, none⟩ v) := by
  refine ⟨fun k hk => ?_, (hF g h.blk).1⟩
  obtain ⟨A, c, n, h1, h2, h3⟩ := h.at_ k hk
  exact ⟨A, c, n, (World.cell?_of_block (w := w) (heap_setCell_off (hF g h.blk).2 _)).trans h1, (h2.keep fun j hj => heap_setCell_off (hF j hj).2 _).more fun j hj => (hF j hj).1, h3⟩

/-- Between the rounds. -/
def Rnd (F : Nat → Prop) (w : World) (fb tb : Nat) (t : Tbl) (g gp m : Nat) (ns : List Int) (k : Nat) (wr : World) : Prop :=
  FS (fun j => F j ∨ j = gp) wr fb tb t 0 0 wr ∧ Below w.heap.size w wr ∧ RowsAt F g m ns wr ∧ ∃ f, PgsAt gp wr f ∧ ∀ i, i < k → 0 < f i

set_option maxRecDepth 100000 in
set_option maxHeartbeats 8000000 in
theorem heapdel_law (A : Option Addr) (c : Nat) (xs : List Int) (w : World) (hx : Elems 1 intCs w (· < w.heap.size) A xs) (_hl : xs.length ≤ c) (_hcm : c ≤ maxLen) (hok : ∀ x ∈ xs, I64 x) (hsz : xs.length * 8 ≤ reachBytes) :
    Calls Try.prog 3 #[.slice A xs.length c] w fun e w' => e = .returned (.bool true) ∧ Below w.heap.size w w' := by
  have HIT := Lib.hid (indexTableW w)
  have HX := Lib.hid hx
  have HOK : Hid (∀ k ∈ [1] ++ xs, I64 k) := Lib.hid fun k hk => by
    rcases List.mem_append.1 hk with h | h
    · rw [List.mem_singleton.1 h]; unfold I64; omega
    · exact hok k h
  obtain ⟨N, hN⟩ : ∃ N, xs.length = N := ⟨_, rfl⟩
  have hrb : reachBytes ≤ 140737488355320 := by decide
  have H1 : Hid ((([1] : List Int).length + xs.length) * 8 ≤ 140737488355328) := Lib.hid (by simp; omega)
  have H2 : Hid (([1] : List Int).length + xs.length ≤ maxLen) := Lib.hid (by unfold maxLen; simp; omega)
  rw [hN]
  have HN : Hid (N = xs.length) := Lib.hid hN.symm
  clear hx hok hsz hN hrb
  go_enter Try.func3, Try.ntmps3
  go_wp2_with fail
  refine HIT.out.mono ?_
  rintro e w1 ⟨a, p, rfl, ht, hb1⟩
  have HB1 := Lib.hid hb1
  have HNL := Lib.hid (newLaw w1 (ht.more fun g hg => hg.2))
  clear hb1 ht HIT
  unfold iTbl Tbl.val
  simp only
  rw [show iCols.length = 3 from rfl, show ([0] : List Int).length = 1 from rfl]
  go_wp2_with fail
  refine HNL.out.mono ?_
  rintro e w2 ⟨fb, tb, t, rfl, htc, htp, hft, hb2⟩
  have hb2' := HB1.out.trans (hb2.mono HB1.out.size)
  have HB2 := Lib.hid hb2'
  have HT := Lib.hid (And.intro htc htp)
  have HFT := Lib.hid hft
  have HB12 := Lib.hid hb2
  have HXA := Lib.hid ((HX.out.on hb2').keep (w' := w2.alloc (.cells #[.int .i64 1] 3)) fun k hk => Below.heap_alloc _ _ _ hk)
  have hb : w2.heap.size ≤ (w2.alloc (.cells #[.int .i64 1] 3)).heap.size := by simp
  have HO := Lib.hid (one_own w2 1)
  clear hb2 hb2' htc htp hft HNL
  go_wp2_with (at_builtin; refine wpList_app rfl (.tmp 27) (.tmp 28) _ _ rfl rfl rfl (run_pushs elem_ints intLay _ (w2.alloc (.cells #[.int .i64 1] 3)) _ [1] HO.out HXA.out HN.out H1.out H2.out hb) ?_; rintro v3 w3 ⟨ho3, hx3⟩)
  have hb3 : Below w2.heap.size w2 w3 := ((Below.refl _ _).alloc (Nat.le_refl _) _).trans (hx3.below (base := w2.heap.size) hb (fun g hg => Nat.le_of_eq (Option.some.inj hg)))
  obtain ⟨A3, c3, rfl, hl3, hm3⟩ := ho3.form
  have HTR := Lib.hid (tableRowsW A3 c3 ([1] ++ xs) w3 ((ho3.elems intLay.len rfl).more fun k hk => (ho3.lt k hk).2) hl3 hm3 HOK.out)
  obtain ⟨m, hm⟩ : ∃ m, m = min ([1] ++ xs).length 24 := ⟨_, rfl⟩
  rw [← hm] at HTR
  have hm24 : 0 < m ∧ m ≤ 24 := by rw [hm, List.length_append]; simp; omega
  have HB3 := Lib.hid hb3
  clear ho3 hx3 hb3 hm hl3 hm3 H1 H2 HN HO HXA hb
  obtain ⟨hm0, hm24⟩ := hm24
  generalize [1] ++ xs = ns at *
  refine HTR.out.mono ?_
  rintro e w4 ⟨v4, rfl, ks, hT⟩
  have hb24 : Below w2.heap.size w2 w4 := HB3.out.trans (hT.bel.mono HB3.out.size)
  obtain ⟨F, hF⟩ : ∃ F : Nat → Prop, F = fun k => k < w1.heap.size ∨ (w2.heap.size ≤ k ∧ k < w4.heap.size) := ⟨_, rfl⟩
  obtain ⟨g4, c4, rfl, hrows⟩ := RowsAt.of (F := F) hT hm0 (fun k h1 h2 => by rw [hF]; exact .inr ⟨Nat.le_trans HB3.out.size h1, h2⟩)
  have HFS : Hid (FS F w4 fb tb t 0 0 w4) := Lib.hid (by rw [hF]; exact FS.start (HFT.out.more hb24))
  have HFB : Hid (∀ W, Fr F w4 W → Below w.heap.size w W) := Lib.hid fun W hW => (HB2.out.trans (hb24.mono HB2.out.size)).trans (hW.below fun k hk => by rw [hF]; exact .inl (Nat.lt_of_lt_of_le hk HB1.out.size))
  have HROWS := Lib.hid hrows
  have HFLT : Hid (∀ k, F k → k < w4.heap.size) := Lib.hid fun k hk => by
    rw [hF] at hk
    rcases hk with hk | hk
    · exact Nat.lt_of_lt_of_le hk (Nat.le_trans HB12.out.size hb24.size)
    · exact hk.2
  have HFW : Hid (∀ k, k < w.heap.size → F k) := Lib.hid fun k hk => by rw [hF]; exact .inl (Nat.lt_of_lt_of_le hk HB1.out.size)
  clear hT hrows hb24 HTR HFT hF
  have hmi : (0 : Int) < (m : Int) := by omega
  have hm24' : (m : Int) ≤ 24 := by omega
  have hT4 : TabOff w4.heap.size t := by
    obtain ⟨pgs, ps, f, h1, -⟩ := HFS.out
    exact TabOff.of h1.tok HT.out.1 HT.out.2
  obtain ⟨w5, hw5⟩ : ∃ w5, w5 = w4.alloc (.cells #[.int .i64 0, .int .i64 0] 33) := ⟨_, rfl⟩
  have hb5 : Below w4.heap.size w4 w5 := by rw [hw5]; exact (Below.refl _ _).alloc (Nat.le_refl _) _
  have HR5 : Hid (Rnd F w fb tb t g4 w4.heap.size m ns 0 w5) := Lib.hid (by
    refine ⟨?_, HFB.out w5 (Fr.of_below hb5 HFLT.out), HROWS.out.fr (Fr.of_below hb5 HFLT.out), fun _ => 0, ⟨by rw [hw5]; exact heap_alloc_new w4 _⟩, fun i hi => absurd hi (Nat.not_lt_zero _)⟩
    obtain ⟨pgs, ps, f, h1, h2, h3, h4, h5, h6⟩ := HFS.out.more hb5
    refine ⟨pgs, ps, f, h1.sub fun j hj => ?_, h2, h3, h4, h5, Fr.refl _⟩
    rcases hj with hj | rfl
    · exact .inl hj
    · exact .inr ⟨Nat.le_refl _, by rw [hw5]; simp⟩)
  have HTO := Lib.hid hT4
  have HFG : Hid (∀ k, F k → k ≠ w4.heap.size) := Lib.hid fun k hk e => by have := HFLT.out k hk; omega
  have HGP : Hid (w.heap.size ≤ w4.heap.size) := Lib.hid (HFB.out w4 (Fr.refl _)).size
  have HW5 := Lib.hid hw5
  clear hT4 hb5 hw5 HFS HROWS HFB
  go_wp2_with fail
  rw [← HW5.out]
  clear HW5
  generalize w4.heap.size = gp at *
  go_loopw [31] (fun vi wr => ∃ k : Nat, vi = .int .i64 (k : Int) ∧ k ≤ 2 ∧ Rnd F w fb tb t g4 gp m ns k wr) (fun vi _ => 2 - (intOf vi).toNat)
  case atStart => exact ⟨0, rfl, by omega, HR5.out⟩
  case round =>
    obtain ⟨k, rfl, hk2, hrnd⟩ := hrel
    obtain ⟨wo, rfl⟩ : ∃ wo, wo = wr := ⟨_, rfl⟩
    obtain ⟨hfs, hbw, hrw, f, hpg, hpos⟩ := hrnd
    by_cases hlt : k < 2
    · have hlt' : (k : Int) < 2 := by omega
      have HFSO := Lib.hid hfs
      have HO := Lib.hid (And.intro hbw (And.intro hrw (And.intro hpg hpos)))
      clear hfs hbw hrw hpg hpos
      go_wp2_with fail
      go_loopw [36] (fun vi wr => ∃ j : Nat, vi = .int .i64 (j : Int) ∧ j ≤ m ∧ FS (fun j => F j ∨ j = gp) wo fb tb t 0 j wr) (fun vi _ => m - (intOf vi).toNat)
      case atStart => exact ⟨0, rfl, by omega, HFSO.out⟩
      case round =>
        obtain ⟨j, rfl, hjm, hfs⟩ := hrel
        obtain ⟨wi, rfl⟩ : ∃ wi, wi = wr := ⟨_, rfl⟩
        by_cases hlt2 : j < m
        · have hr := HO.out.2.1.fr (hfs.fr.sub fun k hk => .inl hk)
          obtain ⟨Ak, ck, nk, e0, e1, e2⟩ := hr.at_ j hlt2
          have HPU := Lib.hid (putStep hfs HT.out.1 HT.out.2 (by omega) Ak ck (trow j nk) (trow_rowI j nk) (e1.more fun g hg => hfs.lt g (.inl hg)))
          have hlt3 : (j : Int) < (m : Int) := by omega
          clear hr e1 e2 hfs
          go_wp2_with fail
          refine HPU.out.mono ?_
          rintro e w6 ⟨rfl, hf6⟩
          have HF6 := Lib.hid hf6
          clear hf6
          go_wp2_with fail
          go_roundw
          case rel => exact ⟨j + 1, by go_num, by omega, HF6.out⟩
          case measure => simp [intOf]; omega
        · have hjm' : j = m := by omega
          subst hjm'
          have HSZ := Lib.hid (sizeStep hfs hm24)
          clear hfs
          go_wp2_with fail
          refine HSZ.out.mono ?_
          rintro e w6 ⟨P, rfl, hP24, hPpos, -, hfs6⟩
          have hpg6 := HO.out.2.2.1.fr hfs6.fr (.inr rfl)
          obtain ⟨z0, z1⟩ := hpg6.at_ hlt
          have hrw6 := HO.out.2.1.fr (hfs6.fr.sub fun k hk => .inl hk)
          have hfs7 := hfs6.poke hpg6 (.inr rfl) HTO.out k (.int .i64 (P : Nat))
          have hpg7 := hpg6.set hlt P
          have hrw7 : RowsAt F g4 j ns (w6.setCell ⟨gp, k, none⟩ (.int .i64 (P : Nat))) := hrw6.poke (fun i hi => ⟨hi, HFG.out i hi⟩) k _
          have hbw7 : Below w.heap.size w (w6.setCell ⟨gp, k, none⟩ (.int .i64 (P : Nat))) := (HO.out.1.trans ((hfs6.fr.below (b := w.heap.size) fun i hi => .inl (HFW.out i hi)))).setCell (p := ⟨gp, k, none⟩) HGP.out _
          have HPP := Lib.hid (And.intro hP24 (hPpos (by omega)))
          obtain ⟨w7, hw7⟩ : ∃ w7, w7 = w6.setCell ⟨gp, k, none⟩ (.int .i64 (P : Nat)) := ⟨_, rfl⟩
          rw [← hw7] at hfs7 hpg7 hrw7 hbw7
          have H7 := Lib.hid (And.intro hfs7 (And.intro hpg7 (And.intro hrw7 hbw7)))
          have HW7 := Lib.hid hw7
          clear hP24 hPpos hfs6 hpg6 hrw6 hfs7 hpg7 hrw7 hbw7 hw7 HSZ
          go_upto_region 17 with fail
          rw [← HW7.out]
          go_wp2_with fail
          go_loopw [58] (fun vi wr => ∃ i : Nat, vi = .int .i64 (i : Int) ∧ i ≤ j ∧ FS (fun x => F x ∨ x = gp) w7 fb tb t i j wr) (fun vi _ => j - (intOf vi).toNat)
          case atStart => exact ⟨0, rfl, by omega, H7.out.1⟩
          case round =>
            obtain ⟨i, rfl, hij, hfs⟩ := hrel
            obtain ⟨wi, rfl⟩ : ∃ wi, wi = wr := ⟨_, rfl⟩
            by_cases hlt3 : i < j
            · have hr := H7.out.2.2.1.fr (hfs.fr.sub fun k hk => .inl hk)
              obtain ⟨Ak, ck, nk, e0, e1, -, e2⟩ := hr.at_ i hlt3
              have HDE := Lib.hid (delStep hfs HT.out.1 HT.out.2 hlt3 hm24 Ak ck ((e1.take 1).more fun g hg => .inl hg))
              have hlt4 : (i : Int) < (j : Int) := by omega
              have hck : (1 : Int) ≤ (ck : Int) := by omega
              clear hr e1 e2 hfs
              go_wp2_with fail
              refine HDE.out.mono ?_
              rintro e w8 ⟨rfl, hf8⟩
              have HF8 := Lib.hid hf8
              clear hf8
              go_wp2_with fail
              go_roundw
              case rel => exact ⟨i + 1, by go_num, by omega, HF8.out⟩
              case measure => simp [intOf]; omega
            · have hij' : i = j := by omega
              subst hij'
              have HSZ : Hid (Calls Try.prog 9 #[ptr fb] wi fun e w' => e = .returned (.tuple #[.int .i64 0, .int .i64 0]) ∧ FS (fun x => F x ∨ x = gp) w7 fb tb t i i w') := Lib.hid ((sizeStep hfs hm24).mono fun e w' ⟨P, h1, _, _, h2, h3⟩ => ⟨by rw [h1, h2 hm0 rfl, Nat.sub_self]; rfl, h3⟩)
              clear hfs
              go_wp2_with fail
              refine HSZ.out.mono ?_
              rintro e w9 ⟨rfl, hf9⟩
              have HR9 : Hid (Rnd F w fb tb t g4 gp i ns (k + 1) w9) := Lib.hid ⟨(hf9.restart hm0).rebase, H7.out.2.2.2.trans (hf9.fr.below fun i hi => .inl (HFW.out i hi)), H7.out.2.2.1.fr (hf9.fr.sub fun k hk => .inl hk), _, H7.out.2.1.fr hf9.fr (.inr rfl), fun x hx => by
                by_cases e : x = k
                · show 0 < (if x = k then P else f x)
                  rw [if_pos e]
                  exact HPP.out.2
                · show 0 < (if x = k then P else f x)
                  rw [if_neg e]
                  exact HO.out.2.2.2 x (by omega)⟩
              clear hf9
              go_wp2_with fail
              go_roundw
              case rel => exact ⟨k + 1, by go_num, by omega, HR9.out⟩
              case measure => simp [intOf]; omega
    · have hk2' : k = 2 := by omega
      subst hk2'
      obtain ⟨z0, -⟩ := hpg.at_ (k := 0) (by omega)
      obtain ⟨z1, -⟩ := hpg.at_ (k := 1) (by omega)
      have p0 := hpos 0 (by omega)
      have p1 := hpos 1 (by omega)
      have HBW := Lib.hid hbw
      clear hfs hbw hrw hpg hpos
      generalize f 0 = P0 at *
      generalize f 1 = P1 at *
      have p0' : (0 : Int) < (P0 : Int) := by omega
      have p1' : (0 : Int) < (P1 : Int) := by omega
      go_wp2_with fail
      go_ret
      exact ⟨by simp, HBW.out⟩
end Go.Proofs.Ytjdcnkbkbcfhfaa
