/-
  A tree in memory beside blocks that are not its own; the walks of Put and Delete with the blocks that stay.
  From a law's walk ('it returns true, and nothing that was there has turned') to its row; the reading of arguments: rows of values, slices of bytes.
-/
import Derived.Test.YtjdcnkbkbcfhfaaHm11
import Derived.Test.YtjdcnkbkbcfhfaaHm13
import Derived.Test.YtjdcnkbkbcfhfaaRows
import Derived.Test.YtjdcnkbkbcfhfaaHm01
import Derived.ProofKit
import Derived.OpenShut
namespace Go.Proofs.Ytjdcnkbkbcfhfaa
open Go.RowKit Go.Sort

/-- From w to w' the blocks of F stay. -/
structure Fr (F : Nat → Prop) (w w' : World) : Prop where
  os : w'.os = w.os
  tape : w'.tape = w.tape
  output : w'.output = w.output
  size : w.heap.size ≤ w'.heap.size
  blk : ∀ k, F k → w'.heap[k]? = w.heap[k]?
section
variable {F G : Nat → Prop} {w w1 w' : World}
theorem Fr.refl (w : World) : Fr F w w := ⟨rfl, rfl, rfl, Nat.le_refl _, fun _ _ => rfl⟩
theorem Fr.trans (h : Fr F w w1) (k : Fr F w1 w') : Fr F w w' := ⟨k.os.trans h.os, k.tape.trans h.tape, k.output.trans h.output, Nat.le_trans h.size k.size, fun i hi => (k.blk i hi).trans (h.blk i hi)⟩
theorem Fr.of_below {b : Nat} (h : Below b w w') (hF : ∀ k, F k → k < b) : Fr F w w' := ⟨h.os, h.tape, h.output, h.size, fun k hk => h.block k (hF k hk)⟩
theorem Fr.below {b : Nat} (h : Fr F w w') (hF : ∀ k, k < b → F k) : Below b w w' := ⟨h.os, h.tape, h.output, h.size, fun k hk => h.blk k (hF k hk)⟩
theorem Fr.drewN (h : Fr F w w') (n : Nat) : Fr F w (w'.drewN n) := h.trans ⟨rfl, (below_drewN (Below.refl 0 _) n).tape, rfl, Nat.le_refl _, fun _ _ => rfl⟩
theorem Fr.setCell (h : Fr F w w') {p : Addr} (hp : ¬ F p.block) (v : Value) : Fr F w (w'.setCell p v) :=
  ⟨h.os, h.tape, h.output, by simpa [World.setCell] using h.size, fun k hk => (Below.heap_setCell w' p v k (fun e => hp (e ▸ hk))).trans (h.blk k hk)⟩
theorem Fr.sub (h : Fr F w w') (hg : ∀ k, G k → F k) : Fr G w w' := ⟨h.os, h.tape, h.output, h.size, fun k hk => h.blk k (hg k hk)⟩
theorem Fr.keeps (h : Fr F w w') : Keeps F w w' := fun k hk => h.blk k hk
end

/-- The blocks of F are there and not the tree's. -/
def Out (F : Nat → Prop) (w : World) (O : Own') : Prop := ∀ k, F k → k < w.heap.size ∧ ¬ (O k).mine ∧ O k ≠ .top ∧ O k ≠ .row
def TreeF (F : Nat → Prop) (m o : Nat) (w : World) (tb : Nat) (ps : List PE) : Prop := ∃ (M : Nodes) (O : Own') (d a : Nat) (t : T d) (fp : List Nat), TreeIn 0 m o w M O tb d a t fp ps.length ∧ (flat d t).map pr = ps ∧ Out F w O
section
variable {F G : Nat → Prop} {base m o : Nat} {w0 w w' : World} {M : Nodes} {O O0 : Own'} {tb : Nat} {ps : List PE}
theorem Out.below (h : Out F w O) (hb : w.heap.size ≤ w'.heap.size) : Out F w' O := fun k hk => ⟨Nat.lt_of_lt_of_le (h k hk).1 hb, (h k hk).2⟩
theorem St.fr (h : St w0 O0 w M O) (hl : Out F w0 O0) : Fr F w0 w := ⟨h.os, h.tape, h.output, h.size, fun k hk => h.keep k (hl k hk).1 (hl k hk).2.1⟩
theorem St.out (h : St w0 O0 w M O) (hl : Out F w0 O0) : Out F w O := fun k hk => ⟨Nat.lt_of_lt_of_le (hl k hk).1 h.size, by rw [h.own k (hl k hk).1]; exact (hl k hk).2⟩
theorem TreeIn.zero {d a : Nat} {t : T d} {fp : List Nat} {n : Nat} (h : TreeIn base m o w M O tb d a t fp n) : TreeIn 0 m o w M O tb d a t fp n := ⟨h.store, h.top, fun _ hk => absurd hk (Nat.not_lt_zero _), h.blk, h.rep, h.nd, h.ok, h.root, h.full, h.len⟩
theorem TreeF.of (h : TreeAt base m o w0 tb ps) (hB : base ≤ w0.heap.size) (hb : Below w0.heap.size w0 w) : TreeF (fun k => k < base ∨ (w0.heap.size ≤ k ∧ k < w.heap.size)) m o w tb ps := by
  obtain ⟨M, O, d, a, t, fp, h1, h2⟩ := h
  refine ⟨M, O, d, a, t, fp, (h1.below hb).zero, h2, fun k hk => ?_⟩
  rcases hk with h | ⟨h, h'⟩
  · exact ⟨Nat.lt_of_lt_of_le h (Nat.le_trans hB hb.size), (h1.low k h).1, (h1.low k h).2.1, (h1.low k h).2.2⟩
  · rw [h1.store.free k h]
    exact ⟨h', fun h => h, by simp, by simp⟩
theorem TreeF.more (h : TreeF F m o w0 tb ps) (hb : Below w0.heap.size w0 w) : TreeF (fun k => F k ∨ (w0.heap.size ≤ k ∧ k < w.heap.size)) m o w tb ps := by
  obtain ⟨M, O, d, a, t, fp, h1, h2, h3⟩ := h
  refine ⟨M, O, d, a, t, fp, h1.below hb, h2, fun k hk => ?_⟩
  rcases hk with h | ⟨h, h'⟩
  · exact ⟨Nat.lt_of_lt_of_le (h3 k h).1 hb.size, (h3 k h).2⟩
  · rw [h1.store.free k h]
    exact ⟨h', fun h => h, by simp, by simp⟩
theorem TreeF.sub (h : TreeF F m o w tb ps) (hg : ∀ k, G k → F k) : TreeF G m o w tb ps := by
  obtain ⟨M, O, d, a, t, fp, h1, h2, h3⟩ := h
  exact ⟨M, O, d, a, t, fp, h1, h2, fun k hk => h3 k (hg k hk)⟩
theorem TreeF.at_ (h : TreeF F m o w tb ps) : TreeAt 0 m o w tb ps := by
  obtain ⟨M, O, d, a, t, fp, h1, h2, -⟩ := h
  exact ⟨M, O, d, a, t, fp, h1, h2⟩
theorem TreeF.lt (h : TreeF F m o w tb ps) : ∀ k, F k → k < w.heap.size := by
  obtain ⟨M, O, d, a, t, fp, -, -, h3⟩ := h
  exact fun k hk => (h3 k hk).1
end

/-- What insert leaves of a whole tree: its root may hold one too many. -/
structure OverF (F : Nat → Prop) (m o : Nat) (w0 w : World) (M : Nodes) (O : Own') (tb d a : Nat) (t : T d) (fp : List Nat) (n : Nat) (ps : List PE) : Prop where
  store : Store w M O
  fr : Fr F w0 w
  top : O tb = .top
  low : Out F w O
  blk : w.heap[tb]? = some (.cells #[.int .i64 o, ptr a, .int .i64 n] 87 (0, 0))
  rep : Rep M d a t fp
  nd : fp.Nodup
  ok : Ok m o d t
  root : d = 0 ∨ 2 ≤ fill d t
  full : fill d t ≤ o + 1
  len : ps.length = (flat d t).length
  flat : (Go.Proofs.Ytjdcnkbkbcfhfaa.flat d t).map pr = ps

/-- The clone of a key, then the insertion. -/
theorem put_midF {F : Nat → Prop} {m o : Nat} (hO : Order m o) {w w1 w2 : World} {M : Nodes} {O : Own'} {tb d a : Nat} {t : T d} {fp : List Nat} {n : Nat} (hF : Out F w O) (hT : TreeIn 0 m o w M O tb d a t fp n) (hb1 : Below w.heap.size w w1) (hb2 : Below w1.heap.size w1 w2) {key : Row} {A : Option Addr} {c : Nat} (v : Int)
    (hk : Own 3 Val.cs 44 w1.heap.size w2 (.slice A key.length c) key) (hkl : key.length ≤ 12) :
    Calls Try.prog 40 #[ptr tb, ptr a, .agg #[.slice A key.length c, .int .i64 v]] w2 fun e w3 => e = .returned (.bool (getP key ((flat d t).map pr)).isNone) ∧ ∃ M3 O3 t' fp', OverF F m o w2 w3 M3 O3 tb d a t' fp' n (insP (key, v) ((flat d t).map pr)) := by
  have hT0 := hT.below hb1
  have hT1 := hT0.below hb2
  obtain ⟨O2, hO2⟩ : ∃ O2 : Own', O2 = fun k => if (Value.slice A key.length c).ownBlock = some k then .row else O k := ⟨_, rfl⟩
  have hfree : ∀ g, (Value.slice A key.length c).ownBlock = some g → O g = .free ∧ w1.heap.size ≤ g ∧ g < w2.heap.size := fun g hg => ⟨hT.store.free g (Nat.le_trans hb1.size (Own.lt hk g hg).1), Own.lt hk g hg⟩
  have hne : ∀ k, O k ≠ .free → O2 k = O k := fun k hk' => by
    rw [hO2]
    exact if_neg fun e => hk' (hfree k e).1
  have hlt : ∀ k, k < w1.heap.size → O2 k = O k := fun k hk' => by
    rw [hO2]
    exact if_neg fun e => by have := (hfree k e).2.1; omega
  have hs2 : Store w2 M O2 := (((St.refl hT0.store).below hb2).claim (O' := O2) hne (fun k hk' => by
      rw [hO2]
      show (if _ then _ else _) = _
      rw [if_neg fun e => by have := (hfree k e).2.2; omega]
      exact hT1.store.free k hk') hlt).store
  have htop : O2 tb = .top := (hne tb (by rw [hT.top]; simp)).trans hT.top
  have hkok : KOk (fun k => O2 k = .row) w2 ⟨A, c, key⟩ := ⟨((hk.elems valLay.len rfl).more fun k hk' => by rw [hO2]; exact if_pos hk'), hkl⟩
  have hlow : Out F w2 O2 := fun k hk' => by
    have h := hF k hk'
    have h1 := hb1.size
    have h2 := hb2.size
    rw [hlt k (by omega)]
    exact ⟨by omega, h.2⟩
  have hcell : w2.cell? ⟨tb, 0, none⟩ = some (.int .i64 o) := by rw [cell_of_row _ _ _ _ _ _ hT1.blk]; rfl
  refine (insertW hO ⟨⟨A, c, key⟩, v⟩ w2 M O2 hs2 htop hcell hT.rep hT.nd hkok hT.ok (hT.root.imp id fun h => by omega) hT.full).mono ?_
  rintro e w3 ⟨M3, O3, t', fp', rfl, hS, hr, hch, hok, hfl, hf1, hf2⟩
  have hfe : (flat d t').map pr = insP (key, v) ((flat d t).map pr) := by rw [hfl, map_ins]; rfl
  refine ⟨by rw [get_map], M3, O3, t', fp', hS.store, hS.fr hlow, hS.ownTop hs2 htop, hS.out hlow, (hS.keep tb hT1.lt (by rw [htop]; exact fun h => h)).trans hT1.blk, hr, hch.nd, hok, hT.root.imp id fun h => by omega, by have := hT.full; omega, ?_, ?_⟩
  · rw [← hfe, List.length_map]
  · exact hfe

/-- The tree's top is written: the root, the number of entries. -/
theorem OverF.shut {F : Nat → Prop} {m o : Nat} {w2 w3 w' : World} {M : Nodes} {O : Own'} {tb d a : Nat} {t : T d} {fp : List Nat} {n : Nat} {ps : List PE} (h : OverF F m o w2 w3 M O tb d a t fp n ps)
    (hf : fill d t ≤ o) (hs : Store w' M O) (hsz : w3.heap.size ≤ w'.heap.size) (hk : w'.heap[tb]? = some (.cells #[.int .i64 o, ptr a, .int .i64 ps.length] 87 (0, 0))) : TreeF F m o w' tb ps :=
  ⟨M, O, d, a, t, fp, ⟨hs, h.top, fun _ hk => absurd hk (Nat.not_lt_zero _), hk, h.rep, h.nd, h.ok, h.root, hf, h.len⟩, h.flat, h.low.below hsz⟩

theorem OverF.notF {F : Nat → Prop} {m o : Nat} {w2 w3 : World} {M : Nodes} {O : Own'} {tb d a : Nat} {t : T d} {fp : List Nat} {n : Nat} {ps : List PE} (h : OverF F m o w2 w3 M O tb d a t fp n ps) : ¬ F tb := fun hl => (h.low tb hl).2.2.1 h.top
theorem OverF.fin_same {F : Nat → Prop} {m o : Nat} {w2 w3 : World} {M : Nodes} {O : Own'} {tb d a : Nat} {t : T d} {fp : List Nat} {n : Nat} {ps : List PE} (h : OverF F m o w2 w3 M O tb d a t fp n ps) (hf : fill d t ≤ o) (hl : ps.length = n) (k : Nat) :
    TreeF F m o (w3.drewN k) tb ps ∧ Fr F w2 (w3.drewN k) :=
  ⟨h.shut hf (h.store.below (below_drewN (Below.refl _ _) k)) (Nat.le_refl _) (by rw [hl]; exact h.blk), h.fr.drewN k⟩
theorem OverF.fin_more {F : Nat → Prop} {m o : Nat} {w2 w3 : World} {M : Nodes} {O : Own'} {tb d a : Nat} {t : T d} {fp : List Nat} {n : Nat} {ps : List PE} (h : OverF F m o w2 w3 M O tb d a t fp n ps) (hf : fill d t ≤ o) (hl : ps.length = n + 1) (k : Nat) :
    TreeF F m o ((w3.setCell ⟨tb, 2, none⟩ (.int .i64 ((n : Int) + 1))).drewN k) tb ps ∧ Fr F w2 ((w3.setCell ⟨tb, 2, none⟩ (.int .i64 ((n : Int) + 1))).drewN k) :=
  ⟨h.shut hf ((h.store.setTop h.top 2 _).below (below_drewN (Below.refl _ _) k)) (by show _ ≤ (w3.setCell _ _).heap.size; rw [setCell_size]; exact Nat.le_refl _) (by
      show (w3.setCell ⟨tb, 2, none⟩ (.int .i64 ((n : Int) + 1))).heap[tb]? = _
      rw [heap_setCell_at h.blk, hl]; rfl), (h.fr.setCell h.notF _).drewN k⟩

/-- The root is split. -/
theorem OverF.split {F : Nat → Prop} {m o : Nat} (hO : Order m o) {w2 w3 w4 : World} {M : Nodes} {O : Own'} {tb d a : Nat} {t : T d} {fp : List Nat} {n : Nat} {ps : List PE} (h : OverF F m o w2 w3 M O tb d a t fp n ps) (hf : o < fill d t)
    {b : Nat} {k : Key} {M' : Nodes} {O' : Own'} {l r : T d} {fl fr : List Nat} (hs : Spl d t l k r) (hS : St w3 O w4 M' O') (hl : Rep M' d a l fl) (hr : Rep M' d b r fr) (hc : Chg w3.heap.size M M' fp (fl ++ fr)) (hk : KOk (fun k => O' k = .row) w4 k) :
    ∃ (M5 : Nodes) (O5 : Own') (t5 : T (d + 1)) (fp5 : List Nat), OverF F m o w2 ((((w4.alloc (.cells #[ptr a, ptr b] 82)).alloc (.cells #[.slice k.A k.row.length k.c] 35)).alloc (.cells #[.slice none 0 0, .slice (some ⟨w4.heap.size + 1, 0, none⟩) 1 1, .slice (some ⟨w4.heap.size, 0, none⟩) 2 2] 85)).setCell ⟨tb, 1, none⟩ (ptr (w4.heap.size + 2))) M5 O5 tb (d + 1) (w4.heap.size + 2) t5 fp5 n ps ∧ fill (d + 1) t5 ≤ o := by
  obtain ⟨M5, O5, t5, hS5, hr5, hn5, hok5, hfl5, hf5⟩ := new_root hS hO h.ok hf h.full hs hl hr hc.nd hk
  have hst := hS5.store
  have htop5 : O5 tb = .top := hS5.ownTop h.store h.top
  obtain ⟨w5, hw5⟩ : ∃ w5, w5 = ((w4.alloc (.cells #[ptr a, ptr b] 82)).alloc (.cells #[.slice k.A k.row.length k.c] 35)).alloc (.cells #[.slice none 0 0, .slice (some ⟨w4.heap.size + 1, 0, none⟩) 1 1, .slice (some ⟨w4.heap.size, 0, none⟩) 2 2] 85) := ⟨_, rfl⟩
  rw [← hw5] at hS5 hst ⊢
  have hbk := (hS5.keep tb (h.store.lt' (by rw [h.top]; simp)) (by rw [h.top]; exact fun h => h)).trans h.blk
  have hb5 : Fr F w3 w5 := hS5.fr h.low
  refine ⟨M5, O5, t5, _, ⟨hst.setTop htop5 1 _, (h.fr.trans hb5).setCell h.notF _, htop5, (hS5.out h.low).below (by rw [setCell_size]; exact Nat.le_refl _), ?_, hr5, hn5, hok5, .inr (by omega), by have := hO.lo; omega, by rw [h.len, hfl5], by rw [hfl5]; exact h.flat⟩, by have := hO.lo; omega⟩
  rw [heap_setCell_at hbk]
  rfl

/-- What Put leaves. -/
def PutPostF (F : Nat → Prop) (m o : Nat) (w : World) (tb : Nat) (ps : List PE) (key : Row) (v : Int) (e : Ending) (w' : World) : Prop :=
  e = .returned (.tuple #[.bool (getP key ps).isNone, .int .i64 0]) ∧ TreeF F m o w' tb (insP (key, v) ps) ∧ Fr F w w'

set_option maxRecDepth 100000 in
set_option maxHeartbeats 4000000 in
theorem putF {F : Nat → Prop} {m o tb : Nat} (hO : Order m o) {ps : List PE} (w : World) (hT : TreeF F m o w tb ps) (A : Option Addr) (c : Nat) (key : Row) (v : Int) (hk : Elems 3 Val.cs w (· < w.heap.size) A key) (he : rErr key = 0) (hkl : key.length ≤ 12) (hn : ps.length ≤ 1000) :
    Calls Try.prog 25 #[ptr tb, .slice A key.length c, .int .i64 v] w (PutPostF F m o w tb ps key v) := by
  obtain ⟨M, O, d, a, t, fp, hT, hps, hF⟩ := hT
  have HCR := Lib.hid (checkRow A c key w hk (by unfold maxLen; omega))
  rw [he] at HCR
  have HT := Lib.hid hT
  have HPS := Lib.hid hps
  have HK := Lib.hid hk
  have HFF := Lib.hid hF
  clear hT hps hk hF
  go_enter Try.func25, Try.ntmps25
  go_wp2_with fail
  refine HCR.out.mono ?_
  rintro e w1 ⟨rfl, hb1⟩
  have HB1 := Lib.hid hb1
  have hT1 := HT.out.below hb1
  have ca : w1.cell? ⟨tb, 1, none⟩ = some (ptr a) := by rw [cell_of_row _ _ _ _ _ _ hT1.blk]; rfl
  have HCL : Hid (∀ k, Calls Try.prog 11 #[.slice A key.length c] (w1.drewN k) fun e w2 => ∃ A' c', e = .returned (.slice A' key.length c') ∧ w2.cell? ⟨tb, 1, none⟩ = some (ptr a)
      ∧ Hid (Calls Try.prog 40 #[ptr tb, ptr a, .agg #[.slice A' key.length c', .int .i64 v]] w2 fun e w3 => e = .returned (.bool (getP key ps).isNone) ∧ w3.cell? ⟨tb, 1, none⟩ = some (ptr a) ∧ Fr F w w2 ∧ w1.heap.size ≤ w2.heap.size ∧ ∃ M3 O3 t' fp', OverF F m o w2 w3 M3 O3 tb d a t' fp' ps.length (insP (key, v) ps))) := Lib.hid fun k => by
    have hb1k : Below w.heap.size w (w1.drewN k) := hb1.trans (below_drewN (Below.refl _ _) k)
    have hk1 := (HK.out.keep (Keeps.of_below hb1k fun _ h => h)).more (S' := (· < (w1.drewN k).heap.size)) fun i hi => Nat.lt_of_lt_of_le hi hb1k.size
    refine (cloneRow A key.length c key (w1.drewN k) _ hk1 (fun _ h => h) rfl (by omega)).mono ?_
    rintro e w2 ⟨v2, rfl, ho2, hb2⟩
    obtain ⟨A', c', rfl, -, -⟩ := ho2.form
    have hT2 := HT.out.below (hb1k.trans (hb2.mono hb1k.size))
    refine ⟨A', c', rfl, by rw [cell_of_row _ _ _ _ _ _ hT2.blk]; rfl, Lib.hid ?_⟩
    refine (put_midF hO HFF.out HT.out hb1k hb2 v ho2 hkl).mono ?_
    rintro e w3 ⟨rfl, M3, O3, t', fp', hov⟩
    rw [HPS.out] at hov ⊢
    exact ⟨rfl, by rw [cell_of_row _ _ _ _ _ _ hov.blk]; rfl, Fr.of_below (hb1k.trans (hb2.mono hb1k.size)) (fun k hk => (HFF.out k hk).1), hb2.size, M3, O3, t', fp', hov⟩
  have hT1b := Lib.hid hT1
  clear hT1 hb1
  go_upto_region 4 with fail
  have cad : w1.drew.cell? ⟨tb, 1, none⟩ = some (ptr a) := ca
  have HCA := Lib.hid cad
  go_region_held3 (fun w' => w'.cell? ⟨tb, 1, none⟩ = some (ptr a))
    (first | exact hc3 | exact hc2 | exact HCA.out)
    (first
      | (go_at_call 11; refine (HCL.out 1).mono ?_; rintro e w2 ⟨A', c', rfl, hc2, HIN⟩)
      | (go_at_call 40; refine HIN.out.mono ?_; rintro e w3 ⟨rfl, hc3, hbw, hbs, M3, O3, t', fp', hov⟩))
  have c0 : w3.cell? ⟨tb, 0, none⟩ = some (.int .i64 o) := by rw [cell_of_row _ _ _ _ _ _ hov.blk]; rfl
  have c2 : w3.cell? ⟨tb, 2, none⟩ = some (.int .i64 ps.length) := by rw [cell_of_row _ _ _ _ _ _ hov.blk]; rfl
  have f1 := frozen_of_row w3 tb 1 _ _ hov.blk
  have f2 := frozen_of_row w3 tb 2 _ _ hov.blk
  have hfl := len_insP (key, v) ps
  have HFL := Lib.hid (fun k => fillT hov.store hov.rep (hov.root.imp id fun h => by omega) k)
  have HOV := Lib.hid hov
  have hwr : IntKind.i64.wrap ((ps.length : Int) + 1) = (ps.length : Int) + 1 := by rw [IntKind.wrap_i64]; omega
  have hfo := hov.full
  clear hov HCL ca HCA cad
  rcases Nat.lt_or_ge o (fill d t') with hgt | hle
  · have hcmp : decide ((o : Int) < ((fill d t' : Nat) : Int)) = true := by rw [decide_eq_true_iff]; omega
    have hcmp2 : decide (o < fill d t') = true := by rw [decide_eq_true_iff]; omega
    have hcmp3 : o < fill d t' := hgt
    have HGT := Lib.hid hgt
    have hOl := hO.lo
    have hOh := hO.hi
    have HSP := Lib.hid (fun k => splitW (w3.drewN k) M3 O3 (HOV.out.store.below (below_drewN (Below.refl _ _) k)) HOV.out.rep HOV.out.nd HOV.out.ok (by omega) (by omega))
    have HTK : Hid (∀ (k : Nat) (w4 : World) (M4 : Nodes) (O4 : Own'), St (w3.drewN k) O3 w4 M4 O4 → w4.heap[tb]? = w3.heap[tb]?) := Lib.hid fun k w4 M4 O4 h => h.keep tb (HOV.out.store.lt' (by rw [HOV.out.top]; simp)) (by rw [HOV.out.top]; exact fun h => h)
    have HBK := Lib.hid HOV.out.blk
    clear hgt hfo
    generalize hfd : fill d t' = fd at *
    have HFD := Lib.hid hfd
    clear hfd
    go_wp2_with fail
    go_quiet (first | (go_at_call 41; exact quietSame (HFL.out _)))
    go_wp2_with fail
    refine (HSP.out _).mono ?_
    rintro e w4 ⟨b, k, M4, O4, l, r, fl, fr, rfl, hspl, hS4, hrl, hrr, hch, hko⟩
    have hb4 : w4.heap[tb]? = some (.cells #[.int .i64 o, ptr a, .int .i64 ps.length] 87 (0, 0)) := (HTK.out _ _ _ _ hS4).trans HBK.out
    have d1 : w4.cell? ⟨tb, 1, none⟩ = some (ptr a) := by rw [cell_of_row _ _ _ _ _ _ hb4]; rfl
    have d2 : w4.cell? ⟨tb, 2, none⟩ = some (.int .i64 ps.length) := by rw [cell_of_row _ _ _ _ _ _ hb4]; rfl
    have HSP2 := Lib.hid (HOV.out.split hO (by rw [HFD.out]; exact HGT.out) hspl (((St.refl HOV.out.store).drewN _).trans hS4) hrl hrr hch hko)
    clear hspl hS4 hrl hrr hch hko HSP HTK
    obtain ⟨M5, O5, t5, fp5, hov5, hf5⟩ := HSP2.out
    have f4 := frozen_of_row w4 tb 1 _ _ hb4
    have f5 := frozen_of_row w4 tb 2 _ _ hb4
    have htl : tb < w4.heap.size := (Array.getElem?_eq_some_iff.1 hb4).1
    have hb5 : (((w4.alloc (.cells #[ptr a, ptr b] 82)).alloc (.cells #[.slice k.A k.row.length k.c] 35)).alloc (.cells #[.slice none 0 0, .slice (some ⟨w4.heap.size + 1, 0, none⟩) 1 1, .slice (some ⟨w4.heap.size, 0, none⟩) 2 2] 85)).heap[tb]? = some (.cells #[.int .i64 o, ptr a, .int .i64 ps.length] 87 (0, 0)) := by
      rw [Below.heap_alloc _ _ _ (by simp; omega), Below.heap_alloc _ _ _ (by simp; omega), Below.heap_alloc _ _ _ htl]
      exact hb4
    have g4 := frozen_of_row _ tb 1 _ _ hb5
    have g5 := frozen_of_row _ tb 2 _ _ hb5
    have d4 := cell_of_row _ tb 1 _ _ _ hb5
    have d5 := cell_of_row _ tb 2 _ _ _ hb5
    simp only [List.getElem?_toArray, List.getElem?_cons_succ, List.getElem?_cons_zero] at d4 d5
    cases hg : getP key ps with
    | none =>
      have HE := Lib.hid (fun k => hov5.fin_more hf5 (by rw [hfl]; simp [hg]) k)
      clear hov5 HSP2
      go_wp2_with fail
      go_ret2
      exact ⟨by simp [hg], (HE.out 0).1, hbw.trans (HE.out 0).2⟩
    | some y =>
      have HE := Lib.hid (fun k => hov5.fin_same hf5 (by rw [hfl]; simp [hg]) k)
      clear hov5 HSP2
      go_wp2_with fail
      go_ret2
      exact ⟨by simp [hg], (HE.out 0).1, hbw.trans (HE.out 0).2⟩
  · have hcmp : decide ((o : Int) < ((fill d t' : Nat) : Int)) = false := by rw [decide_eq_false_iff_not]; omega
    have hcmp2 : decide (o < fill d t') = false := by rw [decide_eq_false_iff_not]; omega
    have hcmp3 : ¬ o < fill d t' := by omega
    have HLE := Lib.hid hle
    clear hle
    cases hg : getP key ps with
    | none =>
      have HE := Lib.hid (fun k => HOV.out.fin_more HLE.out (by rw [hfl]; simp [hg]) k)
      generalize fill d t' = fd at *
      go_wp2_with fail
      go_quiet (first | (go_at_call 41; exact quietSame (HFL.out _)))
      go_wp2_with fail
      go_ret2
      exact ⟨by simp [hg], (HE.out _).1, hbw.trans (HE.out _).2⟩
    | some y =>
      have HE := Lib.hid (fun k => HOV.out.fin_same HLE.out (by rw [hfl]; simp [hg]) k)
      generalize fill d t' = fd at *
      go_wp2_with fail
      go_quiet (first | (go_at_call 41; exact quietSame (HFL.out _)))
      go_wp2_with fail
      go_ret2
      exact ⟨by simp [hg], (HE.out _).1, hbw.trans (HE.out _).2⟩

/-- What remove leaves of a whole tree: its root may hold one alone. -/
structure Rest (F : Nat → Prop) (m o : Nat) (w0 w : World) (M : Nodes) (O : Own') (tb d a : Nat) (t : T d) (fp : List Nat) (n : Nat) (ps : List PE) : Prop where
  store : Store w M O
  fr : Fr F w0 w
  top : O tb = .top
  low : Out F w O
  blk : w.heap[tb]? = some (.cells #[.int .i64 o, ptr a, .int .i64 n] 87 (0, 0))
  rep : Rep M d a t fp
  nd : fp.Nodup
  ok : Ok m o d t
  root : d = 0 ∨ 1 ≤ fill d t
  full : fill d t ≤ o
  len : ps.length = (flat d t).length
  holds : (flat d t).map pr = ps

theorem Rest.notF {F : Nat → Prop} {m o : Nat} {w2 w3 : World} {M : Nodes} {O : Own'} {tb d a : Nat} {t : T d} {fp : List Nat} {n : Nat} {ps : List PE} (h : Rest F m o w2 w3 M O tb d a t fp n ps) : ¬ F tb := fun hl => (h.low tb hl).2.2.1 h.top
theorem Rest.same {F : Nat → Prop} {m o : Nat} {w2 w3 : World} {M : Nodes} {O : Own'} {tb d a : Nat} {t : T d} {fp : List Nat} {n : Nat} {ps : List PE} (h : Rest F m o w2 w3 M O tb d a t fp n ps) (hr : d = 0 ∨ 2 ≤ fill d t) (hn : n = ps.length) : TreeF F m o w3 tb ps ∧ Fr F w2 w3 := by
  subst hn
  exact ⟨⟨M, O, d, a, t, fp, ⟨h.store, h.top, fun _ hk => absurd hk (Nat.not_lt_zero _), h.blk, h.rep, h.nd, h.ok, hr, h.full, h.len⟩, h.holds, h.low⟩, h.fr⟩
theorem Rest.keep {F : Nat → Prop} {m o : Nat} {w2 w3 : World} {M : Nodes} {O : Own'} {tb d a : Nat} {t : T d} {fp : List Nat} {n n1 : Nat} {ps : List PE} (h : Rest F m o w2 w3 M O tb d a t fp n ps) (hr : d = 0 ∨ 2 ≤ fill d t) (hn : n1 = ps.length) :
    TreeF F m o (w3.setCell ⟨tb, 2, none⟩ (.int .i64 (n1 : Int))) tb ps ∧ Fr F w2 (w3.setCell ⟨tb, 2, none⟩ (.int .i64 (n1 : Int))) := by
  subst hn
  refine ⟨⟨M, O, d, a, t, fp, ⟨h.store.setTop h.top 2 _, h.top, fun _ hk => absurd hk (Nat.not_lt_zero _), ?_, h.rep, h.nd, h.ok, hr, h.full, h.len⟩, h.holds, h.low.below (by rw [setCell_size]; exact Nat.le_refl _)⟩, h.fr.setCell h.notF _⟩
  rw [heap_setCell_at h.blk]
  rfl
/-- The root's one child is the root. -/
theorem Rest.down {F : Nat → Prop} {m o : Nat} (hO : Order m o) {w2 w3 : World} {M : Nodes} {O : Own'} {tb d a : Nat} {t : T (d + 1)} {fp : List Nat} {n n1 : Nat} {ps : List PE} (h : Rest F m o w2 w3 M O tb (d + 1) a t fp n ps) {cs : List Nat} {fps : List (List Nat)} (hz : Z3 (Rep M d) cs t.2 fps) (hfp : fp = a :: fps.flatten) (h1 : t.2.length = 1) {b : Nat} (hb : cs[0]? = some b) (hn : n1 = ps.length) :
    TreeF F m o ((w3.setCell ⟨tb, 1, none⟩ (ptr b)).setCell ⟨tb, 2, none⟩ (.int .i64 (n1 : Int))) tb ps ∧ Fr F w2 ((w3.setCell ⟨tb, 1, none⟩ (ptr b)).setCell ⟨tb, 2, none⟩ (.int .i64 (n1 : Int))) := by
  subst hn
  obtain ⟨c, hc⟩ : ∃ c, t.2[0]? = some c := ⟨_, List.getElem?_eq_getElem (by omega)⟩
  obtain ⟨f, hf, hr⟩ : ∃ f, fps[0]? = some f ∧ Rep M d b c f := by
    obtain ⟨a', f, q1, q2, q3⟩ := hz.at_ hc
    rw [hb] at q1
    injection q1 with q1
    subst q1
    exact ⟨f, q2, q3⟩
  have hnd : f.Nodup := by
    have := h.nd
    rw [hfp] at this
    exact (List.pairwise_flatten.1 (List.nodup_cons.1 this).2).1 f (List.mem_of_getElem? hf)
  have hcok := h.ok.2 c (List.mem_of_getElem? hc)
  have ht : t.2 = [c] := by
    match hts : t.2, h1, hc with
    | [x], _, hc => simpa using hc
  have hfl : flat (d + 1) t = flat d c := by
    show List.flatMap (flat d) t.2 = _
    rw [ht]; simp
  have hb1 := heap_setCell_at (i := 1) h.blk (ptr b)
  have hm2 : 2 ≤ m := by have := hO.lo; have := hO.eq; omega
  refine ⟨⟨M, O, d, b, c, f, ⟨(h.store.setTop h.top 1 _).setTop h.top 2 _, h.top, fun _ hk => absurd hk (Nat.not_lt_zero _), ?_, hr, hnd, hcok.1, .inr (by omega), hcok.2.2, by rw [h.len, hfl]⟩, by rw [← hfl]; exact h.holds, h.low.below (by rw [setCell_size, setCell_size]; exact Nat.le_refl _)⟩, (h.fr.setCell h.notF _).setCell h.notF _⟩
  rw [heap_setCell_at hb1]
  rfl

/-- What Delete leaves. -/
def DelPost (F : Nat → Prop) (m o : Nat) (w : World) (tb : Nat) (ps : List PE) (key : Row) (e : Ending) (w' : World) : Prop :=
  e = .returned (.int .i64 (if (getP key ps).isSome then 0 else 4)) ∧ TreeF F m o w' tb (delP key ps) ∧ Fr F w w'

theorem del_mid {K F : Nat → Prop} {m o : Nat} (hO : Order m o) {w w1 : World} {M : Nodes} {O : Own'} {tb d a : Nat} {t : T d} {fp : List Nat} {n : Nat} (hF : Out F w O) (hT : TreeIn 0 m o w M O tb d a t fp n) (hb1 : Below w.heap.size w w1) {key : Row} {A : Option Addr} (c : Nat)
    (hK : ∀ k, K k → k < w.heap.size ∧ ¬ (O k).mine) (hk : Elems 3 Val.cs w K A key) (hkl : key.length ≤ 12) :
    Calls Try.prog 53 #[ptr tb, ptr a, .slice A key.length c] w1 fun e w3 => e = .returned (.bool (getP key ((flat d t).map pr)).isSome) ∧ ∃ M3 O3 t' fp', Rest F m o w w3 M3 O3 tb d a t' fp' n (delP key ((flat d t).map pr)) ∧ (getP key ((flat d t).map pr) = none → t' = t) := by
  have hT1 := hT.below hb1
  have hcell : w1.cell? ⟨tb, 0, none⟩ = some (.int .i64 o) := by rw [cell_of_row _ _ _ _ _ _ hT1.blk]; rfl
  refine (removeW hO A c key hkl w1 M O hT1.store hT.top hcell hT.rep hT.nd (fun k hk => ⟨Nat.lt_of_lt_of_le (hK k hk).1 hb1.size, (hK k hk).2⟩) (hk.keep (Keeps.of_below hb1 fun k hk => (hK k hk).1)) hT.ok hT.root hT.full).mono ?_
  rintro e w3 ⟨M3, O3, t', fp', rfl, hS, hr, hch, hok, hfl, hf1, hf2, hsm⟩
  have hfe : (flat d t').map pr = delP key ((flat d t).map pr) := by rw [hfl, map_del]
  refine ⟨by rw [get_map], M3, O3, t', fp', ⟨hS.store, (Fr.of_below hb1 fun k hk => (hF k hk).1).trans (hS.fr (hF.below hb1.size)), hS.ownTop hT1.store hT.top, hS.out (hF.below hb1.size), (hS.keep tb hT1.lt (by rw [hT.top]; exact fun h => h)).trans hT1.blk, hr, hch.nd, hok, hT.root.imp id fun h => by omega, by have := hT.full; omega, ?_, hfe⟩, fun h => hsm (by rw [get_map]; exact h)⟩
  rw [← hfe, List.length_map]

theorem len_delP (k : Row) : ∀ ps : List PE, (delP k ps).length + (if (getP k ps).isSome then 1 else 0) = ps.length
  | [] => rfl
  | x :: xs => by
    have ih := len_delP k xs
    unfold delP getP
    split
    · rw [List.length_cons, List.length_cons]; omega
    · split <;> simp

set_option maxRecDepth 100000 in
set_option maxHeartbeats 4000000 in
theorem deleteW {F : Nat → Prop} {m o tb : Nat} (hO : Order m o) {ps : List PE} (w : World) (hT : TreeF F m o w tb ps) (A : Option Addr) (c : Nat) (key : Row) (hk : Elems 3 Val.cs w F A key) (he : rErr key = 0) (hkl : key.length ≤ 12) (hn : ps.length ≤ 1000) :
    Calls Try.prog 31 #[ptr tb, .slice A key.length c] w (DelPost F m o w tb ps key) := by
  obtain ⟨M, O, d, a, t, fp, hT, hps, hF⟩ := hT
  have hK : ∀ k, F k → k < w.heap.size ∧ ¬ (O k).mine := fun k hk => ⟨(hF k hk).1, (hF k hk).2.1⟩
  have HFF := Lib.hid hF
  have HKK := Lib.hid hK
  have HCR := Lib.hid (checkRow A c key w (hk.more fun k hk => (hK k hk).1) (by unfold maxLen; omega))
  rw [he] at HCR
  have HT := Lib.hid hT
  have HPS := Lib.hid hps
  have HK := Lib.hid hk
  clear hT hF hps hk hK
  go_enter Try.func31, Try.ntmps31
  go_wp2_with fail
  refine HCR.out.mono ?_
  rintro e w1 ⟨rfl, hb1⟩
  have hT1 := HT.out.below hb1
  have ca : w1.cell? ⟨tb, 1, none⟩ = some (ptr a) := by rw [cell_of_row _ _ _ _ _ _ hT1.blk]; rfl
  have HRM := Lib.hid (del_mid hO HFF.out HT.out hb1 c HKK.out HK.out hkl)
  rw [HPS.out] at HRM
  clear hT1 hb1
  go_wp2_with fail
  refine HRM.out.mono ?_
  rintro e w3 ⟨rfl, M3, O3, t', fp', hR, hsm⟩
  have hlen := len_delP key ps
  cases hg : getP key ps with
  | none =>
    have hP : Hid (DelPost F m o w tb ps key (.returned (.int .i64 4)) w3) := Lib.hid (by
      have htt := hsm hg
      subst htt
      rw [hg] at hlen
      obtain ⟨h1, h2⟩ := hR.same HT.out.root (by simpa using hlen.symm)
      exact ⟨by rw [hg]; rfl, h1, h2⟩)
    clear hR hsm hlen
    go_wp2_with fail
    go_ret
    exact hP.out
  | some y =>
    obtain ⟨n, hn1⟩ : ∃ n, n = ps.length := ⟨_, rfl⟩
    obtain ⟨n1, hn2⟩ : ∃ n1, n1 = (delP key ps).length := ⟨_, rfl⟩
    rw [hg] at hlen
    have hnn : n = n1 + 1 := by rw [hn1, hn2]; simpa using hlen.symm
    have hw1 : (n : Int) - 1 = (n1 : Int) := by omega
    have hn1000 : n ≤ 1000 := by omega
    have hw2 : IntKind.i64.wrap ((n : Int) - 1) = (n1 : Int) := by rw [IntKind.wrap_i64]; omega
    have hblk := hR.blk
    rw [← hn1] at hblk
    have c1 : w3.cell? ⟨tb, 1, none⟩ = some (ptr a) := by rw [cell_of_row _ _ _ _ _ _ hblk]; rfl
    have c2 : w3.cell? ⟨tb, 2, none⟩ = some (.int .i64 (n : Int)) := by rw [cell_of_row _ _ _ _ _ _ hblk]; rfl
    have f1 := frozen_of_row w3 tb 1 _ _ hblk
    have f2 := frozen_of_row w3 tb 2 _ _ hblk
    have HR := Lib.hid hR
    have HN2 := Lib.hid hn2
    have HRE : Hid (∀ w', TreeF F m o w' tb (delP key ps) ∧ Fr F w w' → DelPost F m o w tb ps key (.returned (.int .i64 0)) w') := Lib.hid fun w' h => ⟨by rw [hg]; rfl, h.1, h.2⟩
    clear hblk hlen hn1 hn2 hsm hnn
    cases d with
    | zero =>
      obtain ⟨es, hes, hm, -⟩ := HR.out.rep
      obtain ⟨V, hV⟩ := hR.store.at_ a _ hm
      obtain ⟨A0, c0, A1, c1', A2, c2', e0, e1, e2, h0, h1, h2, hfr, o0, o1, o2⟩ := hV.cells
      simp only [List.length_nil] at h2
      have HE := Lib.hid (HRE.out _ (HR.out.keep (.inl rfl) HN2.out))
      clear hR hV hm hes h0 h1 hfr o0 o1 o2 e0 e1 e2 HRE
      go_wp2_with fail
      go_ret
      exact HE.out
    | succ d =>
      obtain ⟨cs, fps, hm, hz, hfp⟩ := HR.out.rep
      have hzl := hz.len
      obtain ⟨V, hV⟩ := hR.store.at_ a _ hm
      have h1r : 1 ≤ t'.2.length := by
        rcases hR.root with h | h
        · cases h
        · exact h
      obtain ⟨b, hb⟩ : ∃ b, cs[0]? = some b := ⟨_, List.getElem?_eq_getElem (by omega)⟩
      obtain ⟨g2, k2, e2, q2, qi, -, hcl2, hcm2⟩ := hV.child hb
      simp only at q2
      rcases Nat.eq_or_lt_of_le h1r with h1 | h1
      · have hc1 : cs.length = 1 := by omega
        rw [hc1] at q2
        have HE := Lib.hid (HRE.out _ (HR.out.down hO hz hfp h1.symm hb HN2.out))
        have hz01 : (0 : Int) < 1 := by omega
        clear hR hV hm hz hfp hzl e2 hcl2 hcm2 HRE hb h1 hc1
        go_wp2_with fail
        go_ret
        exact HE.out
      · obtain ⟨nc, hnc⟩ : ∃ nc, nc = cs.length := ⟨_, rfl⟩
        rw [← hnc] at q2
        have hx1 : ¬ (nc : Int) = 1 := by omega
        have hx2 : ((nc : Int) == 1) = false := by rw [beq_eq_false_iff_ne]; exact hx1
        have hx3 : ¬ nc = 1 := by omega
        have hx4 : (nc == 1) = false := by rw [beq_eq_false_iff_ne]; exact hx3
        have HE := Lib.hid (HRE.out _ (HR.out.keep (.inr h1) HN2.out))
        clear hR hV hm hz hfp hzl e2 hcl2 hcm2 HRE hb h1 hnc
        go_wp2_with fail
        go_ret
        exact HE.out
end Go.Proofs.Ytjdcnkbkbcfhfaa

namespace Go.Proofs.Ytjdcnkbkbcfhfaa
open Go.ChangeShapes Go.WideShapes Go.ChangeAt Go.RowKit Go.Deep

theorem Try.own : ownKnob Try.prog.godebug = none := by kernel_rfl
theorem Try.laidOut : laidOutB Try.prog = true := by kernel_rfl

section
variable {H : Type} {enc : TypeId × Value → H} {P : Program}

theorem trodAll_below (laid : laidOutB P = true) {W W' : World} (hb : Below W.heap.size W W') : ∀ (ts : List TypeId) (vs : List Value) (ds : List (DataW H)) (ps : List MemPlace),
    (∀ t ∈ ts, P.readableRec t = true ∧ t < P.types.size) → DataW.TrodAll enc P W 0 (fun _ => true) true ts vs ds ps → (∀ x ∈ ps, x.block < W.heap.size) →
    DataW.TrodAll enc P W' 0 (fun b => decide (b < W.heap.size)) true ts vs ds ps
  | [], [], [], ps, _, h, _ => h
  | t :: ts, v :: vs, d :: ds, ps, hr, h, hlt => by
    obtain ⟨p, q, h1, h2, rfl⟩ := h
    exact ⟨p, q, Below.trod laid (hr t (by simp)).1 (hr t (by simp)).2 h1 hb (fun x hx => hlt x (by simp [hx])), trodAll_below laid hb ts vs ds q (fun t ht => hr t (by simp [ht])) h2 (fun x hx => hlt x (by simp [hx])), rfl⟩

/-- A law's row out of its walk. -/
theorem law_post {f : Func} {s : ChangeSpec} {apart fresh handsOn : Bool} {W W' : World} {args : Array Value} {ds gs : List (DataW H)} {before : List MemPlace} {tb : TypeId}
    (laid : laidOutB P = true) (hr : ∀ t ∈ f.params.toList, P.readableRec t = true ∧ t < P.types.size) (hrt : f.resultTypes = #[tb]) (htb : P.underlying tb = some .bool)
    (hv : s.vars = []) (hW : DataW.Whole enc P f.params.toList s.vars apart W args.toList ds gs before)
    (h1 : (s.fn H (ds ++ gs)).results = [.lit (.bool true)]) (h2 : (s.fn H (ds ++ gs)).args = ds) (h3 : (s.fn H (ds ++ gs)).vars = []) (hb : Below W.heap.size W W') :
    s.post enc P f apart fresh handsOn false W args (.bool true) W' := by
  have hlt := hW.lt
  have hW0 := hW
  obtain ⟨p, q, hA, hV, rfl, _, _⟩ := hW
  rw [hv] at hV
  obtain ⟨rfl, rfl⟩ := trodVars_none hV
  refine ⟨ds, [], p ++ [], [], p, [], hW0, ?_, ?_, ?_, hb.frame _, fun h => by cases h⟩
  · rw [h1, hrt]
    exact trodAll_mk1 (shut_bool htb true)
  · rw [h2]
    exact trodAll_below laid hb _ _ _ _ hr hA (fun x hx => hlt x (by simp [hx]))
  · rw [h3, hv]
    exact rfl
end

theorem cellsOf_int : Try.prog.cellsOf 3 = 1 := by kernel_rfl

theorem wf_i64 {n : Int} (h : (Lit.int .i64 n).wf = true) : -9223372036854775808 ≤ n ∧ n ≤ 9223372036854775807 := by
  exact bounds_i64 h

/-- An integer of a slice of integers. -/
def intCs (n : Int) : List Value := [.int .i64 n]
theorem intLay : Lay 1 intCs := ⟨fun _ => rfl, fun x c hc => by simp [intCs] at hc; subst hc; rfl⟩
def I64 (n : Int) : Prop := -9223372036854775808 ≤ n ∧ n ≤ 9223372036854775807

section
variable {H : Type} {enc : TypeId × Value → H} {w : World} {base : Nat} {spare : Nat → Bool} {held : Bool} {fuel : Nat}

/-- Any slice that came in, its elements read by 'R'. -/
theorem open_elems {α : Type} {t e : TypeId} {sz : Nat} {csf : α → List Value} {ok : α → Prop} (ht : Try.prog.underlying t = some (.slice e)) (hC : Try.prog.cellsOf e = sz) (hsz : 0 < sz) (hlen : ∀ a, (csf a).length = sz)
    (R : ∀ (n : Nat) (cs : List Value) (x : DataW H × List MemPlace), DataW.trod enc Try.prog w base spare held n e cs = some x → ∃ a, cs = csf a ∧ ok a)
    {cs : List Value} {x : DataW H × List MemPlace} (h : DataW.trod enc Try.prog w base spare held fuel t cs = some x) :
    ∃ (A : Option Addr) (c : Nat) (r : List α), cs = [.slice A r.length c] ∧ r.length ≤ c ∧ c ≤ maxLen ∧ Elems sz csf w (fun k => base ≤ k ∧ k < w.heap.size) A r ∧ ∀ a ∈ r, ok a := by
  rcases open_slice ht h with ⟨rfl, _⟩ | ⟨a, len, cap, m, n, D, Pl, rfl, hb, hl, hm, hmm, _, hi⟩
  · exact ⟨none, 0, [], rfl, by simp, by unfold maxLen; omega, Elems.nil _ _ _, by simp⟩
  · have hml : len ≤ m := by rw [hmm]; split <;> omega
    have key : ∀ i, i < len → ∃ y : α, ok y ∧ ∀ j u, (csf y)[j]? = some u → w.cell? (a.add (i * sz + j)) = some u := by
      intro i hil
      obtain ⟨cs', hc, ht'⟩ := hi i (by omega)
      rw [hC] at hc
      obtain ⟨y, rfl, hok⟩ := R _ _ _ ht'
      obtain ⟨_, _, hat⟩ := World.cells?_some hc
      refine ⟨y, hok, fun j u hu => ?_⟩
      have hj : j < sz := by rw [← hlen y]; exact (List.getElem?_eq_some_iff.1 hu).1
      rw [← Go.Deep.add_add, hat j hj]
      exact hu
    have build : ∀ k, k ≤ len → ∃ r : List α, r.length = k ∧ (∀ y ∈ r, ok y) ∧ ∀ i y, r[i]? = some y → ∀ j u, (csf y)[j]? = some u → w.cell? (a.add (i * sz + j)) = some u := by
      intro k
      induction k with
      | zero => exact fun _ => ⟨[], rfl, by simp, by simp⟩
      | succ k ih =>
        intro hk
        obtain ⟨r, hr, hok, hc⟩ := ih (by omega)
        obtain ⟨y, hy, hyc⟩ := key k (by omega)
        refine ⟨r ++ [y], by simp [hr], fun z hz => ?_, fun i z hz j u hu => ?_⟩
        · rcases List.mem_append.1 hz with hz | hz
          · exact hok z hz
          · simp at hz; subst hz; exact hy
        · by_cases hik : i < r.length
          · rw [List.getElem?_append_left hik] at hz
            exact hc i z hz j u hu
          · rw [List.getElem?_append_right (by omega)] at hz
            have hi0 : i - r.length = 0 := by
              rcases Nat.eq_zero_or_pos (i - r.length) with h0 | h0
              · exact h0
              · rw [List.getElem?_eq_none (by simp; omega)] at hz; cases hz
            rw [hi0] at hz
            simp at hz
            subst hz
            have : i = k := by omega
            subst this
            exact hyc j u hu
    obtain ⟨r, hr, hok, hc⟩ := build len (Nat.le_refl _)
    refine ⟨some a, cap, r, by rw [hr], by omega, hm, fun hn => ?_, hok⟩
    have hc0 : ∃ u, w.cell? a = some u := by
      have h0 : r[0]? = some r[0] := List.getElem?_eq_getElem hn
      have hl0 : 0 < (csf r[0]).length := by rw [hlen]; exact hsz
      have := hc 0 _ h0 0 _ (List.getElem?_eq_getElem hl0)
      rw [Nat.zero_mul, Nat.add_zero] at this
      exact ⟨_, by simpa [Addr.add] using this⟩
    obtain ⟨u, hu⟩ := hc0
    have hlt := World.block_lt_of_cell? w a hu
    obtain ⟨b, off, sp⟩ := a
    have hsp : sp = none := by
      cases sp with
      | none => rfl
      | some z =>
        unfold World.cell? at hu
        split at hu
        · simp at hu
        · cases hu
    subst hsp
    refine ⟨b, off, rfl, ⟨hb, hlt⟩, fun i y hy j v hv => ?_⟩
    have := hc i y hy j v hv
    rw [Addr.add_lit] at this
    rw [Nat.add_assoc]
    exact this

theorem open_int_el {cs : List Value} {x : DataW H × List MemPlace} (h : DataW.trod enc Try.prog w base spare held fuel 3 cs = some x) : ∃ n : Int, cs = intCs n ∧ I64 n := by
  obtain ⟨n, rfl, _, hw⟩ := DataW.trod_int Try.underlying3 h
  exact ⟨n, rfl, wf_i64 hw⟩
/-- A slice of integers that came in. -/
theorem open_ints_ {t : TypeId} (ht : Try.prog.underlying t = some (.slice 3)) {cs : List Value} {x : DataW H × List MemPlace} (h : DataW.trod enc Try.prog w base spare held fuel t cs = some x) :
    ∃ (A : Option Addr) (c : Nat) (r : List Int), cs = [.slice A r.length c] ∧ r.length ≤ c ∧ c ≤ maxLen ∧ Elems 1 intCs w (fun k => base ≤ k ∧ k < w.heap.size) A r ∧ ∀ a ∈ r, I64 a :=
  open_elems (sz := 1) (csf := intCs) ht cellsOf_int (by omega) (fun _ => rfl) (fun _ _ _ hx => open_int_el hx) h
end

end Go.Proofs.Ytjdcnkbkbcfhfaa
