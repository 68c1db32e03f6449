/-
  The walk of Stats; how deep a tree is.
  The walks of checkKey, Size, read, Get.
  The walk of Put of a heap file.
  The walk of ascend, with a visitor by its contract.
-/
import Derived.Test.YtjdcnkbkbcfhfaaHm18
import Derived.Test.YtjdcnkbkbcfhfaaHm16
import Derived.Test.YtjdcnkbkbcfhfaaHm17
import Derived.Deep.QuietTactic
import Derived.BigQuiet
import Derived.Test.YtjdcnkbkbcfhfaaHm10
import Derived.Test.YtjdcnkbkbcfhfaaHm09
import Derived.Deep.RegionLaw
import Derived.Deep.CutRange
namespace Go.Proofs.Ytjdcnkbkbcfhfaa
open Go.RowKit Go.Sort

theorem flatMap_len {τ : Type} (f : τ → List Ent) (k : Nat) : ∀ (ts : List τ), (∀ t ∈ ts, k ≤ (f t).length) → ts.length * k ≤ (ts.flatMap f).length
  | [], _ => by simp
  | t :: ts, h => by
    rw [List.flatMap_cons, List.length_append, List.length_cons, Nat.succ_mul]
    have h1 := h t List.mem_cons_self
    have h2 := flatMap_len f k ts fun x hx => h x (List.mem_cons_of_mem _ hx)
    omega
theorem size_le {m o : Nat} : ∀ {d : Nat} {t : T d}, Ok m o d t → m ≤ fill d t → m ^ (d + 1) ≤ (flat d t).length
  | 0, t, _, hf => by
    rw [Nat.zero_add, Nat.pow_one]
    exact hf
  | d + 1, t, h, hf => by
    have h1 := flatMap_len (flat d) (m ^ (d + 1)) t.2 fun c hc => size_le (h.2 c hc).1 (h.2 c hc).2.1
    have h2 : m ≤ t.2.length := hf
    have h3 : m * m ^ (d + 1) ≤ t.2.length * m ^ (d + 1) := Nat.mul_le_mul_right _ h2
    show m ^ (d + 2) ≤ (t.2.flatMap (flat d)).length
    rw [Nat.pow_succ, Nat.mul_comm]
    omega
theorem size_root {m o : Nat} {d : Nat} {t : T d} (h : Ok m o d t) (hr : d = 0 ∨ 2 ≤ fill d t) : d = 0 ∨ 2 * m ^ d ≤ (flat d t).length := by
  cases d with
  | zero => exact .inl rfl
  | succ d =>
    right
    have hr : 2 ≤ t.2.length := by
      rcases hr with h | h
      · cases h
      · exact h
    have h1 := flatMap_len (flat d) (m ^ (d + 1)) t.2 fun c hc => size_le (h.2 c hc).1 (h.2 c hc).2.1
    have h3 : 2 * m ^ (d + 1) ≤ t.2.length * m ^ (d + 1) := Nat.mul_le_mul_right _ hr
    show 2 * m ^ (d + 1) ≤ (t.2.flatMap (flat d)).length
    omega
theorem pow_gt (d : Nat) {m : Nat} (hm : 2 ≤ m) : d < m ^ d := Nat.lt_of_lt_of_le Nat.lt_two_pow_self (Nat.pow_le_pow_left hm d)

/-- What Stats leaves. -/
def StatsPost (w : World) (m n : Nat) (e : Ending) (w' : World) : Prop := ∃ (d : Nat) (x y : Int), e = .returned (stV n (d + 1) (d + 1) x y) ∧ (d = 0 ∨ 2 * m ^ d ≤ n) ∧ Below w.heap.size w w'

theorem ret_Stats {a b c x y : Int} {g : Nat} {w : World} (tmps : Array Value) (hp : tmps.getD 2 undef = .pointer (some ⟨g, 0, none⟩)) (hg : w.heap[g]? = some (.cells (stC a b c x y) 75 (0, 0))) :
    (results Try.f29 tmps).run Try.prog w = .ok (stV a b c x y) w :=
  results_cell_row (P := Try.prog) Try.results29 tmps w g 75 _ (0, 0) _ hp hg Try.underlying75 rfl (by kernel_rfl)

set_option maxRecDepth 100000 in
set_option maxHeartbeats 4000000 in
theorem treeStatsW {base m o tb : Nat} (hO : Order m o) {ps : List PE} (w : World) (hT : TreeAt base m o w tb ps) (hn : ps.length ≤ 1000) :
    Calls Try.prog 29 #[ptr tb] w (StatsPost w m ps.length) := by
  obtain ⟨M, O, d, a, t, fp, hT, hps⟩ := hT
  have hm2 : 2 ≤ m := by have := hO.lo; have := hO.eq; omega
  have hsz := size_root hT.ok hT.root
  rw [← hT.len] at hsz
  have hd : d ≤ 1000 := by
    rcases hsz with h | h
    · omega
    · have := pow_gt d hm2; omega
  obtain ⟨w1, hw1⟩ : ∃ w1, w1 = w.alloc (.cells (stC 0 0 0 0 0) 75) := ⟨_, rfl⟩
  have hb1 : Below w.heap.size w w1 := by rw [hw1]; exact (Below.refl _ _).alloc (Nat.le_refl _) _
  have hT1 := hT.below hb1
  have k0 : w1.heap[w.heap.size]? = some (.cells (stC 0 0 0 0 0) 75 (0, 0)) := by rw [hw1]; exact heap_alloc_new w _
  have c1 : w1.cell? ⟨tb, 1, none⟩ = some (ptr a) := by rw [cell_of_row _ _ _ _ _ _ hT1.blk]; rfl
  have c2 : w1.cell? ⟨tb, 2, none⟩ = some (.int .i64 ps.length) := by rw [cell_of_row _ _ _ _ _ _ hT1.blk]; rfl
  have HST := Lib.hid (statsW hO w1 M O hT1.store hT1.rep hT1.ok (hT1.root.imp id fun h => by omega) (by have := hO.hi; have := hT1.full; omega) hd)
  have HSZ := Lib.hid hsz
  have HW1 := Lib.hid hw1
  have HB1 := Lib.hid hb1
  have HK0 := Lib.hid k0
  have htl := hT1.lt
  have hwl : w.heap.size < w1.heap.size := by rw [hw1]; simp
  have c1' := c1
  rw [hw1] at c1'
  clear hT hps hw1 hb1 hT1 k0 hsz
  go_enter Try.func29, Try.ntmps29
  go_wp2_with fail
  rw [← HW1.out]
  refine HST.out.mono ?_
  rintro e w2 ⟨x, y, rfl, hb2⟩
  have q2 : w2.cell? ⟨tb, 2, none⟩ = some (.int .i64 ps.length) := (hb2.cell htl).trans c2
  obtain ⟨w3, hw3⟩ : ∃ w3, w3 = w2.alloc (.cells (stC 0 (d + 1) (d + 1) x y) 75) := ⟨_, rfl⟩
  have l0 : w3.heap[w.heap.size]? = some (.cells (stC 0 0 0 0 0) 75 (0, 0)) := by
    rw [hw3, Below.heap_alloc _ _ _ (Nat.lt_of_lt_of_le hwl hb2.size), hb2.block _ hwl]
    exact HK0.out
  have l1 : w3.heap[w2.heap.size]? = some (.cells (stC 0 (d + 1) (d + 1) x y) 75 (0, 0)) := by rw [hw3]; exact heap_alloc_new w2 _
  have q3 : w3.cell? ⟨tb, 2, none⟩ = some (.int .i64 ps.length) := by
    rw [hw3]
    exact (((Below.refl _ _).alloc (Nat.le_refl _) _).cell (p := ⟨tb, 2, none⟩) (Nat.lt_of_lt_of_le htl hb2.size)).trans q2
  have hbw : Below w.heap.size w w3 := by
    rw [hw3]
    exact (HB1.out.trans (hb2.mono HB1.out.size)).alloc (Nat.le_trans HB1.out.size hb2.size) _
  have a0 := cell_of_row _ _ 0 _ _ _ l1
  have a1 := cell_of_row _ _ 1 _ _ _ l1
  have a2 := cell_of_row _ _ 2 _ _ _ l1
  have a3 := cell_of_row _ _ 3 _ _ _ l1
  have a4 := cell_of_row _ _ 4 _ _ _ l1
  have b0 := cell_of_row _ _ 0 _ _ _ l0
  have b1 := cell_of_row _ _ 1 _ _ _ l0
  have b2 := cell_of_row _ _ 2 _ _ _ l0
  have b3 := cell_of_row _ _ 3 _ _ _ l0
  have b4 := cell_of_row _ _ 4 _ _ _ l0
  simp only [List.getElem?_toArray, List.getElem?_cons_succ, List.getElem?_cons_zero] at a0 a1 a2 a3 a4 b0 b1 b2 b3 b4
  have fa := fun k => frozen_of_row _ w2.heap.size k _ _ l1
  have fb := fun k => frozen_of_row _ w.heap.size k _ _ l0
  have hne : ¬ w.heap.size = w2.heap.size := by have := hb2.size; omega
  have hne2 : ¬ w2.heap.size = w.heap.size := by omega
  have HL0 := Lib.hid l0
  have HBW := Lib.hid hbw
  have HW3 := Lib.hid hw3
  have hle : w.heap.size ≤ w2.heap.size := by have := hb2.size; omega
  clear hb2 l0 l1 hw3 hbw q2 c1 c2
  go_upto_region 2 with fail
  rw [← HW3.out]
  go_wp2_with fail
  have hfin : ((((((w3.setCell ⟨w2.heap.size, 0, none⟩ (.int .i64 ps.length)).setCell ⟨w.heap.size, 0, none⟩ (.int .i64 ps.length)).setCell ⟨w.heap.size, 1, none⟩ (.int .i64 (d + 1))).setCell ⟨w.heap.size, 2, none⟩ (.int .i64 (d + 1))).setCell ⟨w.heap.size, 3, none⟩ (.int .i64 x)).setCell ⟨w.heap.size, 4, none⟩ (.int .i64 y)).heap[w.heap.size]? = some (.cells (stC ps.length (d + 1) (d + 1) x y) 75 (0, 0)) := by
    rw [heap_setCell_at (heap_setCell_at (heap_setCell_at (heap_setCell_at (heap_setCell_at ((heap_setCell_off hne _).trans HL0.out) _) _) _) _)]
    rfl
  refine bodyPost_ret (ret_Stats _ rfl hfin) rfl ?_
  exact ⟨d, x, y, rfl, HSZ.out, (((((HBW.out.setCell (p := ⟨w2.heap.size, 0, none⟩) hle _).setCell (Nat.le_refl _) _).setCell (Nat.le_refl _) _).setCell (Nat.le_refl _) _).setCell (Nat.le_refl _) _).setCell (Nat.le_refl _) _⟩
end Go.Proofs.Ytjdcnkbkbcfhfaa

namespace Go.Proofs.Ytjdcnkbkbcfhfaa
open Go.RowKit Go.Sort

theorem acc_enc {r : List Val} (h : rErr r = 0) : Acc (encR r) ∧ (dRow (encR r, false)).1 = r := by
  have h1 := dRow_enc h []
  rw [List.append_nil] at h1
  unfold Acc
  rw [h1]
  exact ⟨⟨rfl, h, rfl⟩, rfl⟩

/-- A key of the table. -/
structure KeyOk (t : Tbl) (k : Row) : Prop where
  len : k.length = t.pk.length
  err : rErr k = 0
  n12 : k.length ≤ 12
  col : ∀ (i : Nat) (h : i < k.length) (h' : i < t.pk.length), 0 ≤ t.pk[i] ∧ t.pk[i].toNat < t.cols.length ∧ k[i].kind ≠ 0 ∧ k[i].kind = (t.cols.getD t.pk[i].toNat col0).kind

set_option maxRecDepth 100000 in
set_option maxHeartbeats 4000000 in
theorem checkKeyW {F : Nat → Prop} {fb tb : Nat} {t : Tbl} {pgs : Pgs} {ps : List PE} (w : World) (h : FileT F w fb tb t pgs ps) (A : Option Addr) (c : Nat) (k : Row) (hx : Elems 3 Val.cs w (· < w.heap.size) A k) (hk : KeyOk t k) :
    Calls Try.prog 30 #[ptr fb, .slice A k.length c] w fun e w' => e = .returned (.int .i64 0) ∧ Below w.heap.size w w' := by
  obtain ⟨G, pv, xs, h, rfl⟩ := h
  have HCR := Lib.hid (checkRow A c k w hx (by have := hk.n12; unfold maxLen; omega))
  rw [hk.err] at HCR
  obtain ⟨n, hn⟩ : ∃ n, k.length = n := ⟨_, rfl⟩
  have hpn : t.pk.length = n := by rw [← hk.len, hn]
  obtain ⟨m, hm⟩ : ∃ m, t.cols.length = m := ⟨_, rfl⟩
  have HC1 : Hid (∀ W, Below w.heap.size w W → W.cell? ⟨fb, 1, none⟩ = some (.slice t.CA m t.cc)) := Lib.hid fun W hW => by rw [(h.more hW).c 1, ← hm]; rfl
  have HC2 : Hid (∀ W, Below w.heap.size w W → W.cell? ⟨fb, 2, none⟩ = some (.slice t.PA n t.pc)) := Lib.hid fun W hW => by rw [(h.more hW).c 2, ← hpn]; rfl
  have HX := Lib.hid hx
  have HTAB := Lib.hid fun W (hW : Below w.heap.size w W) => (h.more hW).tab
  have HK := Lib.hid hk
  have HN := Lib.hid (And.intro hn hpn)
  have hn12 : n ≤ 12 := by rw [← hn]; exact hk.n12
  rw [hn] at HCR ⊢
  have HM := Lib.hid hm
  clear h hx hk hn hpn hm
  go_enter Try.func30, Try.ntmps30
  go_wp2_with fail
  refine HCR.out.mono ?_
  rintro e w1 ⟨rfl, hb1⟩
  have c2 := HC2.out w1 hb1
  have HB1 := Lib.hid hb1
  clear hb1 HCR
  go_wp2_with fail
  go_loopw [28] (fun vi wr => ∃ i : Nat, vi = .int .i64 (i : Int) ∧ i ≤ n ∧ Below w.heap.size w wr) (fun vi _ => n - (intOf vi).toNat)
  case atStart => exact ⟨0, rfl, by omega, HB1.out⟩
  case round =>
    obtain ⟨i, rfl, hin, hb⟩ := hrel
    by_cases hlt : i < n
    · have hik : i < k.length := by have := HN.out.1; omega
      have hip : i < t.pk.length := by have := HN.out.2; omega
      obtain ⟨b, off, hA, hbs, p0⟩ := (HTAB.out wr hb).pk.int hip
      obtain ⟨hj0, hjl, hv0, hv1⟩ := HK.out.col i hik hip
      obtain ⟨j, hj⟩ := Int.eq_ofNat_of_zero_le hj0
      rw [hj, Int.toNat_natCast] at hjl hv1
      rw [hj] at p0
      obtain ⟨b2, off2, hA2, hbs2, q0, q1, q2⟩ := (HTAB.out wr hb).cols.col hjl
      have hgd : t.cols.getD j col0 = t.cols[j] := by rw [List.getD_eq_getElem?_getD, List.getElem?_eq_getElem hjl]; rfl
      rw [hgd] at hv1
      obtain ⟨b3, off3, rfl, hbs3, r0, r1, r2⟩ := (HX.out.on hb).val hik
      have c1 := HC1.out wr hb
      have c2 := HC2.out wr hb
      rw [hA2] at c1
      rw [hA] at c2 ⊢
      have hjm : (j : Int) < (m : Int) := by rw [← HM.out]; omega
      have hin' : (i : Int) < (n : Int) := by omega
      have g1 : (k[i].kind == 0) = false := by simp [hv0]
      have g2 : (k[i].kind != t.cols[j].kind) = false := by simp [hv1]
      have HB := Lib.hid hb
      have HBA : Hid (∀ m, Below w.heap.size w (wr.drewN m)) := Lib.hid fun m => below_drewN hb m
      clear hj0 hj hv0 hv1 hgd hb hbs hbs2 hbs3 hA hA2
      generalize t.cols[j] = cl at *
      generalize k[i] = v at *
      go_wp2_with fail
      go_quiet (fail)
      go_wp2_with fail
      go_roundw
      case rel => exact ⟨i + 1, by go_num, by omega, HBA.out _⟩
      case measure => simp [intOf]; omega
    · have hkn' : i = n := by omega
      subst hkn'
      have HB := Lib.hid hb
      clear hb
      go_wp2_with fail
      go_ret
      exact ⟨rfl, HB.out⟩

set_option maxRecDepth 100000 in
set_option maxHeartbeats 4000000 in
theorem sizeW {F : Nat → Prop} {fb tb : Nat} {t : Tbl} {pgs : Pgs} {ps : List PE} (w : World) (h : FileT F w fb tb t pgs ps) (hn : ps.length ≤ 1000) :
    Calls Try.prog 9 #[ptr fb] w fun e w' => e = .returned (.tuple #[.int .i64 ps.length, .int .i64 pgs.length]) ∧ Below w.heap.size w w' := by
  obtain ⟨G, pv, xs, h, rfl⟩ := h
  obtain ⟨A, c, rfl, hc1, hc2⟩ := h.pform
  rw [List.length_map]
  have hst : ∀ m, Calls Try.prog 29 #[ptr tb] (w.drewN m) fun e w' => ∃ x1 x2 x3 x4 : Int, e = .returned (stV ps.length x1 x2 x3 x4) ∧ Below w.heap.size w w' ∧ w'.cell? ⟨fb, 3, none⟩ = some (.slice A xs.length c) := fun m =>
    (treeStatsW ord24 (w.drewN m) (h.tree.at_.below (below_drewN (Below.refl _ _) m)) hn).mono fun e w' hh => by
      obtain ⟨d, x, y, h1, -, h3⟩ := hh
      have hb := (below_drewN (Below.refl w.heap.size w) m).trans h3
      exact ⟨_, _, _, _, h1, hb, by rw [(h.more hb).c 3]; rfl⟩
  have HST := Lib.hid hst
  have hfld : ∀ (W : World) (N : Nat) (x1 x2 x3 x4 : Int), (Instr.field 75 (stV N x1 x2 x3 x4) 0).run Try.prog W = .ok (.int .i64 N) W := fun W N x1 x2 x3 x4 => by kernel_rfl
  have c3 : w.cell? ⟨fb, 3, none⟩ = some (.slice A xs.length c) := by rw [h.c 3]; rfl
  have c4 : w.cell? ⟨fb, 4, none⟩ = some (ptr tb) := by rw [h.c 4]; rfl
  generalize xs.length = n at *
  generalize ps.length = N at *
  clear hst h hn
  go_enter Try.func9, Try.ntmps9
  go_upto_region 1 with fail
  go_region_law (first
    | (go_simp; go_at_call 29; refine (HST.out 1).mono ?_; rintro e w1 ⟨x1, x2, x3, x4, rfl, hb1, z3⟩))
  all_goals
    have HB1 := Lib.hid hb1
    clear hb1
    go_wp2_with fail
    go_ret2
    exact ⟨rfl, HB1.out⟩

/-- Bytes as numbers, and as bytes. -/
theorem elems_bytes {w : World} {S : Nat → Prop} {A : Option Addr} {ys : List UInt8} (h : Elems 1 nbCs w S A (ys.map UInt8.toNat)) : Elems 1 byteCs w S A ys := fun hp => by
  obtain ⟨b, off, e, hs, hc⟩ := h (by simpa using hp)
  refine ⟨b, off, e, hs, fun i x hx j u hu => hc i x.toNat (by rw [List.getElem?_map, hx]; rfl) j u ?_⟩
  exact hu

set_option maxRecDepth 100000 in
set_option maxHeartbeats 4000000 in
theorem readW {F : Nat → Prop} {fb tb : Nat} {t : Tbl} {pgs : Pgs} {ps : List PE} (w : World) (h : FileT F w fb tb t pgs ps) {i s : Nat} {r : Row} (hs : hat pgs i s = some (encN r)) (hs127 : s < 127) (he : rErr r = 0) (hn : pgs.length ≤ 1000) :
    Calls Try.prog 32 #[ptr fb, .int .i64 ((i * 256 + s : Nat) : Int)] w fun e w' => ∃ v, e = .returned v ∧ Own 3 Val.cs 44 w.heap.size w' v r ∧ Below w.heap.size w w' := by
  obtain ⟨G, pv, xs, h, rfl⟩ := h
  rw [List.length_map] at hn
  obtain ⟨hi0, hc0⟩ := hat_some hs
  rw [List.length_map] at hi0
  rw [List.getElem_map] at hc0
  obtain ⟨pb, c, cur, rfl, -, hc1, hc2, -, -⟩ := h.phead (by omega)
  obtain ⟨n, hxn⟩ : ∃ n, xs.length = n := ⟨_, rfl⟩
  have c3 : w.cell? ⟨fb, 3, none⟩ = some (.slice (some ⟨pb, 0, none⟩) n c) := by rw [h.c 3, ← hxn]; rfl
  obtain ⟨c0, -⟩ := h.pcell rfl hi0
  have hpg := h.page _ (List.getElem_mem hi0)
  have hg := getPage w hpg.1 hpg.2.1 s (by omega)
  rw [hc0] at hg
  have HG := Lib.hid hg
  have hlen := cont_len hpg.2.1 hc0
  rw [encN_len] at hlen
  have HLEN := Lib.hid hlen
  have HACC := Lib.hid (acc_enc he)
  have hin : (i : Int) < (n : Int) := by omega
  have hn1000 : n ≤ 1000 := by omega
  clear h hs hpg hc0 hg hlen hxn hn he
  generalize xs[i].g = pg at *
  generalize xs[i].c = pc at *
  obtain ⟨id, hid⟩ : ∃ id : Int, id = ((i * 256 + s : Nat) : Int) := ⟨_, rfl⟩
  have hq1 : id.tdiv 256 = (i : Int) := by rw [hid, Int.tdiv_eq_ediv_of_nonneg (by omega)]; omega
  have hq2 : id.tmod 256 = (s : Int) := by rw [hid, Int.tmod_eq_emod_of_nonneg (by omega)]; omega
  have hq3 : IntKind.i64.wrap (i : Int) = (i : Int) := by rw [IntKind.wrap_i64]; omega
  rw [← hid]
  clear hid
  go_enter Try.func32, Try.ntmps32
  go_wp2_with fail
  refine HG.out.mono ?_
  rintro e w1 ⟨hb1, v, rfl, hv⟩
  obtain ⟨A1, c1, rfl, hl1, hm1⟩ := hv.form
  have hel : Elems 1 byteCs w1 (· < w1.heap.size) A1 (encR r) := elems_bytes ((hv.elems nbLay.len rfl).more fun k hk => (Own.lt hv k hk).2)
  rw [encN_len] at hl1 ⊢
  have HD := Lib.hid (decodeRow_any A1 c1 (encR r) w1 hel hl1 hm1 (by have := HLEN.out; omega))
  have HB1 := Lib.hid hb1
  clear hb1 hv hel hl1 hm1
  go_wp2_with fail
  refine HD.out.mono ?_
  rintro e w2 ⟨hyes, -⟩
  obtain ⟨v2, rfl, ho2, hb2⟩ := hyes HACC.out.1
  rw [HACC.out.2] at ho2
  have HO2 := Lib.hid ho2
  have HB2 := Lib.hid (HB1.out.trans (hb2.mono HB1.out.size))
  clear hyes ho2 hb2
  go_wp2_with fail
  go_ret
  exact ⟨_, rfl, HO2.out.mono HB1.out.size, HB2.out⟩

set_option maxRecDepth 100000 in
set_option maxHeartbeats 4000000 in
theorem getFileW {F : Nat → Prop} {fb tb : Nat} {t : Tbl} {pgs : Pgs} {ps : List PE} (w : World) (h : FileT F w fb tb t pgs ps) (A : Option Addr) (c : Nat) (k : Row) (hx : Elems 3 Val.cs w (· < w.heap.size) A k) (hk : KeyOk t k) {f : Row → Row} (hinv : HInv pgs ps f) {id : Int} (hid : getP k ps = some id) (hn : pgs.length ≤ 1000) :
    Calls Try.prog 13 #[ptr fb, .slice A k.length c] w fun e w' => ∃ v, e = .returned (.tuple #[v, .int .i64 0]) ∧ Own 3 Val.cs 44 w.heap.size w' v (f k) ∧ Below w.heap.size w w' := by
  obtain ⟨i, s, hi, hs127, hat0, he⟩ := hinv.loc _ _ ((mem_getP h.ord).1 hid)
  have HCK := Lib.hid (checkKeyW w h A c k hx hk)
  have hg : ∀ W, Below w.heap.size w W → Calls Try.prog 24 #[ptr tb, .slice A k.length c] W fun e w' => e = .returned (getV (some id)) ∧ Below W.heap.size W w' := fun W hW => by
    obtain ⟨G, pv, xs, h, -⟩ := h
    rw [← hid]
    exact getW ord24 W (h.tree.at_.below hW) A c k (hx.on hW) hk.err hk.n12
  have HG := Lib.hid hg
  have HRD := Lib.hid fun W (hW : Below w.heap.size w W) => readW W (h.below hW) hat0 hs127 he hn
  have HC4 : Hid (∀ W, Below w.heap.size w W → W.cell? ⟨fb, 4, none⟩ = some (ptr tb)) := Lib.hid fun W hW => by
    obtain ⟨G, pv, xs, h, -⟩ := h
    rw [(h.more hW).c 4]
    rfl
  rw [← hi] at HRD
  clear hg hid hi hat0 he hk h hx hinv
  generalize f k = r at *
  generalize k.length = kl at *
  go_enter Try.func13, Try.ntmps13
  go_wp2_with fail
  refine HCK.out.mono ?_
  rintro e w1 ⟨rfl, hb1⟩
  have c4 := HC4.out w1 hb1
  have HG1 := Lib.hid (HG.out w1 hb1)
  have HB1 := Lib.hid hb1
  clear hb1
  go_wp2_with fail
  refine HG1.out.mono ?_
  rintro e w2 ⟨rfl, hb2⟩
  have HB2 := Lib.hid (HB1.out.trans (hb2.mono HB1.out.size))
  have HR2 := Lib.hid (HRD.out w2 HB2.out)
  clear hb2
  unfold getV
  go_wp2_with fail
  refine HR2.out.mono ?_
  rintro e w3 ⟨v, rfl, ho, hb3⟩
  have HO := Lib.hid (ho.mono HB2.out.size)
  have HB3 := Lib.hid (HB2.out.trans (hb3.mono HB2.out.size))
  clear ho hb3
  go_wp2_with fail
  go_ret2
  exact ⟨_, rfl, HO.out, HB3.out⟩
end Go.Proofs.Ytjdcnkbkbcfhfaa

namespace Go.Proofs.Ytjdcnkbkbcfhfaa
open Go.RowKit Go.Sort

section
variable {F : Nat → Prop} {fb tb : Nat} {t : Tbl} {pgs : Pgs} {ps : List PE} {w : World}
theorem FileT.c (h : FileT F w fb tb t pgs ps) : w.cell? ⟨fb, 0, none⟩ = some (.string t.name) ∧ w.cell? ⟨fb, 1, none⟩ = some (.slice t.CA t.cols.length t.cc) ∧ w.cell? ⟨fb, 2, none⟩ = some (.slice t.PA t.pk.length t.pc) ∧ w.cell? ⟨fb, 4, none⟩ = some (ptr tb) := by
  obtain ⟨G, pv, xs, h, -⟩ := h
  exact ⟨by rw [h.c 0]; rfl, by rw [h.c 1]; rfl, by rw [h.c 2]; rfl, by rw [h.c 4]; rfl⟩
theorem FileT.tok (h : FileT F w fb tb t pgs ps) : TOk (· < w.heap.size) w t := by
  obtain ⟨G, pv, xs, h, -⟩ := h
  exact h.tab.more fun k hk => h.lt k hk.1
theorem filePut (h : FileT F w fb tb t pgs ps) (A : Option Addr) (c : Nat) (key : Row) (v : Int) (hk : Elems 3 Val.cs w (· < w.heap.size) A key) (he : rErr key = 0) (hkl : key.length ≤ 12) (hn : ps.length ≤ 1000) :
    Calls Try.prog 25 #[ptr tb, .slice A key.length c, .int .i64 v] w fun e w' => e = .returned (.tuple #[.bool (getP key ps).isNone, .int .i64 0]) ∧ FileT F w' fb tb t pgs (insP (key, v) ps) ∧ Fr F w w' := by
  obtain ⟨G, pv, xs, h, h2⟩ := h
  exact (putF ord24 w h.tree A c key v hk he hkl hn).mono fun e w' hh => ⟨hh.1, ⟨G, pv, xs, h.treed hh.2.1 hh.2.2, h2⟩, hh.2.2.sub fun k hk => (h.out k hk).1⟩
theorem fileDel (h : FileT F w fb tb t pgs ps) (A : Option Addr) (c : Nat) (key : Row) (hk : Elems 3 Val.cs w F A key) (he : rErr key = 0) (hkl : key.length ≤ 12) (hn : ps.length ≤ 1000) :
    Calls Try.prog 31 #[ptr tb, .slice A key.length c] w fun e w' => e = .returned (.int .i64 (if (getP key ps).isSome then 0 else 4)) ∧ FileT F w' fb tb t pgs (delP key ps) ∧ Fr F w w' := by
  obtain ⟨G, pv, xs, h, h2⟩ := h
  exact (deleteW ord24 w h.tree A c key (hk.more fun k hk => (h.out k hk).1) he hkl hn).mono fun e w' hh => ⟨hh.1, ⟨G, pv, xs, h.treed hh.2.1 hh.2.2, h2⟩, hh.2.2.sub fun k hk => (h.out k hk).1⟩
theorem fileGet (h : FileT F w fb tb t pgs ps) (A : Option Addr) (c : Nat) (key : Row) (hk : Elems 3 Val.cs w (· < w.heap.size) A key) (he : rErr key = 0) (hkl : key.length ≤ 12) :
    Calls Try.prog 24 #[ptr tb, .slice A key.length c] w fun e w' => e = .returned (getV (getP key ps)) ∧ Below w.heap.size w w' := by
  obtain ⟨G, pv, xs, h, -⟩ := h
  exact getW ord24 w h.tree.at_ A c key hk he hkl
end

/-- What Put leaves. -/
def PutFin (F : Nat → Prop) (w : World) (fb tb : Nat) (t : Tbl) (pgs : Pgs) (ps : List PE) (f : Row → Row) (k r : Row) (w' : World) : Prop :=
  ∃ pgs' ps', FileT F w' fb tb t pgs' ps' ∧ HInv pgs' ps' (upF f k r) ∧ pgs'.length ≤ pgs.length + 1 ∧ ((ps' = ps ∧ (getP k ps).isSome = true) ∨ ∃ id, ps' = insP (k, id) ps) ∧ Fr F w w'

/-- Behind allocate, where the key is new: Put of the tree ends the work. -/
def AlNew (F : Nat → Prop) (w : World) (fb tb : Nat) (t : Tbl) (pgs : Pgs) (ps : List PE) (f : Row → Row) (k r : Row) (A : Option Addr) (kl c : Nat) (e : Ending) (w' : World) : Prop :=
  ∃ id : Int, e = .returned (.int .i64 id) ∧ w'.cell? ⟨fb, 4, none⟩ = some (ptr tb) ∧ Calls Try.prog 25 #[ptr tb, .slice A kl c, .int .i64 id] w' fun e w2 => e = .returned (.tuple #[.bool true, .int .i64 0]) ∧ PutFin F w fb tb t pgs ps f k r w2

theorem alNew {F : Nat → Prop} {fb tb : Nat} {t : Tbl} {pgs : Pgs} {ps : List PE} {w W : World} (h : FileT F w fb tb t pgs ps) (hb : Below w.heap.size w W) {f : Row → Row} (hinv : HInv pgs ps f) {k r : Row} (hk : getP k ps = none) {gr cr : Nat} (hrec : Rec W gr cr (encN r)) (hr : RecOk (encN r)) (he : rErr r = 0)
    {A : Option Addr} {c : Nat} (hkey : Own 3 Val.cs 44 w.heap.size W (.slice A k.length c) k) (hke : rErr k = 0) (hkl : k.length ≤ 12) (hn : pgs.length ≤ 1000) (hps : ps.length ≤ 1000) :
    Calls Try.prog 26 #[ptr fb, .slice (some ⟨gr, 0, none⟩) (encN r).length cr] W (AlNew F w fb tb t pgs ps f k r A k.length c) := by
  have h1 := h.more hb
  refine (allocateW W h1 hrec hr hn).mono ?_
  rintro e w' ⟨rfl, h2, h3⟩
  refine ⟨_, rfl, h2.c.2.2.2, ?_⟩
  have hel : Elems 3 Val.cs w' (· < w'.heap.size) A k := by
    refine ((hkey.elems scValLay.len rfl).keep fun g hg => ?_).more fun g hg => Nat.lt_of_lt_of_le (Own.lt hkey g hg).2 h3.size
    exact h3.blk g (.inr (Own.lt hkey g hg))
  refine (filePut h2 A c k _ hel hke hkl hps).mono ?_
  rintro e w2 ⟨rfl, h4, h5⟩
  rw [hk]
  exact ⟨rfl, _, _, h4.sub fun _ => .inl, hinv.put_new h.ord hk hr he, (halloc_spec hinv.ok hr).2.2.2.2.2.1, .inr ⟨_, rfl⟩, Fr.more hb h.lt (h3.trans h5)⟩

/-- Behind allocate, where the key is there. -/
def AlOld (F : Nat → Prop) (w : World) (fb tb : Nat) (t : Tbl) (pgs : Pgs) (ps : List PE) (f : Row → Row) (k r : Row) (A : Option Addr) (kl c : Nat) (id0 : Int) (e : Ending) (w' : World) : Prop :=
  ∃ id : Int, e = .returned (.int .i64 id) ∧ Calls Try.prog 28 #[ptr fb, .int .i64 id0] w' fun e w2 => e = .returned (.tuple #[]) ∧ w2.cell? ⟨fb, 4, none⟩ = some (ptr tb) ∧
    Calls Try.prog 25 #[ptr tb, .slice A kl c, .int .i64 id] w2 fun e w3 => e = .returned (.tuple #[.bool false, .int .i64 0]) ∧ PutFin F w fb tb t pgs ps f k r w3

theorem alOld {F : Nat → Prop} {fb tb : Nat} {t : Tbl} {pgs : Pgs} {ps : List PE} {w W : World} (h : FileT F w fb tb t pgs ps) (hb : Below w.heap.size w W) {f : Row → Row} (hinv : HInv pgs ps f) {k r : Row} {i s : Nat} (hk : getP k ps = some ((i * 256 + s : Nat) : Int)) (hs127 : s < 127) {gr cr : Nat} (hrec : Rec W gr cr (encN r)) (hr : RecOk (encN r)) (he : rErr r = 0)
    {A : Option Addr} {c : Nat} (hkey : Own 3 Val.cs 44 w.heap.size W (.slice A k.length c) k) (hke : rErr k = 0) (hkl : k.length ≤ 12) (hn : pgs.length ≤ 999) (hps : ps.length ≤ 1000) :
    Calls Try.prog 26 #[ptr fb, .slice (some ⟨gr, 0, none⟩) (encN r).length cr] W (AlOld F w fb tb t pgs ps f k r A k.length c ((i * 256 + s : Nat) : Int)) := by
  obtain ⟨j, t', e1, e2, hat0, -⟩ := hinv.loc _ _ ((mem_getP h.ord).1 hk)
  have hji : i = j ∧ s = t' := by omega
  rw [← hji.1, ← hji.2] at hat0
  obtain ⟨-, -, -, g1, -, g2, g3⟩ := halloc_spec hinv.ok hr
  have h1 := h.more hb
  refine (allocateW W h1 hrec hr (by omega)).mono ?_
  rintro e w' ⟨rfl, h2, h3⟩
  have hat1 : hat (halloc pgs (encN r)).1 i s = some (encN (f k)) := by
    rw [g3, if_neg]
    · exact hat0
    · intro e
      rw [← e.1, ← e.2, hat0] at g1
      cases g1
  refine ⟨_, rfl, (releaseW w' h2 hat1 hs127 (by omega)).mono ?_⟩
  rintro e w2 ⟨rfl, h4, h5⟩
  refine ⟨rfl, h4.c.2.2.2, ?_⟩
  have h35 := h3.trans h5
  have hel : Elems 3 Val.cs w2 (· < w2.heap.size) A k := by
    refine ((hkey.elems scValLay.len rfl).keep fun g hg => ?_).more fun g hg => Nat.lt_of_lt_of_le (Own.lt hkey g hg).2 h35.size
    exact h35.blk g (.inr (Own.lt hkey g hg))
  refine (filePut h4 A c k _ hel hke hkl hps).mono ?_
  rintro e w3 ⟨rfl, h6, h7⟩
  rw [hk]
  obtain ⟨-, g4, -⟩ := hrel_spec (halloc_spec hinv.ok hr).1 hat1
  exact ⟨rfl, _, _, h6.sub fun _ => .inl, hinv.put_move h.ord hk hs127 hr he, by omega, .inr ⟨_, rfl⟩, Fr.more hb h.lt (h35.trans h7)⟩

set_option maxRecDepth 100000 in
set_option maxHeartbeats 4000000 in
theorem putFileW {F : Nat → Prop} {fb tb : Nat} {t : Tbl} {pgs : Pgs} {ps : List PE} (w : World) (h : FileT F w fb tb t pgs ps) (A : Option Addr) (c : Nat) (r : Row) (hx : Elems 3 Val.cs w (· < w.heap.size) A r) (hr : RowOk t r) (hrec : RecOk (encN r)) (hk : KeyOk t (keyOf t.pk r)) (hcols : t.cols.length ≤ 1000) {f : Row → Row} (hinv : HInv pgs ps f) (hn : pgs.length ≤ 999) (hps : ps.length ≤ 99) :
    Calls Try.prog 8 #[ptr fb, .slice A r.length c] w fun e w' => e = .returned (.tuple #[.bool (getP (keyOf t.pk r) ps).isSome, .int .i64 0]) ∧ PutFin F w fb tb t pgs ps f (keyOf t.pk r) r w' := by
  have hpk : t.pk.length ≤ 1000 := by have := hk.n12; have := hk.len; omega
  have hk0 : (keyOf t.pk r).length = t.pk.length := hk.len
  have HCR := Lib.hid (secCheckRow t A c r w h.tok hx hcols hr)
  have HEN := Lib.hid fun W (hW : Below w.heap.size w W) => encodeRow_ok A c r W (hx.on hW) (by have := hr.len; unfold maxLen; omega) hr.err
  have HKY := Lib.hid fun W (hW : Below w.heap.size w W) => relKey t A c r W (h.tok.on hW) (hx.on hW) hpk
  have HGT := Lib.hid fun W (hW : Below w.heap.size w W) A' c' (hx' : Elems 3 Val.cs W (· < W.heap.size) A' (keyOf t.pk r)) => fileGet (h.below hW) A' c' (keyOf t.pk r) hx' hk.err hk.n12
  have HSZ := Lib.hid fun W (hW : Below w.heap.size w W) => sizeW W (h.below hW) (by omega)
  have HC := Lib.hid fun W (hW : Below w.heap.size w W) => (h.below hW).c
  have HREC := Lib.hid hrec
  have hrl : (encR r).length ≤ 100 ∧ 0 < (encR r).length := by have h1 := hrec.len; have h2 := hrec.pos; rw [encN_len] at h1 h2; omega
  obtain ⟨k, hkk⟩ : ∃ k, k = keyOf t.pk r := ⟨_, rfl⟩
  rw [← hkk] at hk hk0 HGT HKY ⊢
  have HAN := Lib.hid fun W (hW : Below w.heap.size w W) (hg : getP k ps = none) gr cr A' c' (hre : Rec W gr cr (encN r)) (hkey : Own 3 Val.cs 44 w.heap.size W (.slice A' k.length c') k) => alNew h hW hinv hg hre hrec hr.err hkey hk.err hk.n12 (by omega) (by omega)
  have HAO := Lib.hid fun W (hW : Below w.heap.size w W) (i s : Nat) (hg : getP k ps = some ((i * 256 + s : Nat) : Int)) (hs127 : s < 127) gr cr A' c' (hre : Rec W gr cr (encN r)) (hkey : Own 3 Val.cs 44 w.heap.size W (.slice A' k.length c') k) => alOld h hW hinv hg hs127 hre hrec hr.err hkey hk.err hk.n12 hn (by omega)
  have HH := Lib.hid h
  have HINV := Lib.hid hinv
  have HRE := Lib.hid hr.err
  obtain ⟨c0, c1, c2, -⟩ := h.c
  obtain ⟨name, CA, cc, cols, PA, pc, pk⟩ := t
  unfold Tbl.val at HCR HKY
  simp only at HCR HKY c0 c1 c2 hk0 hpk
  obtain ⟨l, hl⟩ : ∃ l, (encR r).length = l := ⟨_, rfl⟩
  have HEL : Hid ((encN r).length = l) := Lib.hid (by rw [encN_len, hl])
  have HLL := Lib.hid hl
  rw [hl] at hrl
  obtain ⟨hl1, hl2⟩ := hrl
  have hl1' : ((l : Nat) : Int) ≤ 100 := by omega
  have hps' : (((ps.length : Nat) : Int) == 100) = false := by simp; omega
  have HKL := Lib.hid hk0
  have HPN := Lib.hid hn
  clear h hx hr hrec hk hinv hkk hl hk0 hcols hpk hn hps
  go_enter Try.func8, Try.ntmps8
  go_wp2_with fail
  refine HCR.out.mono ?_
  rintro e w1 ⟨rfl, hb1⟩
  have HB1 := Lib.hid hb1
  have HE1 := Lib.hid (HEN.out w1 hb1)
  clear hb1 HCR
  go_wp2_with fail
  refine HE1.out.mono ?_
  rintro e w2 ⟨v2, rfl, ho2, hb2⟩
  obtain ⟨gr, cr, rfl, hrec2, -, -⟩ := rec_of ho2 (by rw [HLL.out]; exact hl2)
  rw [HLL.out]
  have hb2' := HB1.out.trans (hb2.mono HB1.out.size)
  have HB2 := Lib.hid hb2'
  have HR2 : Hid (Rec w2 gr cr (encN r)) := Lib.hid hrec2
  have HK2 := Lib.hid (HKY.out w2 hb2')
  obtain ⟨d0, d1, d2, -⟩ := HC.out w2 hb2'
  clear hb2 hb2' ho2 hrec2 HE1
  go_wp2_with fail
  refine HK2.out.mono ?_
  rintro e w3 ⟨v3, rfl, ho3, hb3⟩
  obtain ⟨A3, c3, rfl, -, -⟩ := ho3.form
  have hb3' := HB2.out.trans (hb3.mono HB2.out.size)
  have HB3 := Lib.hid hb3'
  have HR3 := Lib.hid (HR2.out.below hb3)
  have HO3 := Lib.hid (ho3.mono HB2.out.size)
  have HG3 := Lib.hid (HGT.out w3 hb3' A3 c3 ((ho3.elems scValLay.len rfl).more fun g hg => (Own.lt ho3 g hg).2))
  obtain ⟨-, -, -, e4⟩ := HC.out w3 hb3'
  clear hb3 hb3' ho3 HK2
  generalize hkl : k.length = kl at *
  go_wp2_with fail
  refine HG3.out.mono ?_
  rintro e w4 ⟨rfl, hb4⟩
  have hb4' := HB3.out.trans (hb4.mono HB3.out.size)
  have HB4 := Lib.hid hb4'
  have HR4 := Lib.hid (HR3.out.below hb4)
  have HO4 := Lib.hid (HO3.out.below hb4)
  clear hb4 hb4' HG3
  cases hgp : getP k ps with
  | none =>
    have HZ4 := Lib.hid (HSZ.out w4 HB4.out)
    have HGP := Lib.hid hgp
    clear hgp
    unfold getV
    go_wp2_with fail
    refine HZ4.out.mono ?_
    rintro e w5 ⟨rfl, hb5⟩
    have hb5' := HB4.out.trans (hb5.mono HB4.out.size)
    have HB5 := Lib.hid hb5'
    have HR5 := Lib.hid (HR4.out.below hb5)
    have HO5 := Lib.hid (HO4.out.below hb5)
    obtain ⟨-, -, -, e5⟩ := HC.out w5 hb5'
    have HAL := Lib.hid fun m => HAN.out (w5.drewN m) (below_drewN hb5' m) HGP.out gr cr A3 c3 (HR5.out.below (below_drewN (Below.refl _ _) m)) (HO5.out.drewN m)
    rw [HEL.out] at HAL
    clear hb5 hb5' HZ4
    go_upto_region 13 with fail
    go_region_law (first
      | (go_simp; go_at_call 26; refine (HAL.out 1).mono ?_; rintro e w6 ⟨id, rfl, z4, hput⟩; have HPUT := Lib.hid hput; clear hput)
      | (go_simp; go_at_call 25; refine HPUT.out.mono ?_; rintro e w7 ⟨rfl, hfin⟩))
    all_goals
      have HFIN := Lib.hid hfin
      clear hfin
      go_wp2_with fail
      go_ret2
      exact ⟨by first | rfl | (rw [HGP.out]; rfl), HFIN.out⟩
  | some id =>
    obtain ⟨i, s, hid, hs127, hat0, -⟩ := HINV.out.loc _ _ ((mem_getP HH.out.ord).1 hgp)
    rw [hid] at hgp
    have HGP := Lib.hid hgp
    obtain ⟨G, pv, xs, hf, hpgs⟩ := HH.out
    have hf4 := hf.more HB4.out
    obtain ⟨hi0, hc0⟩ := hat_some hat0
    have hxi : i < xs.length := by rw [← hpgs, List.length_map] at hi0; exact hi0
    have hgd : pgs.getD i [] = xs[i].p := by
      rw [List.getD_eq_getElem?_getD, List.getElem?_eq_getElem hi0]
      simp only [← hpgs, List.getElem_map]
      rfl
    have hpi : pgs[i] = xs[i].p := by simp only [← hpgs, List.getElem_map]
    rw [hpi] at hc0
    obtain ⟨pb, c', cur, rfl, -, hc1, hc2, -, -⟩ := hf.phead (by omega)
    obtain ⟨n, hxn⟩ : ∃ n, xs.length = n := ⟨_, rfl⟩
    have z3 : w4.cell? ⟨fb, 3, none⟩ = some (.slice (some ⟨pb, 0, none⟩) n c') := by rw [hf4.c 3, ← hxn]; rfl
    obtain ⟨z0, -⟩ := hf4.pcell rfl hxi
    have hpg := hf4.page _ (List.getElem_mem hxi)
    have hup := updateAny w4 hpg.1 hpg.2.1 HR4.out HREC.out s hc0
    rw [HEL.out] at hup
    have HUP := Lib.hid hup
    have HFB := Lib.hid (And.intro (hf4.lt fb hf4.gfb.1) fun g hg => hf4.lt g (hf4.gpv g hg))
    have HSET := Lib.hid fun W (hW : Below w4.heap.size w4 W) g' c2 (hp : Pg w4.heap.size W g' c2 (place (rem xs[i].p s) s (encN r))) (hq : WF (place (rem xs[i].p s) s (encN r))) => FileIn.set (h := (hf4.more hW)) rfl hxi ⟨g', c2, place (rem xs[i].p s) s (encN r)⟩ ⟨hp.mono (Nat.zero_le _), hq, .inr ⟨hp.lt.1, hp.lt.2⟩, (fun e => by
        have h1 := HFB.out.1
        have h2 := hp.lt.1
        have e : g' = fb := e
        omega), (fun e => by
        have h1 := HFB.out.2 _ e
        have h2 := hp.lt.1
        have h1 : g' < w4.heap.size := h1
        omega)⟩
    have HCC := Lib.hid fun W (hW : Below w4.heap.size w4 W) => And.intro ((hf4.more hW).c 3) ((hf4.more hW).pcell rfl hxi)
    have HFF := Lib.hid (And.intro (fun k hk => hf.lt k (hf.out k hk).1) fun k hk => (hf.out k hk).2.2)
    have HHU : Hid (hupd pgs i s (encN r) = (xs.set i ⟨0, 0, place (rem xs[i].p s) s (encN r)⟩).map PgM.p) := Lib.hid (by
      unfold hupd
      rw [hgd, List.map_set, hpgs])
    have HSM : Hid (∀ x : PgM, (xs.set i x).map PgM.p = pgs.set i x.p) := Lib.hid fun x => by rw [List.map_set, hpgs]
    have HSP := Lib.hid fun hft => hupd_spec (i := i) (s := s) HINV.out.ok hat0 HREC.out hft
    have HPS2 := Lib.hid fun hft => HINV.out.put_same HH.out.ord hgp hs127 HREC.out HRE.out hft
    have HWF := Lib.hid fun hft => (upd_page hpg.2.1 hc0 HREC.out hft).1
    have HPV : Hid (Value.slice (some ⟨pb, 0, none⟩) xs.length c' = .slice (some ⟨pb, 0, none⟩) n c') := Lib.hid (by rw [hxn])
    have hin : (i : Int) < (n : Int) := by omega
    rw [hgd] at HSP HPS2
    have HN := Lib.hid hxn
    have hn1000 : i ≤ 2000 := by
      have := HPN.out
      omega
    have HAO4 := Lib.hid fun W (hW : Below w4.heap.size w4 W) => HAO.out W (HB4.out.trans (hW.mono HB4.out.size)) i s hgp hs127 gr cr A3 c3 (HR4.out.below hW) (HO4.out.below hW)
    rw [HEL.out] at HAO4
    clear hf hf4 hpg hup hgd hpi hc0 hi0 hat0 hpgs hxn hgp
    generalize xs[i].g = pg at *
    generalize xs[i].c = pgc at *
    generalize xs[i].p = pp at *
    obtain ⟨hq1, hq2⟩ : id.tdiv 256 = (i : Int) ∧ id.tmod 256 = (s : Int) := ⟨by rw [hid, Int.tdiv_eq_ediv_of_nonneg (by omega)]; omega, by rw [hid, Int.tmod_eq_emod_of_nonneg (by omega)]; omega⟩
    have hq3 : IntKind.i64.wrap (i : Int) = (i : Int) := by rw [IntKind.wrap_i64]; omega
    rw [← hid] at HAO4
    have HID := Lib.hid hid
    clear hid hxi
    unfold getV
    by_cases hft : fits pp s (encN r)
    · have HFT := Lib.hid hft
      clear hft
      go_wp2_with fail
      refine HUP.out.mono ?_
      rintro e w5 ⟨hb5, hyes, -⟩
      obtain ⟨g', c2, rfl, hp5⟩ := hyes HFT.out
      obtain ⟨y3, y0, y1⟩ := HCC.out w5 hb5
      have y3' : w5.cell? ⟨fb, 3, none⟩ = some (.slice (some ⟨pb, 0, none⟩) n c') := by rw [y3, ← HPV.out]; rfl
      have HF5 := Lib.hid (HSET.out w5 hb5 g' c2 hp5 (HWF.out HFT.out))
      have HB5 := Lib.hid (HB4.out.trans (hb5.mono HB4.out.size))
      clear hb5 hyes hp5 y3
      go_wp2_with fail
      go_ret2
      refine ⟨by rw [HGP.out]; rfl, hupd pgs i s (encN r), ps, ⟨_, _, _, HF5.out.sub fun k hk => .inl (.inl hk), ?_⟩, HPS2.out HFT.out, by rw [(HSP.out HFT.out).2.1]; omega, .inl ⟨rfl, by rw [HGP.out]; rfl⟩, (Fr.of_below HB5.out HFF.out.1).setCell (p := ⟨pb, i, none⟩) (fun hk => HFF.out.2 _ hk rfl) _⟩
      rw [HHU.out, HSM.out, HSM.out]
    · have HFT := Lib.hid hft
      clear hft
      go_wp2_with fail
      refine HUP.out.mono ?_
      rintro e w5 ⟨hb5, -, hno⟩
      have he5 := hno HFT.out
      subst he5
      have HAL := Lib.hid (HAO4.out w5 hb5)
      have HB5 := Lib.hid (HB4.out.trans (hb5.mono HB4.out.size))
      clear hb5 hno
      go_wp2_with fail
      refine HAL.out.mono ?_
      rintro e w6 ⟨id2, rfl, hrel⟩
      have HREL := Lib.hid hrel
      clear hrel
      go_wp2_with fail
      refine HREL.out.mono ?_
      rintro e w7 ⟨rfl, y4, hput⟩
      have HPUT := Lib.hid hput
      clear hput
      go_wp2_with fail
      refine HPUT.out.mono ?_
      rintro e w8 ⟨rfl, hfin⟩
      have HFIN := Lib.hid hfin
      clear hfin
      go_wp2_with fail
      go_ret2
      exact ⟨by rw [HGP.out]; rfl, HFIN.out⟩
end Go.Proofs.Ytjdcnkbkbcfhfaa

namespace Go.Proofs.Ytjdcnkbkbcfhfaa
open Go.RowKit Go.Sort

section
variable {σ : Type} (f : σ → Ent → σ × Bool)
/-- The visits, till one says no. -/
def runV : σ → List Ent → σ × Bool
  | s, [] => (s, true)
  | s, x :: xs => if (f s x).2 then runV (f s x).1 xs else ((f s x).1, false)
theorem runV_cons (s : σ) (x : Ent) (xs : List Ent) : runV f s (x :: xs) = if (f s x).2 then runV f (f s x).1 xs else ((f s x).1, false) := rfl
theorem runV_append : ∀ (s : σ) (A B : List Ent), runV f s (A ++ B) = if (runV f s A).2 then runV f (runV f s A).1 B else runV f s A
  | s, [], B => by simp [runV]
  | s, x :: A, B => by
    rw [List.cons_append, runV_cons, runV_cons]
    by_cases h : (f s x).2 = true
    · rw [if_pos h, if_pos h, runV_append _ A B]
    · simp only [if_neg h, Bool.false_eq_true, if_false]
theorem runV_one (s : σ) (x : Ent) : runV f s [x] = f s x := by
  show (if (f s x).2 then ((f s x).1, true) else ((f s x).1, false)) = f s x
  cases hx : f s x with
  | mk a b => cases b <;> rfl
end

/-- The entries from a key on. -/
def geF (low : Row) (es : List Ent) : List Ent := es.filter fun x => decide (¬ cmpR x.key.row low < 0)
theorem geF_at {es : List Ent} {low : Row} {i : Nat} {b : Bool} (h : At er es low i b) : geF low es = es.drop i := by
  unfold geF
  conv => lhs; rw [← List.take_append_drop i es]
  rw [List.filter_append, List.filter_eq_nil_iff.2, List.nil_append, List.filter_eq_self.2]
  · intro x hx
    have := h.hi x hx
    unfold rl at this
    simpa using this
  · intro x hx
    have := h.lo x hx
    unfold rl at this
    simpa using this
theorem geF_cov {m o d : Nat} {t : T (d + 1)} {low : Row} {j : Nat} (h : Ok m o (d + 1) t) (hc : Cov t.1 low j) : geF low (flat (d + 1) t) = (t.2.drop j).flatMap fun c => geF low (flat d c) := by
  have hs := (cov_sides h.1 hc).1
  show geF low (t.2.flatMap (flat d)) = _
  conv => lhs; rw [← List.take_append_drop j t.2]
  unfold geF
  rw [List.flatMap_append, List.filter_append, List.filter_eq_nil_iff.2, List.nil_append, List.filter_flatMap]
  intro x hx
  have := hs x hx
  unfold rl at this
  simpa using this

/-- A visitor's contract. -/
structure Vis {σ : Type} (w0 : World) (K : Nat → Prop) (fid : FuncId) (caps : Array Value) (R : σ → World → Prop) (f : σ → Ent → σ × Bool) (sz : σ → Nat) (N : Nat) : Prop where
  ent : ∀ (args : Array Value) (w : World), (callFunc fid args).run Try.prog w = .ok (.enter fid args) w
  bud : ∀ (s : σ) (x : Ent), sz (f s x).1 ≤ sz s + 1
  run : ∀ (s : σ) (x : Ent) (W : World), sz s < N → R s W → Below w0.heap.size w0 W → KOk K W x.key → Calls Try.prog fid (#[entV x] ++ caps) W fun e w' => e = .returned (.bool (f s x).2) ∧ R (f s x).1 w' ∧ Below w0.heap.size w0 w'
  quiet : ∀ (s : σ) (W W' : World), R s W → Below W.heap.size W W' → R s W'

theorem runV_sz {σ : Type} {f : σ → Ent → σ × Bool} {sz : σ → Nat} (h : ∀ (s : σ) (x : Ent), sz (f s x).1 ≤ sz s + 1) : ∀ (s : σ) (L : List Ent), sz (runV f s L).1 ≤ sz s + L.length
  | s, [] => Nat.le_refl _
  | s, x :: L => by
    rw [runV_cons, List.length_cons]
    have h1 := h s x
    split
    · have := runV_sz h (f s x).1 L
      omega
    · simp only
      omega

/-- What ascend leaves. -/
def AscPost {σ : Type} (w0 : World) (R : σ → World → Prop) (r : σ × Bool) (e : Ending) (w' : World) : Prop := e = .returned (.bool r.2) ∧ R r.1 w' ∧ Below w0.heap.size w0 w'

set_option maxRecDepth 100000 in
set_option maxHeartbeats 4000000 in
theorem ascLeaf {σ : Type} {w0 : World} {M : Nodes} {O : Own'} (hs : Store w0 M O) {fid : FuncId} {caps : Array Value} {R : σ → World → Prop} {f : σ → Ent → σ × Bool} {sz : σ → Nat} {N : Nat} (hV : Vis w0 (fun k => O k = .row) fid caps R f sz N) (A : Option Addr) (c : Nat) (low : Row) (hlow : Elems 3 Val.cs w0 (· < w0.heap.size) A low)
    {a : Nat} {es : List Ent} (hm : M a = some ⟨es, [], []⟩) (ho : Ord es) (hl : es.length ≤ 40) (s : σ) (hN : sz s + (geF low es).length ≤ N) (W : World) (hb : Below w0.heap.size w0 W) (hR : R s W) :
    Calls Try.prog 55 #[ptr a, .slice A low.length c, .func (.func fid) #[] caps] W (AscPost w0 R (runV f s (geF low es))) := by
  have hsW := hs.below hb
  obtain ⟨V, hV0⟩ := hs.at_ a _ hm
  have hVV : NodeAt W O a ⟨es, [], []⟩ V := hV0.below hs.free hb fun _ _ => rfl
  obtain ⟨A0, c0, A1, c1, A2, c2, e0, e1, e2, h0, h1, h2, hfr, o0, o1, o2⟩ := hVV.cells
  simp only at h0 h2 o0
  have hrl : ∀ k, O k = .row → k < W.heap.size := fun k hk => hsW.lt' (by rw [hk]; simp)
  have hlW := (hlow.keep (Keeps.of_below hb fun _ h => h)).more (S' := (· < W.heap.size)) fun i hi => Nat.lt_of_lt_of_le hi hb.size
  have HLF := Lib.hid (leafW a W A2 0 c2 h2)
  have HSE := Lib.hid (searchW a W A0 c0 es A c low _ _ h0 ((o0.elems entLay.len rfl).more fun k hk => (Own.lt o0 k hk).2) hrl (fun _ h => h) hVV.rowe ho hlW (by omega))
  have hal := hsW.lt hm
  have HO0 := Lib.hid o0
  have HV := Lib.hid hV
  have HNN := Lib.hid hN
  have HB := Lib.hid hb
  have HR := Lib.hid hR
  have HS := Lib.hid hs
  have HM := Lib.hid hm
  have HV0 := Lib.hid hV0
  have HE0 := Lib.hid e0
  clear hsW e0 e1 e2 h1 h2 hfr o0 o1 o2 hrl hlW hV hb hR hs hm hlow hVV hV0 hN
  go_enter Try.func55, Try.ntmps55
  go_wp2_with fail
  refine HLF.out.mono ?_
  rintro e w' ⟨rfl, rfl⟩
  go_wp2_with fail
  refine HSE.out.mono ?_
  rintro e w1 ⟨i, fnd, rfl, hA, hb1⟩
  have hil := hA.le
  have hge := geF_at hA
  have hlen : (es.drop i).length = es.length - i := List.length_drop
  have q0 := (hb1.cell (p := ⟨a, 0, none⟩) hal).trans h0
  have HGE := Lib.hid hge
  have HB1 := Lib.hid (HB.out.trans (hb1.mono HB.out.size))
  have HR1 := Lib.hid (HV.out.quiet _ _ _ HR.out hb1)
  have hn40 : es.length ≤ 40 := hl
  obtain ⟨A0', c0', hv0, hc0, hc0m⟩ := HO0.out.form
  injection hv0 with x1 _ x2
  subst x1 x2
  unfold maxLen at hc0m
  clear hA hge hb1 h0 hal
  generalize hn : es.length = n at *
  have HN := Lib.hid hn
  clear hn
  have hi1 : (i : Int) ≤ (n : Int) := by omega
  have hi2 : (0 : Int) ≤ (i : Int) := by omega
  have hi3 : (n : Int) ≤ (c0 : Int) := by omega
  rcases Nat.lt_or_ge i n with hlt | hge'
  · have hne : ¬ c0 = i := by omega
    obtain ⟨g, c', cur, hv, -, hg, -, -, -, -⟩ := HO0.out.open_ (by have := HN.out; omega)
    injection hv with y1 _ y2
    subst y1
    have HEL : Hid (∀ (Wr : World) (k : Nat) (x : Ent), Below w0.heap.size w0 Wr → (es.drop i)[k]? = some x → Wr.cell? ⟨g, i * 2 + k * 2, none⟩ = some (.slice x.key.A x.key.row.length x.key.c) ∧ Wr.cell? ⟨g, i * 2 + k * 2 + 1, none⟩ = some (.int .i64 x.val) ∧ KOk (fun k => O k = .row) Wr x.key) := Lib.hid fun Wr k x hbr hx => by
      have hd : (es.drop i)[k]? = es[i + k]? := List.getElem?_drop
      rw [hd] at hx
      obtain ⟨hlk, hxe⟩ := List.getElem?_eq_some_iff.1 hx
      have hVr : NodeAt Wr O a ⟨es, [], []⟩ V := HV0.out.below HS.out.free hbr fun _ _ => rfl
      have ho : Own 2 Ent.cs 81 0 Wr (V 0) es := hVr.fld 0 (by omega)
      rw [HE0.out] at ho
      obtain ⟨g', off, he, -, hc1, hc2⟩ := (ho.elems entLay.len rfl).ent hlk
      injection he with he
      injection he with he1 he2
      subst he1 he2
      rw [hxe, Nat.zero_add, Nat.add_mul] at hc1 hc2
      exact ⟨hc1, hc2, hVr.rowe x (List.mem_of_getElem? hx)⟩
    have hln : (es.drop i).length = n - i := hlen
    generalize es.drop i = L at *
    obtain ⟨p, hp⟩ : ∃ p, p = n - i := ⟨_, rfl⟩
    have hpi : (n : Int) - (i : Int) = (p : Int) := by omega
    have HP := Lib.hid hp
    rw [← hp] at hln hlen
    have HL := Lib.hid hln
    have hpb : p ≤ 40 := by omega
    clear hg hp hln hlen
    go_wp2_with fail

    go_loopw [28] (fun vi wr => ∃ k : Nat, vi = .int .i64 k ∧ k ≤ p ∧ (runV f s (L.take k)).2 = true ∧ R (runV f s (L.take k)).1 wr ∧ Below w0.heap.size w0 wr) (fun vi _ => p - (intOf vi).toNat)
    case atStart => exact ⟨0, rfl, by omega, rfl, HR1.out, HB1.out⟩
    case round =>
      obtain ⟨k, rfl, hk, ht, hr, hb⟩ := hrel
      have HT := Lib.hid ht
      have HRK := Lib.hid hr
      have HBK := Lib.hid hb
      clear ht hr hb
      by_cases hkp : k < p
      · obtain ⟨x, hx⟩ : ∃ x, L[k]? = some x := ⟨_, List.getElem?_eq_getElem (by have := HL.out; omega)⟩
        obtain ⟨d1, d2, hko⟩ := HEL.out wr k x HBK.out hx
        have hkp2 : (k : Int) < (p : Int) := by omega
        have HX := Lib.hid hx
        have HKO := Lib.hid hko
        have hent := HV.out.ent
        have hba : Below wr.heap.size wr (wr.alloc (.cells #[.slice x.key.A x.key.row.length x.key.c, .int .i64 x.val] 81)) := (Below.refl _ _).alloc (Nat.le_refl _) _
        have hszk : sz (runV f s (L.take k)).1 < N := by
          have h1 := runV_sz HV.out.bud s (L.take k)
          have h2 := HNN.out
          rw [HGE.out, HL.out] at h2
          have h3 : (L.take k).length ≤ k := by rw [List.length_take]; omega
          omega
        have HRUN := Lib.hid (HV.out.run _ x _ hszk (HV.out.quiet _ _ _ HRK.out hba) (HBK.out.trans (hba.mono HBK.out.size)) (((St.refl (HS.out.below HBK.out)).below hba).kok (HS.out.below HBK.out) HKO.out))
        clear hx hko hba
        go_wp2_with fail
        refine HRUN.out.mono ?_
        rintro e w2 ⟨rfl, hr2, hb2⟩
        have HR2 := Lib.hid hr2
        have HB2 := Lib.hid hb2
        have HSTEP : Hid (runV f s (L.take (k + 1)) = f (runV f s (L.take k)).1 x) := Lib.hid (by
          rw [List.take_add_one, HX.out]
          show runV f s (L.take k ++ [x]) = _
          rw [runV_append, if_pos HT.out, runV_one])
        clear hr2 hb2 HRUN d1 d2
        cases hfx : (f (runV f s (L.take k)).1 x).2 with
        | true =>
          have HFX := Lib.hid hfx
          clear hfx
          go_wp2_with fail
          go_roundw
          case rel => exact ⟨k + 1, by go_num, by omega, by rw [HSTEP.out]; exact HFX.out, by rw [HSTEP.out]; exact HR2.out, HB2.out⟩
          case measure => simp [intOf]; omega
        | false =>
          have HF : Hid (AscPost w0 R (runV f s (geF low es)) (.returned (.bool false)) w2) := Lib.hid (by
            have h1 : runV f s L = f (runV f s (L.take k)).1 x := by
              conv => lhs; rw [← List.take_append_drop (k + 1) L]
              rw [runV_append, HSTEP.out, if_neg (by rw [hfx]; exact Bool.noConfusion)]
            rw [HGE.out, h1]
            exact ⟨by rw [hfx], HR2.out, HB2.out⟩)
          clear hfx
          go_wp2_with fail
          go_ret
          exact HF.out
      · have hke : k = p := by omega
        subst hke
        have HF : Hid (AscPost w0 R (runV f s (geF low es)) (.returned (.bool true)) wr) := Lib.hid (by
          have h1 : L.take k = L := List.take_of_length_le (by rw [HL.out]; exact Nat.le_refl _)
          have h2 := HT.out
          have h3 := HRK.out
          rw [h1] at h2 h3
          rw [HGE.out]
          exact ⟨by rw [h2], h3, HBK.out⟩)
        have hkp2 : ¬ ((k : Int) < (k : Int)) := by omega
        go_wp2_with fail
        go_ret
        exact HF.out
  · have hie : i = n := by omega
    subst hie
    have hnil : es.drop i = [] := List.drop_of_length_le (by rw [HN.out]; exact Nat.le_refl _)
    have HF : Hid (AscPost w0 R (runV f s (geF low es)) (.returned (.bool true)) w1) := Lib.hid (by
      rw [HGE.out, hnil]
      exact ⟨rfl, HR1.out, HB1.out⟩)
    clear hnil
    by_cases hci : c0 = i
    · go_wp2_with fail
      go_loopw [28] (fun vi wr => vi = .int .i64 (0 : Int) ∧ w1 = wr) (fun _ _ => 0)
      case atStart => exact ⟨rfl, rfl⟩
      case round =>
        obtain ⟨rfl, rfl⟩ := hrel
        go_wp2_with fail
        go_ret
        exact HF.out
    · go_wp2_with fail
      go_loopw [28] (fun vi wr => vi = .int .i64 (0 : Int) ∧ w1 = wr) (fun _ _ => 0)
      case atStart => exact ⟨rfl, rfl⟩
      case round =>
        obtain ⟨rfl, rfl⟩ := hrel
        go_wp2_with fail
        go_ret
        exact HF.out
end Go.Proofs.Ytjdcnkbkbcfhfaa
