/-
  The walks of (*executor).apply over rows of the base schema, without triggers or with deleteOrder.
-/
import Derived.Test.YtefifkleamiabaaGreatDoorUm16
import Derived.Test.YtefifkleamiabaaGreatDoorUm10
import Derived.Test.YtefifkleamiabaaGreatDoorUm07
import Derived.Lib.SliceRun
namespace Go.Proofs.YtefifkleamiabaaGreatDoor
open Go.RowKit Go.Sort

/-- deleteOrder. -/
def tDel (A B : Option Addr) : Tr := ⟨2, nItem, A, 1, [⟨2, nOrder, B, 1, [0]⟩]⟩
theorem tDel_ok {T IA IP OA OP F FC N A B : Option Addr} : TrC (bSc T IA IP OA OP F FC N) (tDel A B) := by
  refine ⟨.inr rfl, ⟨0, by show 0 < 2; omega, bSc_item, fun a ha => ?_⟩, by show 1 ≤ 4; omega⟩
  rw [List.mem_singleton.1 ha]
  refine ⟨.inr rfl, 1, by show 1 < 2; omega, bSc_order, rfl, by show 1 ≤ 100; omega, fun k hk => ?_, fun k h1 h2 => ?_⟩
  · rw [List.mem_singleton.1 (show k ∈ [(0 : Int)] from hk)]
    exact ⟨by omega, by show 0 < 3; omega⟩
  · have h : k < 1 := h1
    obtain rfl : k = 0 := by omega
    exact ⟨by show (0 : Int) ≤ 0; omega, by show 0 < 4; omega, rfl, .inl rfl⟩
/-- The cells of the trigger and its action. -/
structure TgE (TA RA RB : Option Addr) (tb toff rb roff : Nat) (S : Nat → Prop) (W : World) : Prop where
  t : TA = some ⟨tb, toff, none⟩
  r : RA = some ⟨rb, roff, none⟩
  t0 : W.cell? ⟨tb, toff, none⟩ = some (.int .i64 2) ∧ W.cell? ⟨tb, toff + 1, none⟩ = some (.string nItem) ∧ W.cell? ⟨tb, toff + 2, none⟩ = some (.slice RA 1 1)
  a0 : W.cell? ⟨rb, roff, none⟩ = some (.int .i64 2) ∧ W.cell? ⟨rb, roff + 1, none⟩ = some (.string nOrder) ∧ W.cell? ⟨rb, roff + 2, none⟩ = some (.slice RB 1 1)
  o0 : Elems 4 opdCs W S RB [0]
theorem TgOk.cellD {S : Nat → Prop} {W : World} {TA RA RB : Option Addr} (h : TgOk S W TA [tDel RA RB]) : ∃ tb toff rb roff, TgE TA RA RB tb toff rb roff S W := by
  obtain ⟨tb, toff, e, -, p0, p1, p2⟩ := h.el.tr (k := 0) (by show 0 < 1; omega)
  have h0 := h.tr (tDel RA RB) (by simp)
  obtain ⟨rb, roff, er, -, r0, r1, r2⟩ := h0.el.ac (k := 0) (by show 0 < 1; omega)
  have o0 := h0.act ⟨2, nOrder, RB, 1, [0]⟩ (by simp [tDel])
  rw [Nat.zero_mul, Nat.add_zero] at p0 p1 p2 r0 r1 r2
  exact ⟨tb, toff, rb, roff, e, er, ⟨p0, p1, p2⟩, ⟨r0, r1, r2⟩, o0⟩

/-- The change that deleteOrder derives. -/
structure DCh (ch d : ChM) : Prop where
  kind : d.kind = 2
  nm : d.name = nOrder
  row : d.row.row = []
  key : d.key.row = ik (kkOf ch : Int)
theorem DCh.fit {ch d : ChM} (h : DCh ch d) (hk : kkOf ch < 8) : FitB d := by
  have ht : tiOf d = 1 := tiOf_tab (by omega) h.nm
  have hkk : kkOf d = kkOf ch := by
    unfold kkOf
    rw [if_neg (by rw [h.kind]; decide), h.key]
    exact Int.toNat_natCast _
  exact ⟨⟨by rw [ht]; exact h.nm, by omega⟩, .inr ⟨h.kind, h.row, by rw [hkk]; exact h.key, by rw [hkk]; exact hk⟩⟩
theorem FitB.kk {ch : ChM} (h : FitB ch) : kkOf ch < 8 := by
  rcases h.fit with ⟨h1, -, hr⟩ | ⟨-, -, -, hd⟩
  · have := hr.dig
    unfold kkOf
    rw [if_pos h1]
    omega
  · exact hd
/-- What apply makes of a change. -/
def Casc (fire : Bool) (ch : ChM) (R : Nat → List Row) (ds : List ChM) (R2 : Nat → List Row) : Prop :=
  (ds = [] ∧ R2 = nextB ch R ∧ (fire = true → ∀ d, DCh ch d → stopN d (nextB ch R) = true)) ∨ (fire = true ∧ ∃ d, ds = [d] ∧ DCh ch d ∧ FitB d ∧ stopN d (nextB ch R) = false ∧ R2 = nextB d (nextB ch R))
/-- Behind apply. -/
def FIN (B px : Nat) (s : Sc) (TA : Option Addr) (tc : Nat) (ts : List Tr) (fire : Bool) (ch : ChM) (R : Nat → List Row) (qs : List ChM) (va : Value) (w wr : World) : Prop :=
  ∃ ds R2, Casc fire ch R ds R2 ∧ PN B px s TA tc ts R2 (qs ++ ch :: ds) va w wr
section
variable {B px : Nat} {s : Sc} {TA : Option Addr} {tc : Nat} {ts : List Tr} {ch : ChM} {R R2 : Nat → List Row} {IA : Option Addr} {ic : Nat} {rs : List RelM} {va va6 : Value} {qs qs2 : List ChM} {w w2 w6 w9 wr w' : World}
theorem PN.base (h : PN B px s TA tc ts R2 qs2 va w2 wr) (hb : Below w.heap.size w w2) (hB : B ≤ w.heap.size) : PN B px s TA tc ts R2 qs2 va w wr := by
  obtain ⟨A4, c4, rs', va', hx, hd, hc, hbl, hk⟩ := h
  exact ⟨A4, c4, rs', va', hx, hd, hc, (hb.mono hB).trans hbl, fun k hk0 => hk k (hk0.fr hb)⟩
theorem PN.up (h : PN B px s TA tc ts R2 qs2 va w w6) (hb : Below w6.heap.size w6 wr) : PN B px s TA tc ts R2 qs2 va w wr := by
  obtain ⟨A4, c4, rs', va', hx, hd, hc, hbl, hk⟩ := h
  have hBs : B ≤ w6.heap.size := by have := hx.hB; have := hx.lt; omega
  exact ⟨A4, c4, rs', va', hx.below hb, hd, fun q hq => (hc q hq).fr hb, hbl.trans (hb.mono hBs), fun k hk0 => (hk k hk0).fr hb⟩
theorem PN.after (h : PN B px s TA tc ts R2 qs2 va6 w9 w') (hb6 : Below B w w6) (hk6 : ∀ k, KOk (Free px va w) w k → KOk (Free px va6 w6) w6 k) (hb69 : Below w6.heap.size w6 w9) (hB : B ≤ w6.heap.size) : PN B px s TA tc ts R2 qs2 va w w' := by
  obtain ⟨A4, c4, rs', va', hx, hd, hc, hbl, hk⟩ := h
  exact ⟨A4, c4, rs', va', hx, hd, hc, (hb6.trans (hb69.mono hB)).trans hbl, fun k hk0 => hk k ((hk6 k hk0).fr hb69)⟩
end

/-- Whether the derived change's key is there. -/
theorem stop_dch {ch d d' : ChM} {R : Nat → List Row} (h : DCh ch d) (h' : DCh ch d') : stopN d R = stopN d' R := by
  have ht : tiOf d = 1 := tiOf_tab (by omega) h.nm
  have ht' : tiOf d' = 1 := tiOf_tab (by omega) h'.nm
  have hkk : kkOf d = kkOf ch := by
    unfold kkOf
    rw [if_neg (by rw [h.kind]; decide), h.key]
    exact Int.toNat_natCast _
  have hkk' : kkOf d' = kkOf ch := by
    unfold kkOf
    rw [if_neg (by rw [h'.kind]; decide), h'.key]
    exact Int.toNat_natCast _
  unfold stopN
  rw [ht, ht', hkk, hkk', h.kind, h'.kind]

set_option linter.unusedSimpArgs false in
set_option maxRecDepth 100000 in
set_option maxHeartbeats 8000000 in
theorem applyNU {B px : Nat} {s : Sc} {TA : Option Addr} {tc : Nat} {ch : ChM} {R : Nat → List Row} {IA : Option Addr} {ic : Nat} {rs : List RelM} {va : Value} {qs : List ChM} {w : World} (hs : BV s) (h : XB B px s TA tc [] ch R IA ic rs va qs w) (hk : ch.kind = 1) :
    Calls Tryz.prog 40 #[ptr px, .agg ch.cells, .int .i64 0] w fun e w' => e = .returned (.int .i64 0) ∧ FIN B px s TA tc [] false ch R qs va w w' := by
  obtain ⟨rl, hrl⟩ : ∃ rl, ch.row.row.length = rl := ⟨_, rfl⟩
  have hkl : ch.key.row.length = 0 := by rcases h.fit.fit with ⟨h1, h2, -⟩ | ⟨h1, -, h3, -⟩ <;> first | (rw [h1] at hk; exact absurd hk (by decide)) | (rw [h2]; rfl) | (rw [h3]; rfl)
  have hBw : B ≤ w.heap.size := Nat.le_trans h.x.hB (Nat.le_of_lt h.x.lt)
  obtain ⟨w1, hw1⟩ : ∃ w1, w1 = w.alloc (.cells ch.cells 51) := ⟨_, rfl⟩
  have hb1 : Below w.heap.size w w1 := by rw [hw1]; exact (Below.refl _ _).alloc (Nat.le_refl _) _
  have hg1 : w1.heap[w.heap.size]? = some (.cells ch.cells 51 (0, 0)) := by rw [hw1]; exact heap_alloc_new w _
  have hs1 : w.heap.size < w1.heap.size := by rw [hw1]; simp
  have HBX : Hid (∀ W, Below w1.heap.size w1 W → W.heap[w.heap.size]? = some (.cells ch.cells 51 (0, 0))) := Lib.hid fun W hW => (hW.block _ hs1).trans hg1
  have HCB : Hid (∀ W, CB4 w.heap.size ch W → W.cell? ⟨w.heap.size, 0, none⟩ = some (.int .i64 1) ∧ W.cell? ⟨w.heap.size, 1, none⟩ = some (.string ch.name) ∧ W.cell? ⟨w.heap.size, 2, none⟩ = some (.slice ch.key.A 0 ch.key.c) ∧ W.cell? ⟨w.heap.size, 3, none⟩ = some (.slice ch.row.A rl ch.row.c)) := Lib.hid fun W hW => by
    unfold CB4 at hW
    rw [hk, hkl, hrl] at hW
    exact hW
  have HPX : Hid (∀ W, Below w.heap.size w W → W.cell? ⟨px, 0, none⟩ = some (.slice s.TA s.tabs.length s.tc) ∧ W.cell? ⟨px, 1, none⟩ = some (.slice s.FA s.fks.length s.fc) ∧ W.cell? ⟨px, 2, none⟩ = some (.slice s.NA s.cns.length s.nc) ∧ W.cell? ⟨px, 4, none⟩ = some (.slice IA rs.length ic) ∧ W.cell? ⟨px, 5, none⟩ = some va) := Lib.hid fun W hW => by
    have h := (h.x.below hW).blk
    unfold exC at h
    exact ⟨cell_of_row _ _ 0 _ _ _ h, cell_of_row _ _ 1 _ _ _ h, cell_of_row _ _ 2 _ _ _ h, cell_of_row _ _ 4 _ _ _ h, cell_of_row _ _ 5 _ _ _ h⟩
  have HCU := Lib.hid fun W (hW : Below w.heap.size w W) => h.curU hs hk hW
  have HAP := Lib.hid fun W (hW : Below w.heap.size w W) => h.applyY hs (by unfold stopN; rw [decide_eq_false (by omega : ¬ ch.kind = 2)]; rfl) hW
  have HH := Lib.hid h
  have HFB : Hid (Free px va w1 w.heap.size) := Lib.hid ⟨hs1, fun e => by have := h.x.lt; omega, fun e => by have := (Own.lt h.x.app _ e).2; omega⟩
  have hql := h.len
  obtain ⟨VA, vc, hva, -, -⟩ := h.x.app.form
  obtain ⟨m, hm⟩ : ∃ m, qs.length = m := ⟨_, rfl⟩
  rw [hm] at hva hql
  have HVA := Lib.hid hva
  have hm24 : ((m : Int) == 24) = false := by simp; omega
  have hm24' : ¬ (m : Int) = 24 := by omega
  have HBW := Lib.hid hBw
  have HKD := Lib.hid (And.intro hk (And.intro hkl hrl))
  have HB1 := Lib.hid hb1
  have HW1 := Lib.hid hw1
  obtain ⟨k0, k1, k2, k3⟩ := HCB.out w1 (CB4.of hg1)
  unfold ChM.cells at HW1 HAP HCU ⊢
  rw [hk, hkl, hrl] at HW1 HAP HCU ⊢
  unfold Sc.v Sc.cells at HAP
  clear h hk hkl hrl hb1 hg1 hs1 hw1 hm hs hva hBw
  go_enter Tryz.func40, Tryz.ntmps40
  go_upto_region 1 with fail
  rw [← HW1.out]
  go_wp2_with fail
  refine (HCU.out w1 HB1.out).mono ?_
  rintro e w2 ⟨⟨oA, on, oc, rfl⟩, hb2⟩
  have HB2 := Lib.hid (And.intro hb2 (HB1.out.trans (hb2.mono HB1.out.size)))
  clear hb2 k0 k1 k2 k3 HCU
  obtain ⟨k0, k1, k2, k3⟩ := HCB.out w2 (CB4.of (HBX.out w2 HB2.out.1))
  go_upto_region 2 with fail
  go_cut [40] from 19 to 40 (fun v40 wx => v40 = .bool false ∧ w2 = wx)
  case first =>
    go_wp2_with fail
    go_meet
    exact ⟨rfl, rfl⟩
  case rest =>
    obtain ⟨rfl, rfl⟩ := hcut
    obtain ⟨x0, x1, x2, x4, x5⟩ := HPX.out w2 HB2.out.2
    rw [HVA.out] at x5
    go_upto_region 8 with fail
    go_cut [8, 9] from 49 to 62 (fun v8 v9 wx => v9 = .int .i64 0 ∧ ∃ A4 n4 c4 rs', v8 = .slice A4 n4 c4 ∧ InO w2.heap.size w2 wx (.slice A4 n4 c4) rs' (bD (nextB ch R)))
    case first =>
      have HSX : Hid (∀ W, Below w2.heap.size w2 W → W.cell? ⟨px, 0, none⟩ = some (.slice s.TA s.tabs.length s.tc) ∧ W.cell? ⟨px, 1, none⟩ = some (.slice s.FA s.fks.length s.fc) ∧ W.cell? ⟨px, 2, none⟩ = some (.slice s.NA s.cns.length s.nc) ∧ W.cell? ⟨px, 4, none⟩ = some (.slice IA rs.length ic) ∧ W.cell? ⟨w.heap.size, 0, none⟩ = some (.int .i64 1) ∧ W.cell? ⟨w.heap.size, 1, none⟩ = some (.string ch.name) ∧ W.cell? ⟨w.heap.size, 2, none⟩ = some (.slice ch.key.A 0 ch.key.c) ∧ W.cell? ⟨w.heap.size, 3, none⟩ = some (.slice ch.row.A rl ch.row.c)) := Lib.hid fun W hW => by
        obtain ⟨x0, x1, x2, x4, -⟩ := HPX.out W (HB2.out.2.trans (hW.mono HB2.out.2.size))
        exact ⟨x0, x1, x2, x4, HCB.out W (CB4.of (HBX.out W (HB2.out.1.trans (hW.mono HB2.out.1.size))))⟩
      have HAC : Hid (∀ m, Calls Tryz.prog 74 #[.agg #[.slice s.TA s.tabs.length s.tc, .slice s.FA s.fks.length s.fc, .slice s.NA s.cns.length s.nc], .slice IA rs.length ic, .slice (some ⟨w2.heap.size, 0, none⟩) 1 1] ((w2.drewN m).alloc (.cells #[.int .i64 1, .string ch.name, .slice ch.key.A 0 ch.key.c, .slice ch.row.A rl ch.row.c] 51)) fun e w4 => ∃ A4 n4 c4 rs', e = .returned (.tuple #[.slice A4 n4 c4, .int .i64 0]) ∧ Below w2.heap.size w2 w4 ∧ Hid (InO w2.heap.size w2 w4 (.slice A4 n4 c4) rs' (bD (nextB ch R)))) := Lib.hid fun m => by
        have hd : Below w2.heap.size w2 (w2.drewN m) := below_drewN (Below.refl _ _) m
        have hc := HAP.out (w2.drewN m) (HB2.out.2.trans (hd.mono HB2.out.2.size))
        refine hc.mono ?_
        rintro e w4 ⟨v4, rs', rfl, ho⟩
        obtain ⟨A4, c4, rfl, -, -⟩ := ho.own.form
        have ho' : InO w2.heap.size w2 w4 (.slice A4 rs'.length c4) rs' (bD (nextB ch R)) := ⟨ho.own.mono hd.size, ho.dat, fun r hr => (ho.rel r hr).more fun g hg => ⟨Nat.le_trans hd.size hg.1, hg.2⟩, hd.trans (ho.bel.mono hd.size)⟩
        exact ⟨A4, _, c4, rs', rfl, ho'.bel, Lib.hid ho'⟩
      have s2 := HSX.out w2 (Below.refl _ _)
      have hsa : ∀ o, Below w2.heap.size w2 (w2.drew.alloc o) := fun o => (Below.refl _ _).drew.alloc (Nat.le_refl _) o
      have HSA := Lib.hid fun o => HSX.out _ (hsa o)
      clear hsa x0 x1 x2 x4 x5 k0 k1 k2 k3
      go_region_held3 (fun W => W.cell? ⟨px, 0, none⟩ = some (.slice s.TA s.tabs.length s.tc) ∧ W.cell? ⟨px, 1, none⟩ = some (.slice s.FA s.fks.length s.fc) ∧ W.cell? ⟨px, 2, none⟩ = some (.slice s.NA s.cns.length s.nc) ∧ W.cell? ⟨px, 4, none⟩ = some (.slice IA rs.length ic) ∧ W.cell? ⟨w.heap.size, 0, none⟩ = some (.int .i64 1) ∧ W.cell? ⟨w.heap.size, 1, none⟩ = some (.string ch.name) ∧ W.cell? ⟨w.heap.size, 2, none⟩ = some (.slice ch.key.A 0 ch.key.c) ∧ W.cell? ⟨w.heap.size, 3, none⟩ = some (.slice ch.row.A rl ch.row.c)) (first | exact s2 | exact s4 | exact HSA.out _)
        (first
        | (go_at_call 74; refine (HAC.out 1).mono ?_; rintro e w4 ⟨A4, n4, c4, rs', rfl, hb4, HIO⟩; have s4 := HSX.out w4 hb4))
      all_goals
        clear hb4 s4
        go_wp2_with fail
        go_meet
        exact ⟨rfl, A4, n4, c4, rs', rfl, HIO.out⟩
    case rest =>
      obtain ⟨rfl, A4, n4, c4, rs', rfl, hio⟩ := hcut
      obtain ⟨w4, rfl⟩ : ∃ w4, w4 = wc := ⟨_, rfl⟩
      clear x0 x1 x2 x4 x5 k0 k1 k2 k3 HAP
      have hb24 := hio.bel
      have hb14 := HB2.out.1.trans (hb24.mono HB2.out.1.size)
      have hbw4 := HB2.out.2.trans (hb24.mono HB2.out.2.size)
      obtain ⟨k0, k1, k2, k3⟩ := HCB.out w4 (CB4.of (HBX.out w4 hb14))
      obtain ⟨-, -, -, -, x5⟩ := HPX.out w4 hbw4
      rw [HVA.out] at x5
      have HX2 := Lib.hid (HH.out.x.below HB2.out.2)
      have hd4 : Below w4.heap.size w4 w4.drew := (Below.refl _ _).drew
      have hio' : InO w2.heap.size w2 w4.drew (.slice A4 n4 c4) rs' (bD (nextB ch R)) := hio.below hd4 hb24.size
      have HAP2 : Hid (∀ ty, ∃ v5 w5, (Builtin.append_ #[32, 32] ty #[.slice VA m vc, .slice (some ⟨w4.heap.size, 0, none⟩) 1 1]).run Tryz.prog (w4.drew.alloc (.cells #[.int .i64 1, .string ch.name, .slice ch.key.A 0 ch.key.c, .slice ch.row.A rl ch.row.c] 51)) = .ok v5 w5
          ∧ ∃ A5 n5 c5, v5 = .slice A5 n5 c5 ∧ Hid (∀ W, (W = w5 ∨ W = w5.setCell ⟨px, 4, none⟩ (.slice A4 n4 c4) ∨ W = (w5.setCell ⟨px, 4, none⟩ (.slice A4 n4 c4)).setCell ⟨px, 5, none⟩ (.slice A5 n5 c5)) → W.cell? ⟨w.heap.size, 0, none⟩ = some (.int .i64 1) ∧ W.cell? ⟨w.heap.size, 1, none⟩ = some (.string ch.name) ∧ W.cell? ⟨w.heap.size, 2, none⟩ = some (.slice ch.key.A 0 ch.key.c) ∧ W.cell? ⟨w.heap.size, 3, none⟩ = some (.slice ch.row.A rl ch.row.c))
            ∧ (∃ q, w5.cell? ⟨px, 4, none⟩ = some q) ∧ (∃ q, w5.cell? ⟨px, 5, none⟩ = some q) ∧ (w5.frozen? ⟨px, 4, none⟩ = false ∧ w5.frozen? ⟨px, 5, none⟩ = false) ∧ Hid (PN B px s TA tc [] (nextB ch R) (qs ++ [ch]) va w2 ((w5.setCell ⟨px, 4, none⟩ (.slice A4 n4 c4)).setCell ⟨px, 5, none⟩ (.slice A5 n5 c5)))) := Lib.hid fun ty => by
        have hfb : Free px va w2 w.heap.size := HFB.out.up HB2.out.1.size
        obtain ⟨v5, w5, hrun, A5, n5, c5, rfl, q1, q2, q3, q4, q5, q6, q7⟩ := HX2.out.appendN hio' (g := w.heap.size) hfb (HBX.out w2 HB2.out.1) HH.out.len (fun q hq => (HH.out.cos q hq).fr HB2.out.2) (HH.out.co.fr HB2.out.2) ty
        rw [HVA.out, HKD.out.1, HKD.out.2.1, HKD.out.2.2] at hrun
        refine ⟨_, w5, hrun, A5, n5, c5, rfl, Lib.hid fun W hW => ?_, q4, q5, q6, q7⟩
        rcases hW with rfl | rfl | rfl
        · exact HCB.out _ q1
        · exact HCB.out _ q2
        · exact HCB.out _ q3
      have hsa : ∀ o, Below w4.heap.size w4 (w4.drew.alloc o) := fun o => hd4.alloc (Nat.le_refl _) o
      have x5a : ∀ o, (w4.alloc o).cell? ⟨px, 5, none⟩ = some (.slice VA m vc) := fun o => by rw [← HVA.out]; exact (HPX.out _ (hbw4.alloc hbw4.size o)).2.2.2.2
      have HSA := Lib.hid fun o => HCB.out _ (CB4.of (HBX.out _ (hb14.trans ((hsa o).mono hb14.size))))
      have s4 := And.intro k0 (And.intro k1 (And.intro k2 k3))
      clear hio hb24 hb14 hbw4 hd4 hio' hsa
      go_upto_region 11 with fail
      go_cut [] from 66 to 79 (fun wx => PN B px s TA tc [] (nextB ch R) (qs ++ [ch]) va w2 wx ∧ wx.cell? ⟨w.heap.size, 0, none⟩ = some (.int .i64 1) ∧ wx.cell? ⟨w.heap.size, 1, none⟩ = some (.string ch.name) ∧ wx.cell? ⟨w.heap.size, 2, none⟩ = some (.slice ch.key.A 0 ch.key.c) ∧ wx.cell? ⟨w.heap.size, 3, none⟩ = some (.slice ch.row.A rl ch.row.c))
      case first =>
        refine wp_region_held_drew (S := (fun wx => wx.cell? ⟨w.heap.size, 0, none⟩ = some (.int .i64 1) ∧ wx.cell? ⟨w.heap.size, 1, none⟩ = some (.string ch.name) ∧ wx.cell? ⟨w.heap.size, 2, none⟩ = some (.slice ch.key.A 0 ch.key.c) ∧ wx.cell? ⟨w.heap.size, 3, none⟩ = some (.slice ch.row.A rl ch.row.c))) (by kernel_rfl) s4 (fun hHeld => ?_)
        refine wpAnyH_take (i := 0) (oi := _) (v := ?_) rfl (by kernel_rfl) (by kernel_rfl) (by kernel_rfl) (fun _ _ _ h => h) (Or.inl ⟨by rfl, ?_⟩) hHeld ?_
        rotate_left
        · intro w hSw; (try dsimp only at hSw); go_simp; with_reducible rfl
        simp only [Act.put, List.setIfInBounds_toArray, List.set_cons_zero, List.set_cons_succ, List.getElem_toArray, List.getElem_cons_succ, List.getElem_cons_zero]
        refine wpAnyH_take (i := 1) (oi := _) (v := ?_) rfl (by kernel_rfl) (by kernel_rfl) (by kernel_rfl) (fun _ _ _ h => h) (Or.inl ⟨by rfl, ?_⟩) hHeld ?_
        rotate_left
        · intro w hSw; (try dsimp only at hSw); go_simp; with_reducible rfl
        simp only [Act.put, List.setIfInBounds_toArray, List.set_cons_zero, List.set_cons_succ, List.getElem_toArray, List.getElem_cons_succ, List.getElem_cons_zero]
        refine wpAnyH_take (i := 2) (oi := _) (v := ?_) rfl (by kernel_rfl) (by kernel_rfl) (by kernel_rfl) (fun _ _ _ h => h) (Or.inl ⟨by rfl, ?_⟩) hHeld ?_
        rotate_left
        · intro w hSw; (try dsimp only at hSw); go_simp; with_reducible rfl
        simp only [Act.put, List.setIfInBounds_toArray, List.set_cons_zero, List.set_cons_succ, List.getElem_toArray, List.getElem_cons_succ, List.getElem_cons_zero]
        refine wpAnyH_take (i := 3) (oi := _) (v := ?_) rfl (by kernel_rfl) (by kernel_rfl) (by kernel_rfl) (fun _ _ _ h => h) (Or.inl ⟨by rfl, ?_⟩) hHeld ?_
        rotate_left
        · intro w hSw; (try dsimp only at hSw); go_simp; with_reducible rfl
        simp only [Act.put, List.setIfInBounds_toArray, List.set_cons_zero, List.set_cons_succ, List.getElem_toArray, List.getElem_cons_succ, List.getElem_cons_zero]
        refine wpAnyH_take (i := 4) (oi := _) (v := ?_) rfl (by kernel_rfl) (by kernel_rfl) (by kernel_rfl) (fun _ _ _ h => h) (Or.inl ⟨by rfl, ?_⟩) hHeld ?_
        rotate_left
        · intro w hSw; (try dsimp only at hSw); go_simp; with_reducible rfl
        simp only [Act.put, List.setIfInBounds_toArray, List.set_cons_zero, List.set_cons_succ, List.getElem_toArray, List.getElem_cons_succ, List.getElem_cons_zero]
        refine wpAnyH_take (i := 5) (oi := _) (v := ?_) rfl (by kernel_rfl) (by kernel_rfl) (by kernel_rfl) (fun _ _ _ h => h) (Or.inl ⟨by rfl, ?_⟩) hHeld ?_
        rotate_left
        · intro w hSw; (try dsimp only at hSw); go_simp; with_reducible rfl
        simp only [Act.put, List.setIfInBounds_toArray, List.set_cons_zero, List.set_cons_succ, List.getElem_toArray, List.getElem_cons_succ, List.getElem_cons_zero]
        refine wpAnyH_take (i := 7) (oi := _) (v := ?_) rfl (by kernel_rfl) (by kernel_rfl) (by kernel_rfl) (fun _ _ _ h => h) (Or.inl ⟨by rfl, ?_⟩) hHeld ?_
        rotate_left
        · intro w hSw; (try dsimp only at hSw); go_simp; with_reducible rfl
        simp only [Act.put, List.setIfInBounds_toArray, List.set_cons_zero, List.set_cons_succ, List.getElem_toArray, List.getElem_cons_succ, List.getElem_cons_zero]
        refine wpAnyH_ready (rs := [6, 8]) (by kernel_rfl) (by simp) ?_
        refine AllReadyH.cons (o := _) rfl (fun K hK => ?_) (AllReadyH.cons (o := _) rfl (fun K hK => ?_) AllReadyH.nil)
        · go_simp
          refine hK.out _ _ hHeld (fun hHeld => ?_)
          clear hK K
          try simp only [Act.put, List.setIfInBounds_toArray, List.set_cons_zero, List.set_cons_succ, List.getElem_toArray, List.getElem_cons_succ, List.getElem_cons_zero]
          refine wpAnyH_ready (rs := [8]) (by kernel_rfl) (by simp) ?_
          refine AllReadyH.cons (o := _) rfl (fun K hK => ?_) AllReadyH.nil
          go_simp
          refine hK.out _ _ (HSA.out _) (fun hHeld => ?_)
          clear hK K
          try simp only [Act.put, List.setIfInBounds_toArray, List.set_cons_zero, List.set_cons_succ, List.getElem_toArray, List.getElem_cons_succ, List.getElem_cons_zero]
          refine wpAnyH_ready (rs := [9]) (by kernel_rfl) (by simp) ?_
          refine AllReadyH.cons (o := _) rfl (fun K hK => ?_) AllReadyH.nil
          (refine step_app (by rfl) (.tmp 72) (.tmp 74) _ _ (by rfl) (by rfl) (by rfl) (HAP2.out _) ?_; rintro v5 w5 ⟨A5, n5, c5, rfl, HC5, ⟨q4, hq4⟩, ⟨q5, hq5⟩, ⟨hf4, hf5⟩, HPS⟩; have s5 := HC5.out _ (.inl rfl); have s6 := HC5.out _ (.inr (.inl rfl)); have s7 := HC5.out _ (.inr (.inr rfl)))
          refine hK.out _ _ s5 (fun hHeld => ?_)
          clear hK K
          try simp only [Act.put, List.setIfInBounds_toArray, List.set_cons_zero, List.set_cons_succ, List.getElem_toArray, List.getElem_cons_succ, List.getElem_cons_zero]
          refine wpAnyH_take (i := 10) (oi := _) (v := ?_) rfl (by kernel_rfl) (by kernel_rfl) (by kernel_rfl) (fun _ _ _ h => h) (Or.inl ⟨by rfl, ?_⟩) hHeld ?_
          rotate_left
          · intro w hSw; (try dsimp only at hSw); go_simp; with_reducible rfl
          simp only [Act.put, List.setIfInBounds_toArray, List.set_cons_zero, List.set_cons_succ, List.getElem_toArray, List.getElem_cons_succ, List.getElem_cons_zero]
          refine wpAnyH_take (i := 11) (oi := _) (v := ?_) rfl (by kernel_rfl) (by kernel_rfl) (by kernel_rfl) (fun _ _ _ h => h) (Or.inl ⟨by rfl, ?_⟩) hHeld ?_
          rotate_left
          · intro w hSw; (try dsimp only at hSw); go_simp; with_reducible rfl
          simp only [Act.put, List.setIfInBounds_toArray, List.set_cons_zero, List.set_cons_succ, List.getElem_toArray, List.getElem_cons_succ, List.getElem_cons_zero]
          refine wpAnyH_ready (rs := [12]) (by kernel_rfl) (by simp) ?_
          refine AllReadyH.cons (o := _) rfl (fun K hK => ?_) AllReadyH.nil
          go_simp
          refine hK.out _ _ s6 (fun hHeld => ?_)
          clear hK K
          try simp only [Act.put, List.setIfInBounds_toArray, List.set_cons_zero, List.set_cons_succ, List.getElem_toArray, List.getElem_cons_succ, List.getElem_cons_zero]
          refine wpAnyH_take (i := 13) (oi := _) (v := ?_) rfl (by kernel_rfl) (by kernel_rfl) (by kernel_rfl) (fun _ _ _ h => h) (Or.inl ⟨by rfl, ?_⟩) hHeld ?_
          rotate_left
          · intro w hSw; (try dsimp only at hSw); go_simp; with_reducible rfl
          simp only [Act.put, List.setIfInBounds_toArray, List.set_cons_zero, List.set_cons_succ, List.getElem_toArray, List.getElem_cons_succ, List.getElem_cons_zero]
          refine wpAnyH_take (i := 14) (oi := _) (v := ?_) rfl (by kernel_rfl) (by kernel_rfl) (by kernel_rfl) (fun _ _ _ h => h) (Or.inl ⟨by rfl, ?_⟩) hHeld ?_
          rotate_left
          · intro w hSw; (try dsimp only at hSw); go_simp; with_reducible rfl
          simp only [Act.put, List.setIfInBounds_toArray, List.set_cons_zero, List.set_cons_succ, List.getElem_toArray, List.getElem_cons_succ, List.getElem_cons_zero]
          refine wpAnyH_ready (rs := [15]) (by kernel_rfl) (by simp) ?_
          refine AllReadyH.cons (o := _) rfl (fun K hK => ?_) AllReadyH.nil
          go_simp
          refine hK.out _ _ s7 (fun hHeld => ?_)
          clear hK K
          try simp only [Act.put, List.setIfInBounds_toArray, List.set_cons_zero, List.set_cons_succ, List.getElem_toArray, List.getElem_cons_succ, List.getElem_cons_zero]
          refine wpAnyH_done (by kernel_rfl) ?_ _
          go_wp2_with fail
          go_meet
          exact ⟨HPS.out, s7⟩
        · go_simp
          refine hK.out _ _ (HSA.out _) (fun hHeld => ?_)
          clear hK K
          try simp only [Act.put, List.setIfInBounds_toArray, List.set_cons_zero, List.set_cons_succ, List.getElem_toArray, List.getElem_cons_succ, List.getElem_cons_zero]
          refine wpAnyH_ready (rs := [6]) (by kernel_rfl) (by simp) ?_
          refine AllReadyH.cons (o := _) rfl (fun K hK => ?_) AllReadyH.nil
          go_simp
          refine hK.out _ _ hHeld (fun hHeld => ?_)
          clear hK K
          try simp only [Act.put, List.setIfInBounds_toArray, List.set_cons_zero, List.set_cons_succ, List.getElem_toArray, List.getElem_cons_succ, List.getElem_cons_zero]
          refine wpAnyH_ready (rs := [9]) (by kernel_rfl) (by simp) ?_
          refine AllReadyH.cons (o := _) rfl (fun K hK => ?_) AllReadyH.nil
          (refine step_app (by rfl) (.tmp 72) (.tmp 74) _ _ (by rfl) (by rfl) (by rfl) (HAP2.out _) ?_; rintro v5 w5 ⟨A5, n5, c5, rfl, HC5, ⟨q4, hq4⟩, ⟨q5, hq5⟩, ⟨hf4, hf5⟩, HPS⟩; have s5 := HC5.out _ (.inl rfl); have s6 := HC5.out _ (.inr (.inl rfl)); have s7 := HC5.out _ (.inr (.inr rfl)))
          refine hK.out _ _ s5 (fun hHeld => ?_)
          clear hK K
          try simp only [Act.put, List.setIfInBounds_toArray, List.set_cons_zero, List.set_cons_succ, List.getElem_toArray, List.getElem_cons_succ, List.getElem_cons_zero]
          refine wpAnyH_take (i := 10) (oi := _) (v := ?_) rfl (by kernel_rfl) (by kernel_rfl) (by kernel_rfl) (fun _ _ _ h => h) (Or.inl ⟨by rfl, ?_⟩) hHeld ?_
          rotate_left
          · intro w hSw; (try dsimp only at hSw); go_simp; with_reducible rfl
          simp only [Act.put, List.setIfInBounds_toArray, List.set_cons_zero, List.set_cons_succ, List.getElem_toArray, List.getElem_cons_succ, List.getElem_cons_zero]
          refine wpAnyH_take (i := 11) (oi := _) (v := ?_) rfl (by kernel_rfl) (by kernel_rfl) (by kernel_rfl) (fun _ _ _ h => h) (Or.inl ⟨by rfl, ?_⟩) hHeld ?_
          rotate_left
          · intro w hSw; (try dsimp only at hSw); go_simp; with_reducible rfl
          simp only [Act.put, List.setIfInBounds_toArray, List.set_cons_zero, List.set_cons_succ, List.getElem_toArray, List.getElem_cons_succ, List.getElem_cons_zero]
          refine wpAnyH_ready (rs := [12]) (by kernel_rfl) (by simp) ?_
          refine AllReadyH.cons (o := _) rfl (fun K hK => ?_) AllReadyH.nil
          go_simp
          refine hK.out _ _ s6 (fun hHeld => ?_)
          clear hK K
          try simp only [Act.put, List.setIfInBounds_toArray, List.set_cons_zero, List.set_cons_succ, List.getElem_toArray, List.getElem_cons_succ, List.getElem_cons_zero]
          refine wpAnyH_take (i := 13) (oi := _) (v := ?_) rfl (by kernel_rfl) (by kernel_rfl) (by kernel_rfl) (fun _ _ _ h => h) (Or.inl ⟨by rfl, ?_⟩) hHeld ?_
          rotate_left
          · intro w hSw; (try dsimp only at hSw); go_simp; with_reducible rfl
          simp only [Act.put, List.setIfInBounds_toArray, List.set_cons_zero, List.set_cons_succ, List.getElem_toArray, List.getElem_cons_succ, List.getElem_cons_zero]
          refine wpAnyH_take (i := 14) (oi := _) (v := ?_) rfl (by kernel_rfl) (by kernel_rfl) (by kernel_rfl) (fun _ _ _ h => h) (Or.inl ⟨by rfl, ?_⟩) hHeld ?_
          rotate_left
          · intro w hSw; (try dsimp only at hSw); go_simp; with_reducible rfl
          simp only [Act.put, List.setIfInBounds_toArray, List.set_cons_zero, List.set_cons_succ, List.getElem_toArray, List.getElem_cons_succ, List.getElem_cons_zero]
          refine wpAnyH_ready (rs := [15]) (by kernel_rfl) (by simp) ?_
          refine AllReadyH.cons (o := _) rfl (fun K hK => ?_) AllReadyH.nil
          go_simp
          refine hK.out _ _ s7 (fun hHeld => ?_)
          clear hK K
          try simp only [Act.put, List.setIfInBounds_toArray, List.set_cons_zero, List.set_cons_succ, List.getElem_toArray, List.getElem_cons_succ, List.getElem_cons_zero]
          refine wpAnyH_done (by kernel_rfl) ?_ _
          go_wp2_with fail
          go_meet
          exact ⟨HPS.out, s7⟩
      case rest =>
        obtain ⟨hpn, k0', k1', k2', k3'⟩ := hcut
        obtain ⟨w6, rfl⟩ : ∃ w6, w6 = wc := ⟨_, rfl⟩
        clear k0 k1 k2 k3 x5 x5a HAP2 HSA s4 HCB HBX HPX HFB HX2
        have hpn := hpn.base HB2.out.2 HBW.out
        have HPN := Lib.hid hpn
        obtain ⟨A6, c6, rs6, va6, hx6, hd6, hcos6, hb6, hk6⟩ := hpn
        have y3 : w6.cell? ⟨px, 3, none⟩ = some (.slice TA 0 tc) := by
          have h := hx6.blk
          unfold exC at h
          exact cell_of_row _ _ 3 _ _ _ h
        clear hx6 hd6 hcos6 hb6 hk6
        go_upto_region 15 with fail
        go_wp2_with fail
        go_loopw [91] (fun vi wr => vi = .int .i64 0 ∧ w6 = wr) (fun _ _ => 0)
        case atStart => exact ⟨rfl, rfl⟩
        case round =>
          obtain ⟨rfl, rfl⟩ := hrel
          go_wp2_with fail
          go_ret
          exact ⟨rfl, [], _, .inl ⟨rfl, rfl, fun e => by cases e⟩, HPN.out⟩

set_option linter.unusedSimpArgs false in
set_option maxRecDepth 100000 in
set_option maxHeartbeats 8000000 in
theorem applyND {B px : Nat} {s : Sc} {TA : Option Addr} {tc : Nat} {ch : ChM} {R : Nat → List Row} {IA : Option Addr} {ic : Nat} {rs : List RelM} {va : Value} {qs : List ChM} {w : World} {D : Nat} (hs : BV s) (h : XB B px s TA tc [] ch R IA ic rs va qs w) (hk : ch.kind = 2) (hn : stopN ch R = false) (hD : D ≤ 6) :
    Calls Tryz.prog 40 #[ptr px, .agg ch.cells, .int .i64 (D : Int)] w fun e w' => e = .returned (.int .i64 0) ∧ FIN B px s TA tc [] false ch R qs va w w' := by
  obtain ⟨rl, hrl⟩ : ∃ rl, ch.row.row.length = rl := ⟨_, rfl⟩
  have hkl : ch.key.row.length = 1 := by rcases h.fit.fit with ⟨h1, h2, -⟩ | ⟨h1, -, h3, -⟩ <;> first | (rw [h1] at hk; exact absurd hk (by decide)) | (rw [h2]; rfl) | (rw [h3]; rfl)
  have hrl0 : ch.row.row.length = 0 := by rcases h.fit.fit with ⟨h1, -⟩ | ⟨h1, h2, -⟩ <;> first | (rw [h1] at hk; exact absurd hk (by decide)) | (rw [h2]; rfl)
  rw [hrl0] at hrl
  subst hrl
  have hrl := hrl0
  clear hrl0
  have hBw : B ≤ w.heap.size := Nat.le_trans h.x.hB (Nat.le_of_lt h.x.lt)
  obtain ⟨w1, hw1⟩ : ∃ w1, w1 = w.alloc (.cells ch.cells 51) := ⟨_, rfl⟩
  have hb1 : Below w.heap.size w w1 := by rw [hw1]; exact (Below.refl _ _).alloc (Nat.le_refl _) _
  have hg1 : w1.heap[w.heap.size]? = some (.cells ch.cells 51 (0, 0)) := by rw [hw1]; exact heap_alloc_new w _
  have hs1 : w.heap.size < w1.heap.size := by rw [hw1]; simp
  have HBX : Hid (∀ W, Below w1.heap.size w1 W → W.heap[w.heap.size]? = some (.cells ch.cells 51 (0, 0))) := Lib.hid fun W hW => (hW.block _ hs1).trans hg1
  have HCB : Hid (∀ W, CB4 w.heap.size ch W → W.cell? ⟨w.heap.size, 0, none⟩ = some (.int .i64 2) ∧ W.cell? ⟨w.heap.size, 1, none⟩ = some (.string ch.name) ∧ W.cell? ⟨w.heap.size, 2, none⟩ = some (.slice ch.key.A 1 ch.key.c) ∧ W.cell? ⟨w.heap.size, 3, none⟩ = some (.slice ch.row.A 0 ch.row.c)) := Lib.hid fun W hW => by
    unfold CB4 at hW
    rw [hk, hkl, hrl] at hW
    exact hW
  have HPX : Hid (∀ W, Below w.heap.size w W → W.cell? ⟨px, 0, none⟩ = some (.slice s.TA s.tabs.length s.tc) ∧ W.cell? ⟨px, 1, none⟩ = some (.slice s.FA s.fks.length s.fc) ∧ W.cell? ⟨px, 2, none⟩ = some (.slice s.NA s.cns.length s.nc) ∧ W.cell? ⟨px, 4, none⟩ = some (.slice IA rs.length ic) ∧ W.cell? ⟨px, 5, none⟩ = some va) := Lib.hid fun W hW => by
    have h := (h.x.below hW).blk
    unfold exC at h
    exact ⟨cell_of_row _ _ 0 _ _ _ h, cell_of_row _ _ 1 _ _ _ h, cell_of_row _ _ 2 _ _ _ h, cell_of_row _ _ 4 _ _ _ h, cell_of_row _ _ 5 _ _ _ h⟩
  have HCU := Lib.hid fun W (hW : Below w.heap.size w W) => h.curY hs hk hn hW
  have HAP := Lib.hid fun W (hW : Below w.heap.size w W) => h.applyY hs hn hW
  have HH := Lib.hid h
  have HFB : Hid (Free px va w1 w.heap.size) := Lib.hid ⟨hs1, fun e => by have := h.x.lt; omega, fun e => by have := (Own.lt h.x.app _ e).2; omega⟩
  have hql := h.len
  obtain ⟨VA, vc, hva, -, -⟩ := h.x.app.form
  obtain ⟨m, hm⟩ : ∃ m, qs.length = m := ⟨_, rfl⟩
  rw [hm] at hva hql
  have HVA := Lib.hid hva
  have hm24 : ((m : Int) == 24) = false := by simp; omega
  have hm24' : ¬ (m : Int) = 24 := by omega
  have HBW := Lib.hid hBw
  have HKD := Lib.hid (And.intro hk (And.intro hkl hrl))
  have HB1 := Lib.hid hb1
  have HW1 := Lib.hid hw1
  obtain ⟨k0, k1, k2, k3⟩ := HCB.out w1 (CB4.of hg1)
  unfold ChM.cells at HW1 HAP HCU ⊢
  rw [hk, hkl, hrl] at HW1 HAP HCU ⊢
  unfold Sc.v Sc.cells at HAP
  clear h hk hkl hrl hb1 hg1 hs1 hw1 hm hs hva hBw hn
  go_enter Tryz.func40, Tryz.ntmps40
  go_upto_region 1 with fail
  rw [← HW1.out]
  go_wp2_with fail
  refine (HCU.out w1 HB1.out).mono ?_
  rintro e w2 ⟨⟨oa, oc, row, rfl, hold, hrg, hdg⟩, hb2⟩
  have hol : row.length ≤ 1000 := by have := hold.len; have : row.length ≤ 12 := this; omega
  have hol0 : 0 < row.length := by
    have h6 := hrg.fit.len
    have h7 : 0 < (bCols (tiOf ch)).length := by
      have := HH.out.fit.tab.2
      rcases (by omega : tiOf ch = 0 ∨ tiOf ch = 1) with e | e <;> rw [e] <;> decide
    omega
  have HOLD := Lib.hid (And.intro hold (And.intro hrg hdg))
  obtain ⟨ol, horl⟩ : ∃ ol, row.length = ol := ⟨_, rfl⟩
  rw [horl] at hol hol0 ⊢
  have HORL := Lib.hid horl
  have hEN : ∀ W, (binOp .eql 48 (.slice (some oa) ol oc) (.slice none 0 0)).run Tryz.prog W = .ok (.bool false) W := fun W => Lib.run_eql_slice_nil W _ _ _ _ _ _ _ Tryz.underlying48
  clear hold hrg hdg horl
  have HB2 := Lib.hid (And.intro hb2 (HB1.out.trans (hb2.mono HB1.out.size)))
  clear hb2 k0 k1 k2 k3 HCU
  obtain ⟨k0, k1, k2, k3⟩ := HCB.out w2 (CB4.of (HBX.out w2 HB2.out.1))
  go_upto_region 2 with fail
  go_cut [40] from 19 to 40 (fun v40 wx => v40 = .bool false ∧ w2 = wx)
  case first =>
    by_cases hD0 : D = 0
    · have hd0 : ¬ (0 : Int) < (D : Int) := by omega
      clear hD0
      go_wp2_with fail
      go_meet
      exact ⟨rfl, rfl⟩
    · have hd0 : (0 : Int) < (D : Int) := by omega
      clear hD0
      go_wp2_with fail
      go_meet
      exact ⟨rfl, rfl⟩
  case rest =>
    obtain ⟨rfl, rfl⟩ := hcut
    have hD6 : ¬ (6 : Int) < (D : Int) := by omega
    obtain ⟨x0, x1, x2, x4, x5⟩ := HPX.out w2 HB2.out.2
    rw [HVA.out] at x5
    go_upto_region 8 with fail
    go_cut [8, 9] from 49 to 62 (fun v8 v9 wx => v9 = .int .i64 0 ∧ ∃ A4 n4 c4 rs', v8 = .slice A4 n4 c4 ∧ InO w2.heap.size w2 wx (.slice A4 n4 c4) rs' (bD (nextB ch R)))
    case first =>
      have HSX : Hid (∀ W, Below w2.heap.size w2 W → W.cell? ⟨px, 0, none⟩ = some (.slice s.TA s.tabs.length s.tc) ∧ W.cell? ⟨px, 1, none⟩ = some (.slice s.FA s.fks.length s.fc) ∧ W.cell? ⟨px, 2, none⟩ = some (.slice s.NA s.cns.length s.nc) ∧ W.cell? ⟨px, 4, none⟩ = some (.slice IA rs.length ic) ∧ W.cell? ⟨w.heap.size, 0, none⟩ = some (.int .i64 2) ∧ W.cell? ⟨w.heap.size, 1, none⟩ = some (.string ch.name) ∧ W.cell? ⟨w.heap.size, 2, none⟩ = some (.slice ch.key.A 1 ch.key.c) ∧ W.cell? ⟨w.heap.size, 3, none⟩ = some (.slice ch.row.A 0 ch.row.c)) := Lib.hid fun W hW => by
        obtain ⟨x0, x1, x2, x4, -⟩ := HPX.out W (HB2.out.2.trans (hW.mono HB2.out.2.size))
        exact ⟨x0, x1, x2, x4, HCB.out W (CB4.of (HBX.out W (HB2.out.1.trans (hW.mono HB2.out.1.size))))⟩
      have HAC : Hid (∀ m, Calls Tryz.prog 74 #[.agg #[.slice s.TA s.tabs.length s.tc, .slice s.FA s.fks.length s.fc, .slice s.NA s.cns.length s.nc], .slice IA rs.length ic, .slice (some ⟨w2.heap.size, 0, none⟩) 1 1] ((w2.drewN m).alloc (.cells #[.int .i64 2, .string ch.name, .slice ch.key.A 1 ch.key.c, .slice ch.row.A 0 ch.row.c] 51)) fun e w4 => ∃ A4 n4 c4 rs', e = .returned (.tuple #[.slice A4 n4 c4, .int .i64 0]) ∧ Below w2.heap.size w2 w4 ∧ Hid (InO w2.heap.size w2 w4 (.slice A4 n4 c4) rs' (bD (nextB ch R)))) := Lib.hid fun m => by
        have hd : Below w2.heap.size w2 (w2.drewN m) := below_drewN (Below.refl _ _) m
        have hc := HAP.out (w2.drewN m) (HB2.out.2.trans (hd.mono HB2.out.2.size))
        refine hc.mono ?_
        rintro e w4 ⟨v4, rs', rfl, ho⟩
        obtain ⟨A4, c4, rfl, -, -⟩ := ho.own.form
        have ho' : InO w2.heap.size w2 w4 (.slice A4 rs'.length c4) rs' (bD (nextB ch R)) := ⟨ho.own.mono hd.size, ho.dat, fun r hr => (ho.rel r hr).more fun g hg => ⟨Nat.le_trans hd.size hg.1, hg.2⟩, hd.trans (ho.bel.mono hd.size)⟩
        exact ⟨A4, _, c4, rs', rfl, ho'.bel, Lib.hid ho'⟩
      have s2 := HSX.out w2 (Below.refl _ _)
      have hsa : ∀ o, Below w2.heap.size w2 (w2.drew.alloc o) := fun o => (Below.refl _ _).drew.alloc (Nat.le_refl _) o
      have HSA := Lib.hid fun o => HSX.out _ (hsa o)
      clear hsa x0 x1 x2 x4 x5 k0 k1 k2 k3
      go_region_held3 (fun W => W.cell? ⟨px, 0, none⟩ = some (.slice s.TA s.tabs.length s.tc) ∧ W.cell? ⟨px, 1, none⟩ = some (.slice s.FA s.fks.length s.fc) ∧ W.cell? ⟨px, 2, none⟩ = some (.slice s.NA s.cns.length s.nc) ∧ W.cell? ⟨px, 4, none⟩ = some (.slice IA rs.length ic) ∧ W.cell? ⟨w.heap.size, 0, none⟩ = some (.int .i64 2) ∧ W.cell? ⟨w.heap.size, 1, none⟩ = some (.string ch.name) ∧ W.cell? ⟨w.heap.size, 2, none⟩ = some (.slice ch.key.A 1 ch.key.c) ∧ W.cell? ⟨w.heap.size, 3, none⟩ = some (.slice ch.row.A 0 ch.row.c)) (first | exact s2 | exact s4 | exact HSA.out _)
        (first
        | (go_at_call 74; refine (HAC.out 1).mono ?_; rintro e w4 ⟨A4, n4, c4, rs', rfl, hb4, HIO⟩; have s4 := HSX.out w4 hb4))
      all_goals
        clear hb4 s4
        go_wp2_with fail
        go_meet
        exact ⟨rfl, A4, n4, c4, rs', rfl, HIO.out⟩
    case rest =>
      obtain ⟨rfl, A4, n4, c4, rs', rfl, hio⟩ := hcut
      obtain ⟨w4, rfl⟩ : ∃ w4, w4 = wc := ⟨_, rfl⟩
      clear x0 x1 x2 x4 x5 k0 k1 k2 k3 HAP
      have hb24 := hio.bel
      have hb14 := HB2.out.1.trans (hb24.mono HB2.out.1.size)
      have hbw4 := HB2.out.2.trans (hb24.mono HB2.out.2.size)
      obtain ⟨k0, k1, k2, k3⟩ := HCB.out w4 (CB4.of (HBX.out w4 hb14))
      obtain ⟨-, -, -, -, x5⟩ := HPX.out w4 hbw4
      rw [HVA.out] at x5
      have HX2 := Lib.hid (HH.out.x.below HB2.out.2)
      have hd4 : Below w4.heap.size w4 w4.drew := (Below.refl _ _).drew
      have hio' : InO w2.heap.size w2 w4.drew (.slice A4 n4 c4) rs' (bD (nextB ch R)) := hio.below hd4 hb24.size
      have HAP2 : Hid (∀ ty, ∃ v5 w5, (Builtin.append_ #[32, 32] ty #[.slice VA m vc, .slice (some ⟨w4.heap.size, 0, none⟩) 1 1]).run Tryz.prog (w4.drew.alloc (.cells #[.int .i64 2, .string ch.name, .slice ch.key.A 1 ch.key.c, .slice ch.row.A 0 ch.row.c] 51)) = .ok v5 w5
          ∧ ∃ A5 n5 c5, v5 = .slice A5 n5 c5 ∧ Hid (∀ W, (W = w5 ∨ W = w5.setCell ⟨px, 4, none⟩ (.slice A4 n4 c4) ∨ W = (w5.setCell ⟨px, 4, none⟩ (.slice A4 n4 c4)).setCell ⟨px, 5, none⟩ (.slice A5 n5 c5)) → W.cell? ⟨w.heap.size, 0, none⟩ = some (.int .i64 2) ∧ W.cell? ⟨w.heap.size, 1, none⟩ = some (.string ch.name) ∧ W.cell? ⟨w.heap.size, 2, none⟩ = some (.slice ch.key.A 1 ch.key.c) ∧ W.cell? ⟨w.heap.size, 3, none⟩ = some (.slice ch.row.A 0 ch.row.c))
            ∧ (∃ q, w5.cell? ⟨px, 4, none⟩ = some q) ∧ (∃ q, w5.cell? ⟨px, 5, none⟩ = some q) ∧ (w5.frozen? ⟨px, 4, none⟩ = false ∧ w5.frozen? ⟨px, 5, none⟩ = false) ∧ Hid (PN B px s TA tc [] (nextB ch R) (qs ++ [ch]) va w2 ((w5.setCell ⟨px, 4, none⟩ (.slice A4 n4 c4)).setCell ⟨px, 5, none⟩ (.slice A5 n5 c5)))) := Lib.hid fun ty => by
        have hfb : Free px va w2 w.heap.size := HFB.out.up HB2.out.1.size
        obtain ⟨v5, w5, hrun, A5, n5, c5, rfl, q1, q2, q3, q4, q5, q6, q7⟩ := HX2.out.appendN hio' (g := w.heap.size) hfb (HBX.out w2 HB2.out.1) HH.out.len (fun q hq => (HH.out.cos q hq).fr HB2.out.2) (HH.out.co.fr HB2.out.2) ty
        rw [HVA.out, HKD.out.1, HKD.out.2.1, HKD.out.2.2] at hrun
        refine ⟨_, w5, hrun, A5, n5, c5, rfl, Lib.hid fun W hW => ?_, q4, q5, q6, q7⟩
        rcases hW with rfl | rfl | rfl
        · exact HCB.out _ q1
        · exact HCB.out _ q2
        · exact HCB.out _ q3
      have hsa : ∀ o, Below w4.heap.size w4 (w4.drew.alloc o) := fun o => hd4.alloc (Nat.le_refl _) o
      have x5a : ∀ o, (w4.alloc o).cell? ⟨px, 5, none⟩ = some (.slice VA m vc) := fun o => by rw [← HVA.out]; exact (HPX.out _ (hbw4.alloc hbw4.size o)).2.2.2.2
      have HSA := Lib.hid fun o => HCB.out _ (CB4.of (HBX.out _ (hb14.trans ((hsa o).mono hb14.size))))
      have s4 := And.intro k0 (And.intro k1 (And.intro k2 k3))
      clear hio hb24 hb14 hbw4 hd4 hio' hsa
      go_upto_region 11 with fail
      go_cut [] from 66 to 79 (fun wx => PN B px s TA tc [] (nextB ch R) (qs ++ [ch]) va w2 wx ∧ wx.cell? ⟨w.heap.size, 0, none⟩ = some (.int .i64 2) ∧ wx.cell? ⟨w.heap.size, 1, none⟩ = some (.string ch.name) ∧ wx.cell? ⟨w.heap.size, 2, none⟩ = some (.slice ch.key.A 1 ch.key.c) ∧ wx.cell? ⟨w.heap.size, 3, none⟩ = some (.slice ch.row.A 0 ch.row.c))
      case first =>
        refine wp_region_held_drew (S := (fun wx => wx.cell? ⟨w.heap.size, 0, none⟩ = some (.int .i64 2) ∧ wx.cell? ⟨w.heap.size, 1, none⟩ = some (.string ch.name) ∧ wx.cell? ⟨w.heap.size, 2, none⟩ = some (.slice ch.key.A 1 ch.key.c) ∧ wx.cell? ⟨w.heap.size, 3, none⟩ = some (.slice ch.row.A 0 ch.row.c))) (by kernel_rfl) s4 (fun hHeld => ?_)
        refine wpAnyH_take (i := 0) (oi := _) (v := ?_) rfl (by kernel_rfl) (by kernel_rfl) (by kernel_rfl) (fun _ _ _ h => h) (Or.inl ⟨by rfl, ?_⟩) hHeld ?_
        rotate_left
        · intro w hSw; (try dsimp only at hSw); go_simp; with_reducible rfl
        simp only [Act.put, List.setIfInBounds_toArray, List.set_cons_zero, List.set_cons_succ, List.getElem_toArray, List.getElem_cons_succ, List.getElem_cons_zero]
        refine wpAnyH_take (i := 1) (oi := _) (v := ?_) rfl (by kernel_rfl) (by kernel_rfl) (by kernel_rfl) (fun _ _ _ h => h) (Or.inl ⟨by rfl, ?_⟩) hHeld ?_
        rotate_left
        · intro w hSw; (try dsimp only at hSw); go_simp; with_reducible rfl
        simp only [Act.put, List.setIfInBounds_toArray, List.set_cons_zero, List.set_cons_succ, List.getElem_toArray, List.getElem_cons_succ, List.getElem_cons_zero]
        refine wpAnyH_take (i := 2) (oi := _) (v := ?_) rfl (by kernel_rfl) (by kernel_rfl) (by kernel_rfl) (fun _ _ _ h => h) (Or.inl ⟨by rfl, ?_⟩) hHeld ?_
        rotate_left
        · intro w hSw; (try dsimp only at hSw); go_simp; with_reducible rfl
        simp only [Act.put, List.setIfInBounds_toArray, List.set_cons_zero, List.set_cons_succ, List.getElem_toArray, List.getElem_cons_succ, List.getElem_cons_zero]
        refine wpAnyH_take (i := 3) (oi := _) (v := ?_) rfl (by kernel_rfl) (by kernel_rfl) (by kernel_rfl) (fun _ _ _ h => h) (Or.inl ⟨by rfl, ?_⟩) hHeld ?_
        rotate_left
        · intro w hSw; (try dsimp only at hSw); go_simp; with_reducible rfl
        simp only [Act.put, List.setIfInBounds_toArray, List.set_cons_zero, List.set_cons_succ, List.getElem_toArray, List.getElem_cons_succ, List.getElem_cons_zero]
        refine wpAnyH_take (i := 4) (oi := _) (v := ?_) rfl (by kernel_rfl) (by kernel_rfl) (by kernel_rfl) (fun _ _ _ h => h) (Or.inl ⟨by rfl, ?_⟩) hHeld ?_
        rotate_left
        · intro w hSw; (try dsimp only at hSw); go_simp; with_reducible rfl
        simp only [Act.put, List.setIfInBounds_toArray, List.set_cons_zero, List.set_cons_succ, List.getElem_toArray, List.getElem_cons_succ, List.getElem_cons_zero]
        refine wpAnyH_take (i := 5) (oi := _) (v := ?_) rfl (by kernel_rfl) (by kernel_rfl) (by kernel_rfl) (fun _ _ _ h => h) (Or.inl ⟨by rfl, ?_⟩) hHeld ?_
        rotate_left
        · intro w hSw; (try dsimp only at hSw); go_simp; with_reducible rfl
        simp only [Act.put, List.setIfInBounds_toArray, List.set_cons_zero, List.set_cons_succ, List.getElem_toArray, List.getElem_cons_succ, List.getElem_cons_zero]
        refine wpAnyH_take (i := 7) (oi := _) (v := ?_) rfl (by kernel_rfl) (by kernel_rfl) (by kernel_rfl) (fun _ _ _ h => h) (Or.inl ⟨by rfl, ?_⟩) hHeld ?_
        rotate_left
        · intro w hSw; (try dsimp only at hSw); go_simp; with_reducible rfl
        simp only [Act.put, List.setIfInBounds_toArray, List.set_cons_zero, List.set_cons_succ, List.getElem_toArray, List.getElem_cons_succ, List.getElem_cons_zero]
        refine wpAnyH_ready (rs := [6, 8]) (by kernel_rfl) (by simp) ?_
        refine AllReadyH.cons (o := _) rfl (fun K hK => ?_) (AllReadyH.cons (o := _) rfl (fun K hK => ?_) AllReadyH.nil)
        · go_simp
          refine hK.out _ _ hHeld (fun hHeld => ?_)
          clear hK K
          try simp only [Act.put, List.setIfInBounds_toArray, List.set_cons_zero, List.set_cons_succ, List.getElem_toArray, List.getElem_cons_succ, List.getElem_cons_zero]
          refine wpAnyH_ready (rs := [8]) (by kernel_rfl) (by simp) ?_
          refine AllReadyH.cons (o := _) rfl (fun K hK => ?_) AllReadyH.nil
          go_simp
          refine hK.out _ _ (HSA.out _) (fun hHeld => ?_)
          clear hK K
          try simp only [Act.put, List.setIfInBounds_toArray, List.set_cons_zero, List.set_cons_succ, List.getElem_toArray, List.getElem_cons_succ, List.getElem_cons_zero]
          refine wpAnyH_ready (rs := [9]) (by kernel_rfl) (by simp) ?_
          refine AllReadyH.cons (o := _) rfl (fun K hK => ?_) AllReadyH.nil
          (refine step_app (by rfl) (.tmp 72) (.tmp 74) _ _ (by rfl) (by rfl) (by rfl) (HAP2.out _) ?_; rintro v5 w5 ⟨A5, n5, c5, rfl, HC5, ⟨q4, hq4⟩, ⟨q5, hq5⟩, ⟨hf4, hf5⟩, HPS⟩; have s5 := HC5.out _ (.inl rfl); have s6 := HC5.out _ (.inr (.inl rfl)); have s7 := HC5.out _ (.inr (.inr rfl)))
          refine hK.out _ _ s5 (fun hHeld => ?_)
          clear hK K
          try simp only [Act.put, List.setIfInBounds_toArray, List.set_cons_zero, List.set_cons_succ, List.getElem_toArray, List.getElem_cons_succ, List.getElem_cons_zero]
          refine wpAnyH_take (i := 10) (oi := _) (v := ?_) rfl (by kernel_rfl) (by kernel_rfl) (by kernel_rfl) (fun _ _ _ h => h) (Or.inl ⟨by rfl, ?_⟩) hHeld ?_
          rotate_left
          · intro w hSw; (try dsimp only at hSw); go_simp; with_reducible rfl
          simp only [Act.put, List.setIfInBounds_toArray, List.set_cons_zero, List.set_cons_succ, List.getElem_toArray, List.getElem_cons_succ, List.getElem_cons_zero]
          refine wpAnyH_take (i := 11) (oi := _) (v := ?_) rfl (by kernel_rfl) (by kernel_rfl) (by kernel_rfl) (fun _ _ _ h => h) (Or.inl ⟨by rfl, ?_⟩) hHeld ?_
          rotate_left
          · intro w hSw; (try dsimp only at hSw); go_simp; with_reducible rfl
          simp only [Act.put, List.setIfInBounds_toArray, List.set_cons_zero, List.set_cons_succ, List.getElem_toArray, List.getElem_cons_succ, List.getElem_cons_zero]
          refine wpAnyH_ready (rs := [12]) (by kernel_rfl) (by simp) ?_
          refine AllReadyH.cons (o := _) rfl (fun K hK => ?_) AllReadyH.nil
          go_simp
          refine hK.out _ _ s6 (fun hHeld => ?_)
          clear hK K
          try simp only [Act.put, List.setIfInBounds_toArray, List.set_cons_zero, List.set_cons_succ, List.getElem_toArray, List.getElem_cons_succ, List.getElem_cons_zero]
          refine wpAnyH_take (i := 13) (oi := _) (v := ?_) rfl (by kernel_rfl) (by kernel_rfl) (by kernel_rfl) (fun _ _ _ h => h) (Or.inl ⟨by rfl, ?_⟩) hHeld ?_
          rotate_left
          · intro w hSw; (try dsimp only at hSw); go_simp; with_reducible rfl
          simp only [Act.put, List.setIfInBounds_toArray, List.set_cons_zero, List.set_cons_succ, List.getElem_toArray, List.getElem_cons_succ, List.getElem_cons_zero]
          refine wpAnyH_take (i := 14) (oi := _) (v := ?_) rfl (by kernel_rfl) (by kernel_rfl) (by kernel_rfl) (fun _ _ _ h => h) (Or.inl ⟨by rfl, ?_⟩) hHeld ?_
          rotate_left
          · intro w hSw; (try dsimp only at hSw); go_simp; with_reducible rfl
          simp only [Act.put, List.setIfInBounds_toArray, List.set_cons_zero, List.set_cons_succ, List.getElem_toArray, List.getElem_cons_succ, List.getElem_cons_zero]
          refine wpAnyH_ready (rs := [15]) (by kernel_rfl) (by simp) ?_
          refine AllReadyH.cons (o := _) rfl (fun K hK => ?_) AllReadyH.nil
          go_simp
          refine hK.out _ _ s7 (fun hHeld => ?_)
          clear hK K
          try simp only [Act.put, List.setIfInBounds_toArray, List.set_cons_zero, List.set_cons_succ, List.getElem_toArray, List.getElem_cons_succ, List.getElem_cons_zero]
          refine wpAnyH_done (by kernel_rfl) ?_ _
          go_wp2_with fail
          go_meet
          exact ⟨HPS.out, s7⟩
        · go_simp
          refine hK.out _ _ (HSA.out _) (fun hHeld => ?_)
          clear hK K
          try simp only [Act.put, List.setIfInBounds_toArray, List.set_cons_zero, List.set_cons_succ, List.getElem_toArray, List.getElem_cons_succ, List.getElem_cons_zero]
          refine wpAnyH_ready (rs := [6]) (by kernel_rfl) (by simp) ?_
          refine AllReadyH.cons (o := _) rfl (fun K hK => ?_) AllReadyH.nil
          go_simp
          refine hK.out _ _ hHeld (fun hHeld => ?_)
          clear hK K
          try simp only [Act.put, List.setIfInBounds_toArray, List.set_cons_zero, List.set_cons_succ, List.getElem_toArray, List.getElem_cons_succ, List.getElem_cons_zero]
          refine wpAnyH_ready (rs := [9]) (by kernel_rfl) (by simp) ?_
          refine AllReadyH.cons (o := _) rfl (fun K hK => ?_) AllReadyH.nil
          (refine step_app (by rfl) (.tmp 72) (.tmp 74) _ _ (by rfl) (by rfl) (by rfl) (HAP2.out _) ?_; rintro v5 w5 ⟨A5, n5, c5, rfl, HC5, ⟨q4, hq4⟩, ⟨q5, hq5⟩, ⟨hf4, hf5⟩, HPS⟩; have s5 := HC5.out _ (.inl rfl); have s6 := HC5.out _ (.inr (.inl rfl)); have s7 := HC5.out _ (.inr (.inr rfl)))
          refine hK.out _ _ s5 (fun hHeld => ?_)
          clear hK K
          try simp only [Act.put, List.setIfInBounds_toArray, List.set_cons_zero, List.set_cons_succ, List.getElem_toArray, List.getElem_cons_succ, List.getElem_cons_zero]
          refine wpAnyH_take (i := 10) (oi := _) (v := ?_) rfl (by kernel_rfl) (by kernel_rfl) (by kernel_rfl) (fun _ _ _ h => h) (Or.inl ⟨by rfl, ?_⟩) hHeld ?_
          rotate_left
          · intro w hSw; (try dsimp only at hSw); go_simp; with_reducible rfl
          simp only [Act.put, List.setIfInBounds_toArray, List.set_cons_zero, List.set_cons_succ, List.getElem_toArray, List.getElem_cons_succ, List.getElem_cons_zero]
          refine wpAnyH_take (i := 11) (oi := _) (v := ?_) rfl (by kernel_rfl) (by kernel_rfl) (by kernel_rfl) (fun _ _ _ h => h) (Or.inl ⟨by rfl, ?_⟩) hHeld ?_
          rotate_left
          · intro w hSw; (try dsimp only at hSw); go_simp; with_reducible rfl
          simp only [Act.put, List.setIfInBounds_toArray, List.set_cons_zero, List.set_cons_succ, List.getElem_toArray, List.getElem_cons_succ, List.getElem_cons_zero]
          refine wpAnyH_ready (rs := [12]) (by kernel_rfl) (by simp) ?_
          refine AllReadyH.cons (o := _) rfl (fun K hK => ?_) AllReadyH.nil
          go_simp
          refine hK.out _ _ s6 (fun hHeld => ?_)
          clear hK K
          try simp only [Act.put, List.setIfInBounds_toArray, List.set_cons_zero, List.set_cons_succ, List.getElem_toArray, List.getElem_cons_succ, List.getElem_cons_zero]
          refine wpAnyH_take (i := 13) (oi := _) (v := ?_) rfl (by kernel_rfl) (by kernel_rfl) (by kernel_rfl) (fun _ _ _ h => h) (Or.inl ⟨by rfl, ?_⟩) hHeld ?_
          rotate_left
          · intro w hSw; (try dsimp only at hSw); go_simp; with_reducible rfl
          simp only [Act.put, List.setIfInBounds_toArray, List.set_cons_zero, List.set_cons_succ, List.getElem_toArray, List.getElem_cons_succ, List.getElem_cons_zero]
          refine wpAnyH_take (i := 14) (oi := _) (v := ?_) rfl (by kernel_rfl) (by kernel_rfl) (by kernel_rfl) (fun _ _ _ h => h) (Or.inl ⟨by rfl, ?_⟩) hHeld ?_
          rotate_left
          · intro w hSw; (try dsimp only at hSw); go_simp; with_reducible rfl
          simp only [Act.put, List.setIfInBounds_toArray, List.set_cons_zero, List.set_cons_succ, List.getElem_toArray, List.getElem_cons_succ, List.getElem_cons_zero]
          refine wpAnyH_ready (rs := [15]) (by kernel_rfl) (by simp) ?_
          refine AllReadyH.cons (o := _) rfl (fun K hK => ?_) AllReadyH.nil
          go_simp
          refine hK.out _ _ s7 (fun hHeld => ?_)
          clear hK K
          try simp only [Act.put, List.setIfInBounds_toArray, List.set_cons_zero, List.set_cons_succ, List.getElem_toArray, List.getElem_cons_succ, List.getElem_cons_zero]
          refine wpAnyH_done (by kernel_rfl) ?_ _
          go_wp2_with fail
          go_meet
          exact ⟨HPS.out, s7⟩
      case rest =>
        obtain ⟨hpn, k0', k1', k2', k3'⟩ := hcut
        obtain ⟨w6, rfl⟩ : ∃ w6, w6 = wc := ⟨_, rfl⟩
        clear k0 k1 k2 k3 x5 x5a HAP2 HSA s4 HCB HBX HPX HFB HX2
        have hpn := hpn.base HB2.out.2 HBW.out
        have HPN := Lib.hid hpn
        obtain ⟨A6, c6, rs6, va6, hx6, hd6, hcos6, hb6, hk6⟩ := hpn
        have y3 : w6.cell? ⟨px, 3, none⟩ = some (.slice TA 0 tc) := by
          have h := hx6.blk
          unfold exC at h
          exact cell_of_row _ _ 3 _ _ _ h
        clear hx6 hd6 hcos6 hb6 hk6
        go_upto_region 15 with fail
        go_wp2_with fail
        go_loopw [91] (fun vi wr => vi = .int .i64 0 ∧ w6 = wr) (fun _ _ => 0)
        case atStart => exact ⟨rfl, rfl⟩
        case round =>
          obtain ⟨rfl, rfl⟩ := hrel
          go_wp2_with fail
          go_ret
          exact ⟨rfl, [], _, .inl ⟨rfl, rfl, fun e => by cases e⟩, HPN.out⟩
end Go.Proofs.YtefifkleamiabaaGreatDoor
