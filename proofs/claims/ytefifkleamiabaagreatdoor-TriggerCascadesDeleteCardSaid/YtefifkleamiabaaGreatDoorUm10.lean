/-
  The walks of slices.Equal at rows of different lengths, and of trigger.cloneChange.
  The executor in memory; change.Apply as the executor calls it.
  What a step of apply leaves; the triggers' cells. No program's walk.
  The walks of Mod, itemRow, BaseSchema, EmptyInstance.
  The walks of strconv.Itoa at one digit, of sized and foreignKeyID.
-/
import Derived.Test.YtefifkleamiabaaGreatDoorUm09
import Derived.Test.YtefifkleamiabaaGreatDoorUm06
import Derived.Test.YtefifkleamiabaaGreatDoorUm01
import Derived.Lib.SliceRun
namespace Go.Proofs.YtefifkleamiabaaGreatDoor
open Go.RowKit Go.Sort

theorem ret_cloneC {a b c d : Value} {g : Nat} {w : World} (tmps : Array Value) (hp : tmps.getD 2 undef = .pointer (some ⟨g, 0, none⟩)) (hg : w.heap[g]? = some (.cells #[a, b, c, d] 51 (0, 0))) :
    (results Tryz.f41 tmps).run Tryz.prog w = .ok (.agg #[a, b, c, d]) w :=
  results_cell_row (P := Tryz.prog) Tryz.results41 tmps w g 51 _ (0, 0) _ hp hg Tryz.underlying51 rfl (by kernel_rfl)

/-- The two boxes. -/
def CcX (g : Nat) (ch : ChM) (W : World) : Prop :=
  W.heap[g]? = some (.cells ch.cells 51 (0, 0)) ∧ W.heap[g + 1]? = some (.cells #[.int .i64 0, .string ⟨#[]⟩, .slice none 0 0, .slice none 0 0] 51 (0, 0))
theorem CcX.at {g : Nat} {kind : Int} {nm : ByteArray} {kA rA : Option Addr} {kc rc : Nat} {kr rr : Row} {W : World} (h : CcX g ⟨kind, nm, ⟨kA, kc, kr⟩, ⟨rA, rc, rr⟩⟩ W) :
    (W.cell? ⟨g, 0, none⟩ = some (.int .i64 kind) ∧ W.cell? ⟨g, 1, none⟩ = some (.string nm) ∧ W.cell? ⟨g, 2, none⟩ = some (.slice kA kr.length kc) ∧ W.cell? ⟨g, 3, none⟩ = some (.slice rA rr.length rc))
    ∧ (W.cell? ⟨g + 1, 0, none⟩ = some (.int .i64 0) ∧ W.cell? ⟨g + 1, 1, none⟩ = some (.string ⟨#[]⟩) ∧ W.cell? ⟨g + 1, 2, none⟩ = some (.slice none 0 0) ∧ W.cell? ⟨g + 1, 3, none⟩ = some (.slice none 0 0))
    ∧ (∀ i, W.frozen? ⟨g, i, none⟩ = false) ∧ (∀ i, W.frozen? ⟨g + 1, i, none⟩ = false) :=
  ⟨⟨cell_of_row _ _ 0 _ _ _ h.1, cell_of_row _ _ 1 _ _ _ h.1, cell_of_row _ _ 2 _ _ _ h.1, cell_of_row _ _ 3 _ _ _ h.1⟩, ⟨cell_of_row _ _ 0 _ _ _ h.2, cell_of_row _ _ 1 _ _ _ h.2, cell_of_row _ _ 2 _ _ _ h.2, cell_of_row _ _ 3 _ _ _ h.2⟩, fun i => frozen_of_row _ _ i _ _ h.1, fun i => frozen_of_row _ _ i _ _ h.2⟩
/-- Behind the first clone: the second. -/
def CcK (g base : Nat) (w1 : World) (ch : ChM) (e : Ending) (w2 : World) : Prop :=
  ∃ A2 c2, e = .returned (.slice A2 ch.key.row.length c2) ∧ CcX g ch w2
    ∧ Hid (Calls Tryz.prog 76 #[.slice ch.row.A ch.row.row.length ch.row.c] w2 fun e w3 => ∃ A3 c3, e = .returned (.slice A3 ch.row.row.length c3) ∧ CcX g ch w3
      ∧ Hid (Below base w1 w3 ∧ Own 3 Val.cs 60 w1.heap.size w3 (.slice A2 ch.key.row.length c2) ch.key.row ∧ Own 3 Val.cs 60 w1.heap.size w3 (.slice A3 ch.row.row.length c3) ch.row.row))
theorem cck {w w1 : World} {ch : ChM} (hb1 : Below w.heap.size w w1) (hs1 : w1.heap.size = w.heap.size + 2) (hx : CcX w.heap.size ch w1) (hc : ChOk (· < w.heap.size) w ch) (m : Nat) :
    Calls Tryz.prog 76 #[.slice ch.key.A ch.key.row.length ch.key.c] (w1.drewN m) (CcK w.heap.size w1.heap.size w1 ch) := by
  have hd : Below w1.heap.size w1 (w1.drewN m) := below_drewN (Below.refl _ _) m
  have hB : ∀ W, Below w1.heap.size w1 W → CcX w.heap.size ch W := fun W hW => ⟨(hW.block _ (by omega)).trans hx.1, (hW.block _ (by omega)).trans hx.2⟩
  have h1 := hb1.trans (hd.mono hb1.size)
  refine (cloneRow ch.key.A ch.key.row.length ch.key.c ch.key.row (w1.drewN m) _ (hc.key.on h1).el (fun _ h => h) rfl (by have := hc.key.len; omega)).mono ?_
  rintro e w2 ⟨v2, rfl, ho2, hb2⟩
  obtain ⟨A2, c2, rfl, -, -⟩ := ho2.form
  have hb12 := hd.trans hb2
  have h2 := hb1.trans (hb12.mono hb1.size)
  refine ⟨A2, c2, rfl, hB _ hb12, Lib.hid ?_⟩
  refine (cloneRow ch.row.A ch.row.row.length ch.row.c ch.row.row w2 _ (hc.row.on h2).el (fun _ h => h) rfl (by have := hc.row.len; omega)).mono ?_
  rintro e w3 ⟨v3, rfl, ho3, hb3⟩
  obtain ⟨A3, c3, rfl, -, -⟩ := ho3.form
  have hb13 := hb12.trans (hb3.mono hb12.size)
  exact ⟨A3, c3, rfl, hB _ hb13, Lib.hid ⟨hb13, (ho2.below hb3).mono hd.size, ho3.mono hb12.size⟩⟩

set_option maxRecDepth 100000 in
set_option maxHeartbeats 8000000 in
theorem cloneChange (ch : ChM) (w : World) (hc : ChOk (· < w.heap.size) w ch) :
    Calls Tryz.prog 41 #[.agg ch.cells] w fun e w' => ∃ ch' : ChM, e = .returned (.agg ch'.cells) ∧ ch'.kind = ch.kind ∧ ch'.name = ch.name ∧ ch'.key.row = ch.key.row ∧ ch'.row.row = ch.row.row ∧ ChOk (fun g => w.heap.size ≤ g ∧ g < w'.heap.size) w' ch' ∧ Below w.heap.size w w' := by
  obtain ⟨w1, hw1⟩ : ∃ w1, w1 = (w.alloc (.cells ch.cells 51)).alloc (.cells #[.int .i64 0, .string ⟨#[]⟩, .slice none 0 0, .slice none 0 0] 51) := ⟨_, rfl⟩
  have hb1 : Below w.heap.size w w1 := by rw [hw1]; exact ((Below.refl _ _).alloc (Nat.le_refl _) _).alloc (le_size1 (Nat.le_refl _) _) _
  have hg0 : w1.heap[w.heap.size]? = some (.cells ch.cells 51 (0, 0)) := by
    rw [hw1, Below.heap_alloc _ _ _ (by simp)]
    exact heap_alloc_new w _
  have hg1 : w1.heap[w.heap.size + 1]? = some (.cells #[.int .i64 0, .string ⟨#[]⟩, .slice none 0 0, .slice none 0 0] 51 (0, 0)) := by rw [hw1]; exact alloc2_at w _ _
  have hs1 : w1.heap.size = w.heap.size + 2 := by rw [hw1]; simp
  have HCK := Lib.hid fun m => cck hb1 hs1 ⟨hg0, hg1⟩ hc m
  have HLN := Lib.hid (And.intro hc.key.len hc.row.len)
  have HB1 := Lib.hid (And.intro hb1 hs1)
  have HW1 := Lib.hid hw1
  obtain ⟨kind, nm, ⟨kA, kc, kr⟩, ⟨rA, rc, rr⟩⟩ := ch
  unfold ChM.cells at HW1 hg0 ⊢
  simp only at HCK HW1 HLN hg0 ⊢
  have k0 := cell_of_row _ _ 0 _ _ _ hg0
  have k1 := cell_of_row _ _ 1 _ _ _ hg0
  have k2 := cell_of_row _ _ 2 _ _ _ hg0
  have k3 := cell_of_row _ _ 3 _ _ _ hg0
  clear hc hb1 hs1 hw1 hg0 hg1
  go_enter Tryz.func41, Tryz.ntmps41
  go_upto_region 1 with fail
  rw [← HW1.out]
  go_region_law (first
    | (go_simp; go_at_call 76; refine HRC.out.mono ?_; rintro e w3 ⟨A3, c3, rfl, hy, HFIN⟩; obtain ⟨⟨q0, q1, q2, q3⟩, ⟨r0, r1, r2, r3⟩, f0, f1⟩ := hy.at; have HY := Lib.hid hy; clear hy)
    | (go_simp; go_at_call 76; refine (HCK.out 1).mono ?_; rintro e w2 ⟨A2, c2, rfl, hz, HRC⟩; obtain ⟨⟨p0, p1, p2, p3⟩, -, -, -⟩ := hz.at; clear hz))
  all_goals
    go_wp2_with fail
    have hz : ((w3.setCell ⟨w.heap.size, 2, none⟩ (.slice A2 kr.length c2)).setCell ⟨w.heap.size, 3, none⟩ (.slice A3 rr.length c3)).heap[w.heap.size + 1]? = some (.cells #[.int .i64 0, .string ⟨#[]⟩, .slice none 0 0, .slice none 0 0] 51 (0, 0)) := by
      rw [Below.heap_setCell _ _ _ _ (by simp), Below.heap_setCell _ _ _ _ (by simp)]
      exact HY.out.2
    refine bodyPost_ret (ret_cloneC _ rfl (set4 hz)) rfl ?_
    obtain ⟨hbf, ho2, ho3⟩ := HFIN.out
    obtain ⟨hb1, hs1⟩ := HB1.out
    have h20 : ∀ g, (Value.slice A2 kr.length c2).ownBlock = some g → g ≠ w.heap.size := fun g hg => by have := (Own.lt ho2 g hg).1; omega
    have h21 : ∀ g, (Value.slice A2 kr.length c2).ownBlock = some g → g ≠ w.heap.size + 1 := fun g hg => by have := (Own.lt ho2 g hg).1; omega
    have h30 : ∀ g, (Value.slice A3 rr.length c3).ownBlock = some g → g ≠ w.heap.size := fun g hg => by have := (Own.lt ho3 g hg).1; omega
    have h31 : ∀ g, (Value.slice A3 rr.length c3).ownBlock = some g → g ≠ w.heap.size + 1 := fun g hg => by have := (Own.lt ho3 g hg).1; omega
    have e2 := ((((((ho2.mono hb1.size).setCell h20 (p := ⟨w.heap.size, 2, none⟩) (.slice A2 kr.length c2)).setCell h20 (p := ⟨w.heap.size, 3, none⟩) (.slice A3 rr.length c3)).setCell h21 (p := ⟨w.heap.size + 1, 0, none⟩) (.int .i64 kind)).setCell h21 (p := ⟨w.heap.size + 1, 1, none⟩) (.string nm)).setCell h21 (p := ⟨w.heap.size + 1, 2, none⟩) (.slice A2 kr.length c2)).setCell h21 (p := ⟨w.heap.size + 1, 3, none⟩) (.slice A3 rr.length c3)
    have e3 := ((((((ho3.mono hb1.size).setCell h30 (p := ⟨w.heap.size, 2, none⟩) (.slice A2 kr.length c2)).setCell h30 (p := ⟨w.heap.size, 3, none⟩) (.slice A3 rr.length c3)).setCell h31 (p := ⟨w.heap.size + 1, 0, none⟩) (.int .i64 kind)).setCell h31 (p := ⟨w.heap.size + 1, 1, none⟩) (.string nm)).setCell h31 (p := ⟨w.heap.size + 1, 2, none⟩) (.slice A2 kr.length c2)).setCell h31 (p := ⟨w.heap.size + 1, 3, none⟩) (.slice A3 rr.length c3)
    have hg0 : w.heap.size ≤ w.heap.size := Nat.le_refl _
    have hg1 : w.heap.size ≤ w.heap.size + 1 := Nat.le_succ _
    have hb := hb1.trans (hbf.mono hb1.size)
    exact ⟨⟨kind, nm, ⟨A2, c2, kr⟩, ⟨A3, c3, rr⟩⟩, rfl, rfl, rfl, rfl, rfl, ⟨⟨(e2.elems valLay.len rfl).more fun g hg => Own.lt e2 g hg, HLN.out.1⟩, ⟨(e3.elems valLay.len rfl).more fun g hg => Own.lt e3 g hg, HLN.out.2⟩⟩, (((((hb.setCell hg0 _).setCell hg0 _).setCell hg1 _).setCell hg1 _).setCell hg1 _).setCell hg1 _⟩
end Go.Proofs.YtefifkleamiabaaGreatDoor

namespace Go.Proofs.YtefifkleamiabaaGreatDoor
open Go.RowKit Go.Sort

theorem chmLay : Lay 4 ChM.cs := ⟨fun _ => rfl, fun x c hc => by simp [ChM.cs] at hc; rcases hc with rfl | rfl | rfl | rfl <;> rfl⟩
theorem elem_chg : ElemT Tryz.prog 32 51 4 72 := ⟨Tryz.underlying32, by
  have h : (Tryz.prog.info? 51).map (fun i => (i.zero, i.size, i.bytes)) = some (some (.agg #[.int .i64 0, .string ByteArray.empty, .slice none 0 0, .slice none 0 0]), 4, 72) := by kernel_rfl
  obtain ⟨i0, hi, hz0, hz1, hz2⟩ := info_parts h
  exact ⟨i0, _, hi, hz0, hz1, hz2, rfl⟩, by omega⟩
theorem ChOk.keep {S : Nat → Prop} {w w' : World} {c : ChM} (h : ChOk S w c) (hk : Keeps S w w') : ChOk S w' c := ⟨h.key.keep hk, h.row.keep hk⟩
theorem ChOk.more {S S' : Nat → Prop} {w : World} {c : ChM} (h : ChOk S w c) (hs : ∀ g, S g → S' g) : ChOk S' w c := ⟨h.key.more hs, h.row.more hs⟩

theorem elems_block {α : Type} {sz : Nat} {cs : α → List Value} {w : World} {xs : List α} {g : Nat} {cur : Array Value} {e : TypeId} (L : Lay sz cs) (hg : w.heap[g]? = some (.cells cur e (0, 0))) (hs : cur.size = xs.length * sz) (hm : xs.length ≤ maxLen) (ht : cur.toList = xs.flatMap cs) :
    Elems sz cs w (fun k => k = g) (some ⟨g, 0, none⟩) xs := by
  have h : Own sz cs e g w (.slice (some ⟨g, 0, none⟩) xs.length xs.length) xs := Own.shut L (Nat.le_refl _) hg rfl (Nat.le_refl _) hm hs (by rw [← hs, ← ht]; exact List.take_of_length_le (by simp))
  exact (h.elems L.len rfl).more fun k hk => by injection hk with hk; exact hk.symm
/-- A valid schema whose first table is item. -/
structure BsS (s : Sc) (a b : Int) : Prop where
  val : SchV s
  len : 0 < s.tabs.length
  nm : s.tabs[0].name = nItem
  cols : s.tabs[0].cols = itemCols
  pk : s.tabs[0].pk = [0]
  ti : tabI nItem s.tabs = 0
  fit : ∀ (full : Bool) (rs : List RelM), rs.map RelM.d = iData full a b → InC s.tabs rs
  ra : 0 ≤ a ∧ a < 7
  rb : 0 ≤ b ∧ b < 7

/-- The blocks that neither the executor nor its list of changes takes up. -/
def Free (px : Nat) (va : Value) (w : World) (g : Nat) : Prop := g < w.heap.size ∧ g ≠ px ∧ va.ownBlock ≠ some g
/-- The executor at px. -/
structure XIn (B px : Nat) (s : Sc) (TA : Option Addr) (tc : Nat) (ts : List Tr) (IA : Option Addr) (ic : Nat) (rs : List RelM) (va : Value) (qs : List ChM) (w : World) : Prop where
  hB : B ≤ px
  blk : w.heap[px]? = some (.cells (exC s (.slice TA ts.length tc) (.slice IA rs.length ic) va) 96 (0, 0))
  sc : ScOk (· < B) w s
  tg : TgOk (· < B) w TA ts
  inst : InOk (Free px va w) w IA rs
  app : Own 4 ChM.cs 51 B w va qs
  ne : va.ownBlock ≠ some px
section
variable {B px : Nat} {s : Sc} {TA : Option Addr} {tc : Nat} {ts : List Tr} {IA : Option Addr} {ic : Nat} {rs : List RelM} {va : Value} {qs : List ChM} {w W : World}
theorem XIn.lt (h : XIn B px s TA tc ts IA ic rs va qs w) : px < w.heap.size := (Array.getElem?_eq_some_iff.1 h.blk).1
theorem Free.up {g : Nat} (h : Free px va w g) (hs : w.heap.size ≤ W.heap.size) : Free px va W g := ⟨Nat.lt_of_lt_of_le h.1 hs, h.2.1, h.2.2⟩
theorem Free.keeps (hb : Below w.heap.size w W) : Keeps (Free px va w) w W := Keeps.of_below hb fun _ h => h.1
theorem XIn.below (h : XIn B px s TA tc ts IA ic rs va qs w) (hb : Below w.heap.size w W) : XIn B px s TA tc ts IA ic rs va qs W := by
  have hl := h.lt
  have hBl : ∀ g, g < B → g < w.heap.size := fun g hg => by have := h.hB; omega
  exact ⟨h.hB, (hb.block px hl).trans h.blk, h.sc.keep (Keeps.of_below hb hBl), h.tg.keep (Keeps.of_below hb hBl), (h.inst.keep (Free.keeps hb)).more fun g hg => hg.up hb.size, h.app.below hb, h.ne⟩
theorem XIn.scw (h : XIn B px s TA tc ts IA ic rs va qs w) : ScOk (· < w.heap.size) w s := h.sc.more fun _ hg => by have := h.hB; have := h.lt; omega
theorem XIn.tgw (h : XIn B px s TA tc ts IA ic rs va qs w) : TgOk (· < w.heap.size) w TA ts := h.tg.more fun _ hg => by have := h.hB; have := h.lt; omega
theorem XIn.inw (h : XIn B px s TA tc ts IA ic rs va qs w) : InOk (· < w.heap.size) w IA rs := h.inst.more fun _ hg => hg.1
theorem ChOk.frw {c : ChM} (h : ChOk (Free px va w) w c) : ChOk (· < w.heap.size) w c := h.more fun _ hg => hg.1
theorem ChOk.fr {c : ChM} (h : ChOk (Free px va w) w c) (hb : Below w.heap.size w W) : ChOk (Free px va W) W c := (h.keep (Free.keeps hb)).more fun _ hg => hg.up hb.size
theorem KOk.fr {k : Key} (h : KOk (Free px va w) w k) (hb : Below w.heap.size w W) : KOk (Free px va W) W k := (h.keep (Free.keeps hb)).more fun _ hg => hg.up hb.size

theorem set6 {w : World} {g : Nat} {t : TypeId} {c0 c1 c2 c3 c4 c5 v4 v5 : Value} (h : w.heap[g]? = some (.cells #[c0, c1, c2, c3, c4, c5] t (0, 0))) :
    ((w.setCell ⟨g, 4, none⟩ v4).setCell ⟨g, 5, none⟩ v5).heap[g]? = some (.cells #[c0, c1, c2, c3, v4, v5] t (0, 0)) := by
  rw [heap_setCell_at (heap_setCell_at h _) _]
  rfl
/-- Behind Apply and the append: the two stores. -/
theorem XIn.step (h : XIn B px s TA tc ts IA ic rs va qs w) {w4 w5 : World} {v4 v5 : Value} {rs' : List RelM} {ds : List (ByteArray × List Row)} {qs' : List ChM} (hio : InO w.heap.size w w4 v4 rs' ds) {A4 : Option Addr} {c4 : Nat} (hv4 : v4 = .slice A4 rs'.length c4) (ho : Own 4 ChM.cs 51 B w5 v5 qs') (hx : Ext w4 va w5 v5) :
    XIn B px s TA tc ts A4 c4 rs' v5 qs' ((w5.setCell ⟨px, 4, none⟩ v4).setCell ⟨px, 5, none⟩ v5) ∧ Below B w ((w5.setCell ⟨px, 4, none⟩ v4).setCell ⟨px, 5, none⟩ v5)
    ∧ (∀ k, KOk (Free px va w) w k → KOk (Free px v5 ((w5.setCell ⟨px, 4, none⟩ v4).setCell ⟨px, 5, none⟩ v5)) ((w5.setCell ⟨px, 4, none⟩ v4).setCell ⟨px, 5, none⟩ v5) k)
    ∧ Keeps (Free px va w) w ((w5.setCell ⟨px, 4, none⟩ v4).setCell ⟨px, 5, none⟩ v5) := by
  have hl := h.lt
  have hB := h.hB
  have hb4 := hio.bel
  have hs4 := hb4.size
  have hs5 := hx.size
  have hva := Own.lt h.app
  have hne5 : v5.ownBlock ≠ some px := hx.ne h.ne (by omega)
  have hoff : ∀ g, g ≠ px → ((w5.setCell ⟨px, 4, none⟩ v4).setCell ⟨px, 5, none⟩ v5).heap[g]? = w5.heap[g]? := fun g hg => by
    rw [Below.heap_setCell _ _ _ _ hg, Below.heap_setCell _ _ _ _ hg]
  have hsz : ((w5.setCell ⟨px, 4, none⟩ v4).setCell ⟨px, 5, none⟩ v5).heap.size = w5.heap.size := by simp [World.setCell]
  have hbB : Below B w w5 := (hb4.mono (by omega)).trans (hx.below (by omega) fun g hg => (hva g hg).1)
  have hkp : Keeps (Free px va w) w ((w5.setCell ⟨px, 4, none⟩ v4).setCell ⟨px, 5, none⟩ v5) := fun g hg => by
    rw [hoff g hg.2.1]
    exact (hx.keeps (S := Free px va w) (fun k hk => ⟨by have := hk.1; omega, fun e => hk.2.2 e.symm⟩) g hg).trans (hb4.block g hg.1)
  have hblk5 : w5.heap[px]? = some (.cells (exC s (.slice TA ts.length tc) (.slice IA rs.length ic) va) 96 (0, 0)) :=
    (hx.keeps (S := fun g => g = px) (fun k hk => ⟨by rw [hk]; omega, fun e => h.ne (by rw [← e, hk])⟩) px rfl).trans ((hb4.block px hl).trans h.blk)
  have hBk : Below B w ((w5.setCell ⟨px, 4, none⟩ v4).setCell ⟨px, 5, none⟩ v5) := (hbB.setCell (p := ⟨px, 4, none⟩) hB _).setCell (p := ⟨px, 5, none⟩) hB _
  have hfr : ∀ g, Free px va w g → Free px v5 ((w5.setCell ⟨px, 4, none⟩ v4).setCell ⟨px, 5, none⟩ v5) g := fun g hg => ⟨by rw [hsz]; have := hg.1; omega, hg.2.1, hx.ne hg.2.2 (by have := hg.1; omega)⟩
  subst hv4
  refine ⟨⟨hB, set6 hblk5, h.sc.keep (Keeps.of_below hBk fun _ hg => hg), h.tg.keep (Keeps.of_below hBk fun _ hg => hg), ?_, (ho.setCell (p := ⟨px, 4, none⟩) (fun g hg e => hne5 (by rw [hg, e])) _).setCell (p := ⟨px, 5, none⟩) (fun g hg e => hne5 (by rw [hg, e])) _, hne5⟩, hBk, fun k hk => (hk.keep hkp).more hfr, hkp⟩
  have hin : InOk (fun g => w.heap.size ≤ g ∧ g < w4.heap.size) w4 A4 rs' :=
    ⟨(hio.own.elems relLay.len rfl).more fun g hg => Own.lt hio.own g hg, fun k hk => (hio.rel k hk).more fun _ hg => ⟨hg.1, hg.2.1⟩⟩
  have hk2 : Keeps (fun g => w.heap.size ≤ g ∧ g < w4.heap.size) w4 ((w5.setCell ⟨px, 4, none⟩ (.slice A4 rs'.length c4)).setCell ⟨px, 5, none⟩ v5) := fun g hg => by
    rw [hoff g (by omega)]
    exact hx.keeps (S := fun g => w.heap.size ≤ g ∧ g < w4.heap.size) (fun k hk => ⟨hk.2, fun e => by have := (hva k e.symm).2; omega⟩) g hg
  exact (hin.keep hk2).more fun g hg => ⟨by rw [hsz]; omega, by omega, hx.ne (fun e => by have := (hva g e).2; omega) hg.2⟩
end

/-- All that apply is handed. -/
structure XSt (B px : Nat) (s : Sc) (TA : Option Addr) (tc : Nat) (ts : List Tr) (a b : Int) (kind : Int) (D : Nat) (ch : ChM) (IA : Option Addr) (ic : Nat) (rs : List RelM) (va : Value) (qs : List ChM) (w : World) : Prop where
  x : XIn B px s TA tc ts IA ic rs va qs w
  dat : rs.map RelM.d = iData (decide (kind = 2)) a b
  len : qs.length ≤ D
  co : ChOk (Free px va w) w ch
  ck : ch.kind = kind
  cn : ch.name = nItem
  cd : (kind = 1 ∧ ch.key.row = [] ∧ ch.row.row = iRow a b) ∨ (kind = 2 ∧ ch.key.row = iKey a ∧ ch.row.row = [])
section
variable {B px : Nat} {s : Sc} {TA : Option Addr} {tc : Nat} {ts : List Tr} {a b : Int} {kind : Int} {D : Nat} {ch : ChM} {IA : Option Addr} {ic : Nat} {rs : List RelM} {va : Value} {qs : List ChM} {w W : World}
theorem XSt.rl (h : XSt B px s TA tc ts a b kind D ch IA ic rs va qs w) : rs.length = 2 := by
  have h := congrArg List.length h.dat
  rwa [List.length_map] at h
theorem XSt.r0 (h : XSt B px s TA tc ts a b kind D ch IA ic rs va qs w) (h0 : 0 < rs.length) : rs[0].name = nItem ∧ rs[0].rows.map Key.row = iRows (decide (kind = 2)) a b := by
  have h := congrArg (fun l => l[0]?) h.dat
  simp only [List.getElem?_map, List.getElem?_eq_getElem h0, Option.map_some] at h
  have h := Option.some.inj h
  exact ⟨congrArg Prod.fst h, congrArg Prod.snd h⟩
theorem XSt.chc (h : XSt B px s TA tc ts a b kind D ch IA ic rs va qs w) (hs : BsS s a b) : ChC s ch 0 := by
  have hl0 := hs.len
  refine ⟨hs.len, by rw [h.cn]; exact hs.ti, ⟨by rw [hs.cols]; show 4 ≤ 1000; omega, by rw [hs.pk]; show 1 ≤ 12; omega⟩, ?_⟩
  rcases h.cd with ⟨h1, h2, h3⟩ | ⟨h1, h2, h3⟩
  · exact .inl ⟨h.ck.trans h1, by rw [h2]; rfl, by rw [hs.cols, h3]; exact iRow_ok hs.ra hs.rb⟩
  · refine .inr ⟨h.ck.trans h1, by rw [h3]; rfl, ?_⟩
    rw [h2]
    have hk := iKey_ok hs.ra (A := none) (P := none)
    refine ⟨by rw [hs.pk]; exact hk.len, hk.err, fun i h1 h2 => ?_⟩
    have h1' : i < 1 := h1
    obtain rfl : i = 0 := by omega
    have h0 : s.tabs[0].pk[0] = 0 := by
      have h := congrArg (fun l => l[0]?) hs.pk
      simp only [List.getElem?_eq_getElem h2] at h
      exact Option.some.inj h
    refine ⟨by rw [h0]; omega, by rw [h0, hs.cols]; show 0 < 4; omega, ?_⟩
    rw [h0, hs.cols]
    rfl
/-- Apply, with the one change in a list made ahead of the call. -/
theorem XSt.apply (h : XSt B px s TA tc ts a b kind D ch IA ic rs va qs w) (hs : BsS s a b) (hW : Below w.heap.size w W) :
    Calls Tryz.prog 74 #[s.v, .slice IA rs.length ic, .slice (some ⟨W.heap.size, 0, none⟩) 1 1] (W.alloc (.cells ch.cells 51)) fun e w' => ∃ v rs', e = .returned (.tuple #[v, .int .i64 0]) ∧ InO W.heap.size W w' v rs' (iData (!decide (kind = 2)) a b) := by
  obtain ⟨W1, hW1⟩ : ∃ W1, W1 = W.alloc (.cells ch.cells 51) := ⟨_, rfl⟩
  have hb1 : Below W.heap.size W W1 := by rw [hW1]; exact (Below.refl _ _).alloc (Nat.le_refl _) _
  have hg1 : W1.heap[W.heap.size]? = some (.cells ch.cells 51 (0, 0)) := by rw [hW1]; exact heap_alloc_new W _
  rw [← hW1]
  have hb := hW.trans (hb1.mono hW.size)
  have hx := h.x.below hb
  have hrl := h.rl
  have hl0 := hs.len
  have h0 : 0 < rs.length := by omega
  obtain ⟨hn0, hr0⟩ := h.r0 h0
  have hin : ApIn s IA rs (some ⟨W.heap.size, 0, none⟩) ch 0 W1 := by
    refine ⟨hx.scw, hs.val, hx.inw, hs.fit _ _ h.dat, (elems_block chmLay (xs := [ch]) hg1 rfl (by show 1 ≤ maxLen; decide) rfl).more fun g hg => ?_, (h.co.fr hb).frw, h.chc hs⟩
    have hg : g = W.heap.size := hg
    rw [hg]
    exact (Array.getElem?_eq_some_iff.1 hg1).1
  have hset : ∀ rows, rows = iRows (!decide (kind = 2)) a b → (rs.map RelM.d).set 0 (s.tabs[0].name, rows) = iData (!decide (kind = 2)) a b := fun rows hr => by
    rw [h.dat, hr, hs.nm]
    rfl
  have hfin : ∀ w' v rs' rows, rows = iRows (!decide (kind = 2)) a b → InO W1.heap.size W1 w' v rs' ((rs.map RelM.d).set 0 (s.tabs[0].name, rows)) → InO W.heap.size W w' v rs' (iData (!decide (kind = 2)) a b) := fun w' v rs' rows hr ho => by
    rw [hset rows hr] at ho
    exact ⟨ho.own.mono hb1.size, ho.dat, fun r hm => (ho.rel r hm).more fun g hg => ⟨Nat.le_trans hb1.size hg.1, hg.2⟩, hb1.trans (ho.bel.mono hb1.size)⟩
  rcases h.cd with ⟨h1, h2, h3⟩ | ⟨h1, h2, h3⟩
  · subst h1
    have hr0 : rs[0].rows.map Key.row = [] := hr0
    have hrow : upsX s.tabs[0].pk ch.row.row (rs[0].rows.map Key.row) = iRows true a b := by rw [hr0, hs.pk, h3]; rfl
    refine (applyUps s IA ic rs (some ⟨W.heap.size, 0, none⟩) 1 ch 0 W1 hin h.ck h0 hs.len (by rw [hrow]; show 1 ≤ 24; omega)).mono ?_
    rintro e w' ⟨v, rs', rfl, ho⟩
    exact ⟨v, rs', rfl, hfin _ _ _ _ hrow ho⟩
  · subst h1
    have hr0 : rs[0].rows.map Key.row = [iRow a b] := hr0
    have hrow : delRX s.tabs[0].pk ch.key.row (rs[0].rows.map Key.row) = iRows false a b := by rw [hr0, hs.pk, h2, del_item]; rfl
    refine (applyDel s IA ic rs (some ⟨W.heap.size, 0, none⟩) 1 ch 0 W1 hin h.ck h0 hs.len (by rw [hr0, hs.pk, h2]; exact (rff_row a b).2)).mono ?_
    rintro e w' ⟨v, rs', rfl, ho⟩
    exact ⟨v, rs', rfl, hfin _ _ _ _ hrow ho⟩
end
end Go.Proofs.YtefifkleamiabaaGreatDoor

namespace Go.Proofs.YtefifkleamiabaaGreatDoor
open Go.RowKit Go.Sort

/-- Behind the two stores. -/
def PS (B px : Nat) (s : Sc) (TA : Option Addr) (tc : Nat) (ts : List Tr) (a b : Int) (full : Bool) (n : Nat) (va : Value) (w wx : World) : Prop :=
  ∃ A4 c4 rs' va' qs', XIn B px s TA tc ts A4 c4 rs' va' qs' wx ∧ rs'.map RelM.d = iData full a b ∧ qs'.length ≤ n ∧ Below B w wx ∧ (∀ k, KOk (Free px va w) w k → KOk (Free px va' wx) wx k) ∧ Keeps (Free px va w) w wx
/-- The change's box. -/
def CB4 (g : Nat) (c : ChM) (W : World) : Prop := W.cell? ⟨g, 0, none⟩ = some (.int .i64 c.kind) ∧ W.cell? ⟨g, 1, none⟩ = some (.string c.name) ∧ W.cell? ⟨g, 2, none⟩ = some (.slice c.key.A c.key.row.length c.key.c) ∧ W.cell? ⟨g, 3, none⟩ = some (.slice c.row.A c.row.row.length c.row.c)
theorem CB4.of {g : Nat} {c : ChM} {W : World} (h : W.heap[g]? = some (.cells c.cells 51 (0, 0))) : CB4 g c W := by
  unfold ChM.cells at h
  exact ⟨cell_of_row _ _ 0 _ _ _ h, cell_of_row _ _ 1 _ _ _ h, cell_of_row _ _ 2 _ _ _ h, cell_of_row _ _ 3 _ _ _ h⟩
/-- Behind the append: what the stores want. -/
def ApR (px g : Nat) (c : ChM) (v4 : Value) (P : World → Prop) (v5 : Value) (w5 : World) : Prop :=
  ∃ A5 n5 c5, v5 = .slice A5 n5 c5 ∧ CB4 g c w5 ∧ CB4 g c (w5.setCell ⟨px, 4, none⟩ v4) ∧ CB4 g c ((w5.setCell ⟨px, 4, none⟩ v4).setCell ⟨px, 5, none⟩ (.slice A5 n5 c5))
    ∧ (∃ q, w5.cell? ⟨px, 4, none⟩ = some q) ∧ (∃ q, w5.cell? ⟨px, 5, none⟩ = some q) ∧ (w5.frozen? ⟨px, 4, none⟩ = false ∧ w5.frozen? ⟨px, 5, none⟩ = false) ∧ Hid (P ((w5.setCell ⟨px, 4, none⟩ v4).setCell ⟨px, 5, none⟩ (.slice A5 n5 c5)))
section
variable {B px : Nat} {s : Sc} {TA : Option Addr} {tc : Nat} {ts : List Tr} {a b : Int} {IA : Option Addr} {ic : Nat} {rs : List RelM} {va : Value} {qs : List ChM} {w W : World}
theorem XIn.append (h : XIn B px s TA tc ts IA ic rs va qs w) {w4 : World} {A4 : Option Addr} {n4 c4 : Nat} {rs' : List RelM} {full : Bool} (hio : InO w.heap.size w w4 (.slice A4 n4 c4) rs' (iData full a b)) {g : Nat} (hg : Free px va w g) {c : ChM} (hc : w.heap[g]? = some (.cells c.cells 51 (0, 0))) {n : Nat} (hq : qs.length + 1 ≤ n) (hn : n ≤ 20) (ty : TypeId) :
    ∃ v5 w5, (Builtin.append_ #[32, 32] ty #[va, .slice (some ⟨w4.heap.size, 0, none⟩) 1 1]).run Tryz.prog (w4.alloc (.cells #[.int .i64 c.kind, .string c.name, .slice c.key.A c.key.row.length c.key.c, .slice c.row.A c.row.row.length c.row.c] 51)) = .ok v5 w5
      ∧ ApR px g c (.slice A4 n4 c4) (PS B px s TA tc ts a b full n va w) v5 w5 := by
  have hlt := h.lt
  have hs4 := hio.bel.size
  have hB := h.hB
  obtain ⟨v5, w5, hrun, ho5, hx5⟩ := run_push elem_chg chmLay ty w4 va qs c #[.int .i64 c.kind, .string c.name, .slice c.key.A c.key.row.length c.key.c, .slice c.row.A c.row.row.length c.row.c] (h.app.below hio.bel) rfl (by omega) (by unfold maxLen; omega) (by omega) rfl
  refine ⟨v5, w5, hrun, ?_⟩
  obtain ⟨A5, c5, rfl, -, -⟩ := ho5.form
  obtain ⟨A4', c4', hv4, -, -⟩ := hio.own.form
  injection hv4 with e1 e2 e3
  subst e1 e2 e3
  obtain ⟨hx, hb, hk, hkp⟩ := h.step hio rfl ho5 hx5
  have hgv : w5.heap[g]? = some (.cells c.cells 51 (0, 0)) :=
    (hx5.keeps (S := fun k => k = g) (fun k hk => ⟨by rw [hk]; have := hg.1; omega, fun e => hg.2.2 (by rw [← e, hk])⟩) g rfl).trans ((hio.bel.block g hg.1).trans hc)
  have hpv : w5.heap[px]? = some (.cells (exC s (.slice TA ts.length tc) (.slice IA rs.length ic) va) 96 (0, 0)) :=
    (hx5.keeps (S := fun k => k = px) (fun k hk => ⟨by rw [hk]; omega, fun e => h.ne (by rw [← e, hk])⟩) px rfl).trans ((hio.bel.block px hlt).trans h.blk)
  unfold exC at hpv
  refine ⟨A5, _, c5, rfl, CB4.of hgv, CB4.of ?_, CB4.of ?_, ⟨_, cell_of_row _ _ 4 _ _ _ hpv⟩, ⟨_, cell_of_row _ _ 5 _ _ _ hpv⟩, ⟨frozen_of_row _ _ 4 _ _ hpv, frozen_of_row _ _ 5 _ _ hpv⟩, Lib.hid ⟨_, _, rs', _, _, hx, hio.dat, ?_, hb, hk, hkp⟩⟩
  · rw [Below.heap_setCell _ _ _ _ hg.2.1]; exact hgv
  · rw [Below.heap_setCell _ _ _ _ hg.2.1, Below.heap_setCell _ _ _ _ hg.2.1]; exact hgv
  · rw [List.length_append]; exact hq

/-- The cells of the two triggers and their actions. -/
structure TgC (TA RA RB AA AB : Option Addr) (ac tb toff rb roff ab aoff : Nat) (S : Nat → Prop) (W : World) : Prop where
  t : TA = some ⟨tb, toff, none⟩
  r : RA = some ⟨rb, roff, none⟩
  a : AA = some ⟨ab, aoff, none⟩
  t0 : W.cell? ⟨tb, toff, none⟩ = some (.int .i64 1) ∧ W.cell? ⟨tb, toff + 1, none⟩ = some (.string nItem) ∧ W.cell? ⟨tb, toff + 2, none⟩ = some (.slice RA 1 1)
  t1 : W.cell? ⟨tb, toff + 3, none⟩ = some (.int .i64 2) ∧ W.cell? ⟨tb, toff + 3 + 1, none⟩ = some (.string nItem) ∧ W.cell? ⟨tb, toff + 3 + 2, none⟩ = some (.slice AA 1 1)
  a0 : W.cell? ⟨rb, roff, none⟩ = some (.int .i64 2) ∧ W.cell? ⟨rb, roff + 1, none⟩ = some (.string nItem) ∧ W.cell? ⟨rb, roff + 2, none⟩ = some (.slice RB 1 1)
  a1 : W.cell? ⟨ab, aoff, none⟩ = some (.int .i64 1) ∧ W.cell? ⟨ab, aoff + 1, none⟩ = some (.string nItem) ∧ W.cell? ⟨ab, aoff + 2, none⟩ = some (.slice AB 4 ac)
  o0 : Elems 4 opdCs W S RB [0]
  o1 : Elems 4 opdCs W S AB [0, 1, 2, 3]
theorem TgOk.cells {S : Nat → Prop} {W : World} {TA RA RB AA AB : Option Addr} {ac : Nat} (h : TgOk S W TA [tRem RA RB, tAdd AA AB ac]) : ∃ tb toff rb roff ab aoff, TgC TA RA RB AA AB ac tb toff rb roff ab aoff S W := by
  obtain ⟨tb, toff, e, -, p0, p1, p2⟩ := h.el.tr (k := 0) (by show 0 < 2; omega)
  obtain ⟨tb', toff', e', -, q0, q1, q2⟩ := h.el.tr (k := 1) (by show 1 < 2; omega)
  rw [e] at e'
  injection e' with e'
  injection e' with e1 e2
  subst e1 e2
  have h0 := h.tr (tRem RA RB) (by simp)
  have h1 := h.tr (tAdd AA AB ac) (by simp)
  obtain ⟨rb, roff, er, -, r0, r1, r2⟩ := h0.el.ac (k := 0) (by show 0 < 1; omega)
  obtain ⟨ab, aoff, ea, -, s0, s1, s2⟩ := h1.el.ac (k := 0) (by show 0 < 1; omega)
  have o0 := h0.act ⟨2, nItem, RB, 1, [0]⟩ (by simp [tRem])
  have o1 := h1.act ⟨1, nItem, AB, ac, [0, 1, 2, 3]⟩ (by simp [tAdd])
  rw [Nat.zero_mul, Nat.add_zero] at p0 p1 p2 r0 r1 r2 s0 s1 s2
  rw [Nat.one_mul] at q0 q1 q2
  exact ⟨tb, toff, rb, roff, ab, aoff, e, er, ea, ⟨p0, p1, p2⟩, ⟨q0, q1, q2⟩, ⟨r0, r1, r2⟩, ⟨s0, s1, s2⟩, o0, o1⟩
theorem KOk.nil {S : Nat → Prop} {w : World} : KOk S w ⟨none, 0, []⟩ :=
  ⟨(((Own.nil (base := 0) (e := 60) w).elems valLay.len rfl).more fun g hg => by cases hg), by show 0 ≤ 12; omega⟩
end
end Go.Proofs.YtefifkleamiabaaGreatDoor

namespace Go.Proofs.YtefifkleamiabaaGreatDoor
open Go.RowKit Go.Sort

/-- What Mod answers. -/
def md (k n : Int) : Nat := ((if k < 0 then -(k + 1) else k) % n).toNat
theorem md_lt {k n : Int} (h : 0 < n) : (md k n : Int) < n := by
  unfold md
  have := Int.emod_lt_of_pos (if k < 0 then -(k + 1) else k) h
  have := Int.emod_nonneg (if k < 0 then -(k + 1) else k) (b := n) (by omega)
  omega

set_option maxRecDepth 100000 in
set_option maxHeartbeats 400000 in
theorem modW (k n : Int) (w : World) (hk : -9223372036854775808 ≤ k ∧ k ≤ 9223372036854775807) (h0 : 0 < n) (hn : n ≤ 9223372036854775807) :
    Calls Tryz.prog 24 #[.int .i64 k, .int .i64 n] w fun e w' => e = .returned (.int .i64 (md k n)) ∧ w = w' := by
  obtain ⟨hk1, hk2⟩ := hk
  by_cases hneg : k < 0
  · have hp : 0 ≤ -(k + 1) := by omega
    have hlt := Int.emod_lt_of_pos (-(k + 1)) h0
    have hge := Int.emod_nonneg (-(k + 1)) (b := n) (by omega)
    have hm : -(k + 1) % n = ((md k n : Nat) : Int) := by unfold md; rw [if_pos hneg]; omega
    have HM := Lib.hid hm
    clear hm
    generalize md k n = m at *
    go_enter Tryz.func24, Tryz.ntmps24
    go_wp2_with fail
    go_ret
    exact ⟨ret_int (by rw [← Int.neg_tmod, Int.tmod_eq_emod_of_nonneg hp]; exact HM.out), rfl⟩
  · have hp : 0 ≤ k := by omega
    have hlt := Int.emod_lt_of_pos k h0
    have hge := Int.emod_nonneg k (b := n) (by omega)
    have hm : k % n = ((md k n : Nat) : Int) := by unfold md; rw [if_neg hneg]; omega
    have HM := Lib.hid hm
    clear hm
    generalize md k n = m at *
    go_enter Tryz.func24, Tryz.ntmps24
    go_wp2_with fail
    go_ret
    exact ⟨ret_int HM.out, rfl⟩

set_option maxRecDepth 100000 in
theorem itemRowW (x y : Int) (w : World) (hx : I64 x) (hy : I64 y) :
    Calls Tryz.prog 16 #[.int .i64 x, .int .i64 y] w fun e w' => e = .returned (.slice (some ⟨w.heap.size, 0, none⟩) 4 4) ∧ Elems 3 Val.cs w' (fun g => g = w.heap.size) (some ⟨w.heap.size, 0, none⟩) (iRow (md x 5 : Nat) (md y 7 : Nat)) ∧ Below w.heap.size w w' ∧ w'.heap.size = w.heap.size + 1 := by
  have HX := Lib.hid fun W => modW x 5 W hx (by omega) (by omega)
  have HY := Lib.hid fun W => modW y 7 W hy (by omega) (by omega)
  clear hx hy
  generalize md x 5 = m at *
  generalize md y 7 = n at *
  go_enter Tryz.func16, Tryz.ntmps16
  go_wp2_with fail
  refine (HX.out w).mono ?_
  rintro e w' ⟨rfl, rfl⟩
  go_wp2_with fail
  refine (HY.out w).mono ?_
  rintro e w' ⟨rfl, rfl⟩
  go_wp2_with fail
  go_ret
  exact ⟨rfl, elems_block valLay (xs := iRow (m : Nat) (n : Nat)) (heap_alloc_new w _) rfl (by show 4 ≤ maxLen; decide) rfl, (Below.refl _ _).alloc (Nat.le_refl _) _, by simp⟩

theorem three_new (w : World) (a b c : Obj) : (((w.alloc a).alloc b).alloc c).heap[w.heap.size]? = some a ∧ (((w.alloc a).alloc b).alloc c).heap[w.heap.size + 1]? = some b ∧ (((w.alloc a).alloc b).alloc c).heap[w.heap.size + 1 + 1]? = some c ∧ Below w.heap.size w (((w.alloc a).alloc b).alloc c) ∧ (((w.alloc a).alloc b).alloc c).heap.size = w.heap.size + 3 := by
  refine ⟨?_, ?_, ?_, (((Below.refl _ _).alloc (Nat.le_refl _) _).alloc (le_size1 (Nat.le_refl _) _) _).alloc (le_size2 (Nat.le_refl _) _ _) _, by simp⟩
  · rw [Below.heap_alloc _ _ _ (by simp; omega), Below.heap_alloc _ _ _ (by simp)]
    exact heap_alloc_new w a
  · rw [Below.heap_alloc _ _ _ (by simp)]
    exact alloc2_at w a b
  · have h := heap_alloc_new ((w.alloc a).alloc b) c
    simpa using h
theorem four_new (w : World) (a b c d : Obj) : ((((w.alloc a).alloc b).alloc c).alloc d).heap[w.heap.size]? = some a ∧ ((((w.alloc a).alloc b).alloc c).alloc d).heap[w.heap.size + 1]? = some b ∧ ((((w.alloc a).alloc b).alloc c).alloc d).heap[w.heap.size + 1 + 1]? = some c ∧ ((((w.alloc a).alloc b).alloc c).alloc d).heap[w.heap.size + 1 + 1 + 1]? = some d ∧ Below w.heap.size w ((((w.alloc a).alloc b).alloc c).alloc d) ∧ ((((w.alloc a).alloc b).alloc c).alloc d).heap.size = w.heap.size + 4 := by
  obtain ⟨h0, h1, h2, h3, h4⟩ := three_new w a b c
  refine ⟨?_, ?_, ?_, ?_, h3.alloc h3.size _, by simp⟩
  · rw [Below.heap_alloc _ _ _ (by omega)]; exact h0
  · rw [Below.heap_alloc _ _ _ (by omega)]; exact h1
  · rw [Below.heap_alloc _ _ _ (by omega)]; exact h2
  · have h := heap_alloc_new (((w.alloc a).alloc b).alloc c) d
    rw [h4] at h
    exact h

theorem ret_base {a b c : Value} {g : Nat} {w : World} (tmps : Array Value) (hp : tmps.getD 0 undef = .pointer (some ⟨g, 0, none⟩)) (hg : w.heap[g]? = some (.cells #[a, b, c] 27 (0, 0))) :
    (results Tryz.f8 tmps).run Tryz.prog w = .ok (.agg #[a, b, c]) w :=
  results_cell_row (P := Tryz.prog) Tryz.results8 tmps w g 27 _ (0, 0) _ hp hg Tryz.underlying27 rfl (by kernel_rfl)
theorem set3 {w : World} {g : Nat} {t : TypeId} {a b c a' b' c' : Value} (h : w.heap[g]? = some (.cells #[a, b, c] t (0, 0))) :
    (((w.setCell ⟨g, 0, none⟩ a').setCell ⟨g, 1, none⟩ b').setCell ⟨g, 2, none⟩ c').heap[g]? = some (.cells #[a', b', c'] t (0, 0)) := by
  rw [heap_setCell_at (heap_setCell_at (heap_setCell_at h _) _) _]
  rfl

set_option maxRecDepth 100000 in
set_option maxHeartbeats 4000000 in
theorem baseSchemaW (w : World) : Calls Tryz.prog 8 #[] w fun e w' => ∃ T IA IP OA OP F FC N, e = .returned (bSc T IA IP OA OP F FC N).v ∧ ScOk (· < w'.heap.size) w' (bSc T IA IP OA OP F FC N) ∧ Below w.heap.size w w' := by
  obtain ⟨w0, hw0⟩ : ∃ w0, w0 = w.alloc (.cells #[.slice none 0 0, .slice none 0 0, .slice none 0 0] 27) := ⟨_, rfl⟩
  have hb0 : Below w.heap.size w w0 := by rw [hw0]; exact (Below.refl _ _).alloc (Nat.le_refl _) _
  have hg0 : w0.heap[w.heap.size]? = some (.cells #[.slice none 0 0, .slice none 0 0, .slice none 0 0] 27 (0, 0)) := by rw [hw0]; exact heap_alloc_new w _
  have hs0 : w0.heap.size = w.heap.size + 1 := by rw [hw0]; simp
  obtain ⟨w1, hw1⟩ : ∃ w1, w1 = ((w0.alloc (.cells #[.string ⟨#[105, 100]⟩, .int .i64 1, .bool false, .string ⟨#[115, 105, 122, 101]⟩, .int .i64 1, .bool true, .string ⟨#[102, 105, 114, 115, 116]⟩, .int .i64 3, .bool false, .string ⟨#[108, 97, 115, 116]⟩, .int .i64 3, .bool false] 68)).alloc (.cells #[.int .i64 0] 3)).alloc (.cells #[.string ⟨#[105, 116, 101, 109]⟩, .slice (some ⟨w0.heap.size, 0, none⟩) 4 4, .slice (some ⟨w0.heap.size + 1, 0, none⟩) 1 1] 71) := ⟨_, rfl⟩
  obtain ⟨a0, a1, a2, a3, a4⟩ := three_new w0 (.cells #[.string ⟨#[105, 100]⟩, .int .i64 1, .bool false, .string ⟨#[115, 105, 122, 101]⟩, .int .i64 1, .bool true, .string ⟨#[102, 105, 114, 115, 116]⟩, .int .i64 3, .bool false, .string ⟨#[108, 97, 115, 116]⟩, .int .i64 3, .bool false] 68) (.cells #[.int .i64 0] 3) (.cells #[.string ⟨#[105, 116, 101, 109]⟩, .slice (some ⟨w0.heap.size, 0, none⟩) 4 4, .slice (some ⟨w0.heap.size + 1, 0, none⟩) 1 1] 71)
  rw [← hw1] at a0 a1 a2 a3 a4
  obtain ⟨w2, hw2⟩ : ∃ w2, w2 = ((w1.alloc (.cells #[.string ⟨#[105, 100]⟩, .int .i64 1, .bool false, .string ⟨#[105, 116, 101, 109]⟩, .int .i64 1, .bool true, .string ⟨#[112, 97, 105, 100]⟩, .int .i64 2, .bool false] 68)).alloc (.cells #[.int .i64 0] 3)).alloc (.cells #[.string ⟨#[111, 114, 100, 101, 114]⟩, .slice (some ⟨w1.heap.size, 0, none⟩) 3 3, .slice (some ⟨w1.heap.size + 1, 0, none⟩) 1 1] 71) := ⟨_, rfl⟩
  obtain ⟨b0, b1, b2, b3, b4⟩ := three_new w1 (.cells #[.string ⟨#[105, 100]⟩, .int .i64 1, .bool false, .string ⟨#[105, 116, 101, 109]⟩, .int .i64 1, .bool true, .string ⟨#[112, 97, 105, 100]⟩, .int .i64 2, .bool false] 68) (.cells #[.int .i64 0] 3) (.cells #[.string ⟨#[111, 114, 100, 101, 114]⟩, .slice (some ⟨w1.heap.size, 0, none⟩) 3 3, .slice (some ⟨w1.heap.size + 1, 0, none⟩) 1 1] 71)
  rw [← hw2] at b0 b1 b2 b3 b4
  obtain ⟨w3, hw3⟩ : ∃ w3, w3 = (((w2.alloc (.cells #[.string ⟨#[105, 116, 101, 109]⟩, .slice (some ⟨w0.heap.size, 0, none⟩) 4 4, .slice (some ⟨w0.heap.size + 1, 0, none⟩) 1 1, .string ⟨#[111, 114, 100, 101, 114]⟩, .slice (some ⟨w1.heap.size, 0, none⟩) 3 3, .slice (some ⟨w1.heap.size + 1, 0, none⟩) 1 1] 71)).alloc (.cells #[.int .i64 1] 3)).alloc (.cells #[.string ⟨#[111, 114, 100, 101, 114]⟩, .slice (some ⟨w2.heap.size + 1, 0, none⟩) 1 1, .string ⟨#[105, 116, 101, 109]⟩] 73)).alloc (.cells #[.string ⟨#[105, 116, 101, 109]⟩, .int .i64 1, .string ⟨#[60, 61]⟩, .int .i64 (-1), .int .i64 1, .int .i64 6, .string ⟨#[]⟩] 62) := ⟨_, rfl⟩
  obtain ⟨c0, c1, c2, c3, c4, c5⟩ := four_new w2 (.cells #[.string ⟨#[105, 116, 101, 109]⟩, .slice (some ⟨w0.heap.size, 0, none⟩) 4 4, .slice (some ⟨w0.heap.size + 1, 0, none⟩) 1 1, .string ⟨#[111, 114, 100, 101, 114]⟩, .slice (some ⟨w1.heap.size, 0, none⟩) 3 3, .slice (some ⟨w1.heap.size + 1, 0, none⟩) 1 1] 71) (.cells #[.int .i64 1] 3) (.cells #[.string ⟨#[111, 114, 100, 101, 114]⟩, .slice (some ⟨w2.heap.size + 1, 0, none⟩) 1 1, .string ⟨#[105, 116, 101, 109]⟩] 73) (.cells #[.string ⟨#[105, 116, 101, 109]⟩, .int .i64 1, .string ⟨#[60, 61]⟩, .int .i64 (-1), .int .i64 1, .int .i64 6, .string ⟨#[]⟩] 62)
  rw [← hw3] at c0 c1 c2 c3 c4 c5
  have t0 := cell_of_row _ _ 0 _ _ _ a2
  have t1 := cell_of_row _ _ 1 _ _ _ a2
  have t2 := cell_of_row _ _ 2 _ _ _ a2
  have a2' := (b3.block _ (by omega)).trans a2
  have p0 := cell_of_row _ _ 0 _ _ _ a2'
  have p1 := cell_of_row _ _ 1 _ _ _ a2'
  have p2 := cell_of_row _ _ 2 _ _ _ a2'
  have q0 := cell_of_row _ _ 0 _ _ _ b2
  have q1 := cell_of_row _ _ 1 _ _ _ b2
  have q2 := cell_of_row _ _ 2 _ _ _ b2
  have hb13 : Below w1.heap.size w1 w3 := b3.trans (c4.mono b3.size)
  have hb03 : Below w0.heap.size w0 w3 := a3.trans (hb13.mono a3.size)
  have hr3 := (hb03.block w.heap.size (by omega)).trans hg0
  have hb02 : Below w0.heap.size w0 w2 := a3.trans (b3.mono (by omega))
  have hr2 := (hb02.block w.heap.size (by omega)).trans hg0
  have hn4 : ∀ a b c d, ((((w2.alloc a).alloc b).alloc c).alloc d).heap[w.heap.size]? = some (.cells #[.slice none 0 0, .slice none 0 0, .slice none 0 0] 27 (0, 0)) := fun a b c d => ((four_new w2 a b c d).2.2.2.2.1.block _ (by omega)).trans hr2
  have n0 : ∀ a b c d, ((((w2.alloc a).alloc b).alloc c).alloc d).cell? ⟨w.heap.size, 0, none⟩ = some (.slice none 0 0) := fun a b c d => cell_of_row _ _ 0 _ _ _ (hn4 a b c d)
  have n1 : ∀ a b c d, ((((w2.alloc a).alloc b).alloc c).alloc d).cell? ⟨w.heap.size, 1, none⟩ = some (.slice none 0 0) := fun a b c d => cell_of_row _ _ 1 _ _ _ (hn4 a b c d)
  have n2 : ∀ a b c d, ((((w2.alloc a).alloc b).alloc c).alloc d).cell? ⟨w.heap.size, 2, none⟩ = some (.slice none 0 0) := fun a b c d => cell_of_row _ _ 2 _ _ _ (hn4 a b c d)
  have f0 : ∀ a b c d i, ((((w2.alloc a).alloc b).alloc c).alloc d).frozen? ⟨w.heap.size, i, none⟩ = false := fun a b c d i => frozen_of_row _ _ i _ _ (hn4 a b c d)
  have HFIN : Hid (∀ v0 v1 v2, ScOk (· < w3.heap.size) (((w3.setCell ⟨w.heap.size, 0, none⟩ v0).setCell ⟨w.heap.size, 1, none⟩ v1).setCell ⟨w.heap.size, 2, none⟩ v2) (bSc (some ⟨w2.heap.size, 0, none⟩) (some ⟨w0.heap.size, 0, none⟩) (some ⟨w0.heap.size + 1, 0, none⟩) (some ⟨w1.heap.size, 0, none⟩) (some ⟨w1.heap.size + 1, 0, none⟩) (some ⟨w2.heap.size + 1 + 1, 0, none⟩) (some ⟨w2.heap.size + 1, 0, none⟩) (some ⟨w2.heap.size + 1 + 1 + 1, 0, none⟩))) := Lib.hid fun v0 v1 v2 => by
    have hsc : ScOk (fun g => w.heap.size < g ∧ g < w3.heap.size) w3 (bSc (some ⟨w2.heap.size, 0, none⟩) (some ⟨w0.heap.size, 0, none⟩) (some ⟨w0.heap.size + 1, 0, none⟩) (some ⟨w1.heap.size, 0, none⟩) (some ⟨w1.heap.size + 1, 0, none⟩) (some ⟨w2.heap.size + 1 + 1, 0, none⟩) (some ⟨w2.heap.size + 1, 0, none⟩) (some ⟨w2.heap.size + 1 + 1 + 1, 0, none⟩)) := by
      refine ⟨(elems_block tblLay (xs := (bSc (some ⟨w2.heap.size, 0, none⟩) (some ⟨w0.heap.size, 0, none⟩) (some ⟨w0.heap.size + 1, 0, none⟩) (some ⟨w1.heap.size, 0, none⟩) (some ⟨w1.heap.size + 1, 0, none⟩) (some ⟨w2.heap.size + 1 + 1, 0, none⟩) (some ⟨w2.heap.size + 1, 0, none⟩) (some ⟨w2.heap.size + 1 + 1 + 1, 0, none⟩)).tabs) c0 rfl (by show 2 ≤ maxLen; decide) rfl).more fun g hg => ⟨by omega, by omega⟩, fun t ht => ?_, (elems_block fkLay (xs := [⟨nOrder, some ⟨w2.heap.size + 1, 0, none⟩, 1, [1], nItem⟩]) c2 rfl (by show 1 ≤ maxLen; decide) rfl).more fun g hg => ⟨by omega, by omega⟩, fun f hf => ?_, (elems_block cnLay (xs := [⟨nItem, 1, ⟨#[60, 61]⟩, -1, ⟨1, 6, ⟨#[]⟩⟩⟩]) c3 rfl (by show 1 ≤ maxLen; decide) rfl).more fun g hg => ⟨by omega, by omega⟩⟩
      · simp only [bSc, List.mem_cons, List.not_mem_nil, or_false] at ht
        rcases ht with rfl | rfl
        · exact ⟨(elems_block colLay (xs := itemCols) ((hb13.block _ (by omega)).trans a0) rfl (by decide) rfl).more fun g hg => ⟨by omega, by omega⟩, (elems_block intLay (xs := [0]) ((hb13.block _ (by omega)).trans a1) rfl (by decide) rfl).more fun g hg => ⟨by omega, by omega⟩⟩
        · exact ⟨(elems_block colLay (xs := orderCols) ((c4.block _ (by omega)).trans b0) rfl (by decide) rfl).more fun g hg => ⟨by omega, by omega⟩, (elems_block intLay (xs := [0]) ((c4.block _ (by omega)).trans b1) rfl (by decide) rfl).more fun g hg => ⟨by omega, by omega⟩⟩
      · simp only [bSc, List.mem_cons, List.not_mem_nil, or_false] at hf
        subst hf
        exact (elems_block intLay (xs := [1]) c1 rfl (by decide) rfl).more fun g hg => ⟨by omega, by omega⟩
    refine (hsc.keep fun g hg => ?_).more fun g hg => hg.2
    rw [Below.heap_setCell _ _ _ _ (by show g ≠ w.heap.size; omega), Below.heap_setCell _ _ _ _ (by show g ≠ w.heap.size; omega), Below.heap_setCell _ _ _ _ (by show g ≠ w.heap.size; omega)]
  have HB : Hid (Below w.heap.size w w3) := Lib.hid (hb0.trans (hb03.mono hb0.size))
  have HR3 := Lib.hid hr3
  have HW0 := Lib.hid hw0
  have HW1 := Lib.hid hw1
  have HW2 := Lib.hid hw2
  have HW3 := Lib.hid hw3
  clear hw0 hw1 hw2 hw3 hb0 hg0 hs0 a0 a1 a2 a2' a3 a4 b0 b1 b2 b3 b4 c0 c1 c2 c3 c4 c5 hb13 hb03 hr3 hn4
  go_enter Tryz.func8, Tryz.ntmps8
  go_upto_region 1 with fail
  rw [← HW0.out]
  go_upto_region 2 with fail
  rw [← HW1.out]
  go_upto_region 3 with fail
  rw [← HW2.out]
  go_wp2_with fail
  rw [← HW3.out]
  refine bodyPost_ret (ret_base _ rfl (set3 HR3.out)) rfl ?_
  exact ⟨_, _, _, _, _, _, _, _, rfl, (HFIN.out _ _ _).more fun g hg => by simpa [World.setCell] using hg, ((HB.out.setCell (p := ⟨w.heap.size, 0, none⟩) (Nat.le_refl _) _).setCell (p := ⟨w.heap.size, 1, none⟩) (Nat.le_refl _) _).setCell (p := ⟨w.heap.size, 2, none⟩) (Nat.le_refl _) _⟩

theorem make_rels : ∀ W : World, (Instr.makeSlice 30 (.int .i64 2) (.int .i64 2)).run Tryz.prog W = .ok (.slice (some ⟨W.heap.size, 0, none⟩) 2 2) (W.alloc (.cells #[.string ⟨#[]⟩, .slice none 0 0, .string ⟨#[]⟩, .slice none 0 0] 78)) := by
  intro W
  have h : (Tryz.prog.info? 78).map (fun i => (i.zero, i.size, i.bytes)) = some (some (.agg #[.string ByteArray.empty, .slice none 0 0]), 2, 40) := by kernel_rfl
  obtain ⟨i, hi, hz, h1, h2⟩ := info_parts h
  have := run_makeSlice (P := Tryz.prog) W 30 78 i _ Tryz.underlying30 hi hz .i64 .i64 2 2 (by omega) (Int.le_refl _) (by rw [h1]; decide) (by rw [h2]; omega) (by omega)
  rw [h1] at this
  have e : madeCells (Value.agg #[.string ByteArray.empty, .slice none 0 0]).cells ((2 : Int).toNat * 2) = #[.string ⟨#[]⟩, .slice none 0 0, .string ⟨#[]⟩, .slice none 0 0] := by kernel_rfl
  rw [e] at this
  exact this

/-- The instance's block. -/
def EiB (w : World) (g : Nat) (n0 n1 : ByteArray) (W : World) : Prop := W.heap[g]? = some (.cells #[.string n0, .slice none 0 0, .string n1, .slice none 0 0] 78 (0, 0)) ∧ Below w.heap.size w W
theorem EiB.at {w W : World} {g : Nat} {n0 n1 : ByteArray} (h : EiB w g n0 n1 W) : (∃ q, W.cell? ⟨g, 0, none⟩ = some q) ∧ (∃ q, W.cell? ⟨g, 2, none⟩ = some q) ∧ (∀ i, W.frozen? ⟨g, i, none⟩ = false) :=
  ⟨⟨_, cell_of_row _ _ 0 _ _ _ h.1⟩, ⟨_, cell_of_row _ _ 2 _ _ _ h.1⟩, fun i => frozen_of_row _ _ i _ _ h.1⟩
theorem EiB.new {w w1 : World} (hb : Below w.heap.size w w1) : EiB w w1.heap.size ⟨#[]⟩ ⟨#[]⟩ (w1.alloc (.cells #[.string ⟨#[]⟩, .slice none 0 0, .string ⟨#[]⟩, .slice none 0 0] 78)) := ⟨heap_alloc_new w1 _, hb.alloc hb.size _⟩
theorem EiB.set0 {w W : World} {g : Nat} {n0 n1 n : ByteArray} (h : EiB w g n0 n1 W) (hg : w.heap.size ≤ g) : EiB w g n n1 (W.setCell ⟨g, 0, none⟩ (.string n)) := ⟨heap_setCell_at h.1 _, h.2.setCell (p := ⟨g, 0, none⟩) hg _⟩
theorem EiB.set1 {w W : World} {g : Nat} {n0 n1 n : ByteArray} (h : EiB w g n0 n1 W) (hg : w.heap.size ≤ g) : EiB w g n0 n (W.setCell ⟨g, 2, none⟩ (.string n)) := ⟨heap_setCell_at h.1 _, h.2.setCell (p := ⟨g, 2, none⟩) hg _⟩
theorem EiB.grow {w W W' : World} {g : Nat} {n0 n1 : ByteArray} (h : EiB w g n0 n1 W) (hb : Below W.heap.size W W') : EiB w g n0 n1 W' := ⟨(hb.block g (Array.getElem?_eq_some_iff.1 h.1).1).trans h.1, h.2.trans (hb.mono h.2.size)⟩
theorem EiB.inst {w W : World} {g : Nat} (h : EiB w g nItem nOrder W) : InOk (· < W.heap.size) W (some ⟨g, 0, none⟩) [⟨nItem, none, 0, []⟩, ⟨nOrder, none, 0, []⟩] := by
  refine ⟨(elems_block relLay (xs := [⟨nItem, none, 0, []⟩, ⟨nOrder, none, 0, []⟩]) h.1 rfl (by decide) rfl).more fun k hk => ?_, fun r hr => ?_⟩
  · have hk : k = g := hk
    rw [hk]
    exact (Array.getElem?_eq_some_iff.1 h.1).1
  · have he : RsOk (· < W.heap.size) W none [] := ⟨((Own.nil (base := 0) (e := 48) W).elems keyLay.len rfl).more (fun g hg => by cases hg), fun k hk => by cases hk⟩
    simp only [List.mem_cons, List.not_mem_nil, or_false] at hr
    rcases hr with rfl | rfl <;> exact he

end Go.Proofs.YtefifkleamiabaaGreatDoor

namespace Go.Proofs.YtefifkleamiabaaGreatDoor
open Go.RowKit Go.Sort

theorem quiet_same {P : Program} {f : FuncId} {args : Array Value} {w : World} {n : Nat} {v : Value}
    (h : Calls P f args (w.drewN n) fun e w' => e = .returned v ∧ w.drewN n = w') : Calls P f args (w.drewN n) fun e w'' => e = .returned v ∧ ∃ m, w'' = w.drewN m :=
  h.mono fun _ _ ⟨he, hm⟩ => ⟨he, n, hm.symm⟩
/-- One digit. -/
def dg (k : Nat) : ByteArray := ⟨#[UInt8.ofNat (48 + k)]⟩

set_option maxRecDepth 100000 in
theorem small1 (k : Nat) (hk : k < 10) (w : World) :
    Calls Tryz.prog 140 #[.int .i64 (k : Int)] w fun e w' => e = .returned (.string (dg k)) ∧ w = w' := by
  have h : k = 0 ∨ k = 1 ∨ k = 2 ∨ k = 3 ∨ k = 4 ∨ k = 5 ∨ k = 6 ∨ k = 7 ∨ k = 8 ∨ k = 9 := by omega
  rcases h with rfl | rfl | rfl | rfl | rfl | rfl | rfl | rfl | rfl | rfl
  all_goals
    go_enter Tryz.func140, Tryz.ntmps140
    go_wp2_with fail
    go_ret
    exact ⟨rfl, rfl⟩

set_option maxRecDepth 100000 in
theorem formatInt1 (k : Nat) (hk : k < 10) (w : World) :
    Calls Tryz.prog 121 #[.int .i64 (k : Int), .int .i64 10] w fun e w' => e = .returned (.string (dg k)) ∧ w = w' := by
  have HS := Lib.hid (small1 k hk w)
  have h1 : (0 : Int) ≤ (k : Int) := by omega
  have h2 : (k : Int) < 100 := by omega
  go_enter Tryz.func121, Tryz.ntmps121
  go_wp2_with fail
  refine HS.out.mono ?_
  rintro e w' ⟨rfl, rfl⟩
  go_wp2_with fail
  go_ret
  exact ⟨rfl, rfl⟩

theorem itoaIn1 (k : Nat) (hk : k < 10) (w : World) :
    Calls Tryz.prog 98 #[.int .i64 (k : Int)] w fun e w' => e = .returned (.string (dg k)) ∧ w = w' := by
  have HS := Lib.hid (formatInt1 k hk w)
  go_enter Tryz.func98, Tryz.ntmps98
  go_wp2_with fail
  refine HS.out.mono ?_
  rintro e w' ⟨rfl, rfl⟩
  go_wp2_with fail
  go_ret
  exact ⟨rfl, rfl⟩

theorem itoa1 (k : Nat) (hk : k < 10) (w : World) :
    Calls Tryz.prog 61 #[.int .i64 (k : Int)] w fun e w' => e = .returned (.string (dg k)) ∧ w = w' := by
  have HS := Lib.hid (itoaIn1 k hk w)
  go_enter Tryz.func61, Tryz.ntmps61
  go_wp2_with fail
  refine HS.out.mono ?_
  rintro e w' ⟨rfl, rfl⟩
  go_wp2_with fail
  go_ret
  exact ⟨rfl, rfl⟩

/-- A text with its length ahead. -/
def sz (s : ByteArray) : ByteArray := dg s.size ++ ⟨#[58]⟩ ++ s
theorem sz_size (s : ByteArray) : (sz s).size = 2 + s.size := by unfold sz; rw [ByteArray.size_append, ByteArray.size_append]; rfl
set_option maxRecDepth 100000 in
theorem sizedW (s : ByteArray) (hs : s.size < 10) (w : World) :
    Calls Tryz.prog 94 #[.string s] w fun e w' => e = .returned (.string (sz s)) ∧ w = w' := by
  have HS := Lib.hid (itoa1 s.size hs w)
  have h1 : (dg s.size).size = 1 := rfl
  have hz1 : ¬ 9223372036854775807 < (dg s.size).size + 1 := by omega
  have hz2 : ¬ 9223372036854775807 < (dg s.size).size + 1 + s.size := by omega
  clear h1
  go_enter Tryz.func94, Tryz.ntmps94
  go_wp2_with fail
  refine HS.out.mono ?_
  rintro e w' ⟨rfl, rfl⟩
  go_wp2_with fail
  go_ret
  exact ⟨rfl, rfl⟩

set_option maxRecDepth 100000 in
set_option maxHeartbeats 4000000 in
theorem foreignKeyIDW (f : FkM) (w : World) (hf : Elems 1 intCs w (· < w.heap.size) f.A f.cols) (hn : f.name.size < 10) (hr : f.ref.size < 10) (hl : f.cols.length ≤ 6) (hc : ∀ c ∈ f.cols, 0 ≤ c ∧ c < 10) :
    Calls Tryz.prog 55 #[f.val] w fun e w' => (∃ t, e = .returned (.string t)) ∧ Below w.heap.size w w' := by
  obtain ⟨w1, hw1⟩ : ∃ w1, w1 = w.alloc (.cells #[.string f.name, .slice f.A f.cols.length f.c, .string f.ref] 73) := ⟨_, rfl⟩
  have hb1 : Below w.heap.size w w1 := by rw [hw1]; exact (Below.refl _ _).alloc (Nat.le_refl _) _
  have hg1 : w1.heap[w.heap.size]? = some (.cells #[.string f.name, .slice f.A f.cols.length f.c, .string f.ref] 73 (0, 0)) := by rw [hw1]; exact heap_alloc_new w _
  have x0 := cell_of_row _ _ 0 _ _ _ hg1
  have x1 := cell_of_row _ _ 1 _ _ _ hg1
  have x2 := cell_of_row _ _ 2 _ _ _ hg1
  have HS1 := Lib.hid fun W => sizedW f.name hn W
  have HS2 := Lib.hid fun W => sizedW f.ref hr W
  have HF := Lib.hid (Elems.on hf hb1)
  have HC := Lib.hid hc
  have HB1 := Lib.hid hb1
  have HW1 := Lib.hid hw1
  have hs1 := sz_size f.name
  have hs2 := sz_size f.ref
  have hz : ¬ 9223372036854775807 < (sz f.name).size + (sz f.ref).size := by omega
  have HZ : Hid ((sz f.name ++ sz f.ref).size ≤ 30) := Lib.hid (by rw [ByteArray.size_append]; omega)
  obtain ⟨n, hl2⟩ : ∃ n, f.cols.length = n := ⟨_, rfl⟩
  rw [hl2] at hl
  have HL := Lib.hid hl2
  unfold FkM.val
  rw [hl2] at HW1 x1 ⊢
  clear hf hn hr hc hb1 hw1 hg1 hl2 hs1 hs2
  generalize sz f.name = t1 at *
  generalize sz f.ref = t2 at *
  go_enter Tryz.func55, Tryz.ntmps55
  go_upto_region 1 with fail
  rw [← HW1.out]
  go_quiet (first | (go_at_call 94; exact quiet_same (HS1.out _)) | (go_at_call 94; exact quiet_same (HS2.out _)))
  go_wp2_with fail
  go_loopw [3, 16] (fun v3 vi wr => ∃ (k : Nat) (t : ByteArray), vi = .int .i64 (k : Int) ∧ k ≤ n ∧ v3 = .string t ∧ t.size ≤ 30 + 2 * k ∧ Below w1.heap.size w1 wr) (fun _ vi _ => n - (intOf vi).toNat)
  case atStart => exact ⟨0, _, rfl, by omega, rfl, HZ.out, by first | exact Below.refl _ _ | exact below_drewN (Below.refl _ _) _⟩
  case round =>
    obtain ⟨k, t, rfl, hkn, rfl, hts, hb⟩ := hrel
    obtain ⟨wo, rfl⟩ : ∃ wo, wo = wr := ⟨_, rfl⟩
    by_cases hlt : k < n
    · have hki : k < f.cols.length := by have := HL.out; omega
      obtain ⟨b, off, hA, -, q0⟩ := (HF.out.on hb).int hki
      obtain ⟨hc0, hc1⟩ := HC.out _ (List.getElem_mem hki)
      obtain ⟨c, hcc⟩ := Int.eq_ofNat_of_zero_le hc0
      rw [hcc] at q0
      have hc10 : c < 10 := by omega
      have HI := Lib.hid (itoa1 c hc10 wo)
      have hlt' : (k : Int) < (n : Int) := by omega
      have hd1 : (dg c).size = 1 := rfl
      have ha1 : ((⟨#[44]⟩ : ByteArray) ++ dg c).size = 2 := by rw [ByteArray.size_append]; rfl
      have hz1 : ¬ 9223372036854775807 < 1 + (dg c).size := by omega
      have hz2 : ¬ 9223372036854775807 < t.size + (1 + (dg c).size) := by omega
      have HT2 : Hid ((t ++ (⟨#[44]⟩ ++ dg c)).size ≤ 30 + 2 * (k + 1)) := Lib.hid (by rw [ByteArray.size_append, ha1]; omega)
      have HB := Lib.hid hb
      rw [hA]
      clear hd1 ha1 hc0 hc1 hcc hb hts
      go_wp2_with fail
      refine HI.out.mono ?_
      rintro e w' ⟨rfl, rfl⟩
      go_wp2_with fail
      go_roundw
      case rel => exact ⟨k + 1, _, by go_num, by omega, rfl, HT2.out, HB.out⟩
      case measure => simp [intOf]; omega
    · have hkn' : k = n := by omega
      subst hkn'
      have HF2 := Lib.hid (HB1.out.trans (hb.mono HB1.out.size))
      clear hb
      go_wp2_with fail
      go_ret
      exact ⟨⟨_, rfl⟩, HF2.out⟩
end Go.Proofs.YtefifkleamiabaaGreatDoor
