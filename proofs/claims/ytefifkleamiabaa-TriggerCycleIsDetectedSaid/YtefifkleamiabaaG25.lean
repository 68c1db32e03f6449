/-
  The executor in memory; change.Apply as the executor calls it.
-/
import Derived.Test.YtefifkleamiabaaG17
import Derived.Test.YtefifkleamiabaaG24
namespace Go.Proofs.Ytefifkleamiabaa
open Go.RowKit Go.Sort

theorem chmLay : Lay 4 ChM.cs := ⟨fun _ => rfl, fun x c hc => by simp [ChM.cs] at hc; rcases hc with rfl | rfl | rfl | rfl <;> rfl⟩
theorem elem_chg : ElemT Try.prog 41 50 4 72 := ⟨Try.underlying41, by
  have h : (Try.prog.info? 50).map (fun i => (i.zero, i.size, i.bytes)) = some (some (.agg #[.int .i64 0, .string ByteArray.empty, .slice none 0 0, .slice none 0 0]), 4, 72) := by kernel_rfl
  obtain ⟨i0, hi, hz0, hz1, hz2⟩ := info_parts h
  exact ⟨i0, _, hi, hz0, hz1, hz2, rfl⟩, by omega⟩
theorem ChOk.keep {S : Nat → Prop} {w w' : World} {c : ChM} (h : ChOk S w c) (hk : Keeps S w w') : ChOk S w' c := ⟨h.key.keep hk, h.row.keep hk⟩
theorem ChOk.more {S S' : Nat → Prop} {w : World} {c : ChM} (h : ChOk S w c) (hs : ∀ g, S g → S' g) : ChOk S' w c := ⟨h.key.more hs, h.row.more hs⟩

theorem elems_block {α : Type} {sz : Nat} {cs : α → List Value} {w : World} {xs : List α} {g : Nat} {cur : Array Value} {e : TypeId} (L : Lay sz cs) (hg : w.heap[g]? = some (.cells cur e (0, 0))) (hs : cur.size = xs.length * sz) (hm : xs.length ≤ maxLen) (ht : cur.toList = xs.flatMap cs) :
    Elems sz cs w (fun k => k = g) (some ⟨g, 0, none⟩) xs := by
  have h : Own sz cs e g w (.slice (some ⟨g, 0, none⟩) xs.length xs.length) xs := Own.shut L (Nat.le_refl _) hg rfl (Nat.le_refl _) hm hs (by rw [← hs, ← ht]; exact List.take_of_length_le (by simp))
  exact (h.elems L.len rfl).more fun k hk => by injection hk with hk; exact hk.symm
/-- A valid schema whose first table is item. -/
structure BsS (s : Sc) (a b : Int) : Prop where
  val : SchV s
  len : 0 < s.tabs.length
  nm : s.tabs[0].name = nItem
  cols : s.tabs[0].cols = itemCols
  pk : s.tabs[0].pk = [0]
  ti : tabI nItem s.tabs = 0
  fit : ∀ (full : Bool) (rs : List RelM), rs.map RelM.d = iData full a b → InC s.tabs rs
  ra : 0 ≤ a ∧ a < 7
  rb : 0 ≤ b ∧ b < 7

/-- The blocks that neither the executor nor its list of changes takes up. -/
def Free (px : Nat) (va : Value) (w : World) (g : Nat) : Prop := g < w.heap.size ∧ g ≠ px ∧ va.ownBlock ≠ some g
/-- The executor at px. -/
structure XIn (B px : Nat) (s : Sc) (TA : Option Addr) (tc : Nat) (ts : List Tr) (IA : Option Addr) (ic : Nat) (rs : List RelM) (va : Value) (qs : List ChM) (w : World) : Prop where
  hB : B ≤ px
  blk : w.heap[px]? = some (.cells (exC s (.slice TA ts.length tc) (.slice IA rs.length ic) va) 68 (0, 0))
  sc : ScOk (· < B) w s
  tg : TgOk (· < B) w TA ts
  inst : InOk (Free px va w) w IA rs
  app : Own 4 ChM.cs 50 B w va qs
  ne : va.ownBlock ≠ some px
section
variable {B px : Nat} {s : Sc} {TA : Option Addr} {tc : Nat} {ts : List Tr} {IA : Option Addr} {ic : Nat} {rs : List RelM} {va : Value} {qs : List ChM} {w W : World}
theorem XIn.lt (h : XIn B px s TA tc ts IA ic rs va qs w) : px < w.heap.size := (Array.getElem?_eq_some_iff.1 h.blk).1
theorem Free.up {g : Nat} (h : Free px va w g) (hs : w.heap.size ≤ W.heap.size) : Free px va W g := ⟨Nat.lt_of_lt_of_le h.1 hs, h.2.1, h.2.2⟩
theorem Free.keeps (hb : Below w.heap.size w W) : Keeps (Free px va w) w W := Keeps.of_below hb fun _ h => h.1
theorem XIn.below (h : XIn B px s TA tc ts IA ic rs va qs w) (hb : Below w.heap.size w W) : XIn B px s TA tc ts IA ic rs va qs W := by
  have hl := h.lt
  have hBl : ∀ g, g < B → g < w.heap.size := fun g hg => by have := h.hB; omega
  exact ⟨h.hB, (hb.block px hl).trans h.blk, h.sc.keep (Keeps.of_below hb hBl), h.tg.keep (Keeps.of_below hb hBl), (h.inst.keep (Free.keeps hb)).more fun g hg => hg.up hb.size, h.app.below hb, h.ne⟩
theorem XIn.scw (h : XIn B px s TA tc ts IA ic rs va qs w) : ScOk (· < w.heap.size) w s := h.sc.more fun _ hg => by have := h.hB; have := h.lt; omega
theorem XIn.tgw (h : XIn B px s TA tc ts IA ic rs va qs w) : TgOk (· < w.heap.size) w TA ts := h.tg.more fun _ hg => by have := h.hB; have := h.lt; omega
theorem XIn.inw (h : XIn B px s TA tc ts IA ic rs va qs w) : InOk (· < w.heap.size) w IA rs := h.inst.more fun _ hg => hg.1
theorem ChOk.frw {c : ChM} (h : ChOk (Free px va w) w c) : ChOk (· < w.heap.size) w c := h.more fun _ hg => hg.1
theorem ChOk.fr {c : ChM} (h : ChOk (Free px va w) w c) (hb : Below w.heap.size w W) : ChOk (Free px va W) W c := (h.keep (Free.keeps hb)).more fun _ hg => hg.up hb.size
theorem KOk.fr {k : Key} (h : KOk (Free px va w) w k) (hb : Below w.heap.size w W) : KOk (Free px va W) W k := (h.keep (Free.keeps hb)).more fun _ hg => hg.up hb.size

theorem set6 {w : World} {g : Nat} {t : TypeId} {c0 c1 c2 c3 c4 c5 v4 v5 : Value} (h : w.heap[g]? = some (.cells #[c0, c1, c2, c3, c4, c5] t (0, 0))) :
    ((w.setCell ⟨g, 4, none⟩ v4).setCell ⟨g, 5, none⟩ v5).heap[g]? = some (.cells #[c0, c1, c2, c3, v4, v5] t (0, 0)) := by
  rw [heap_setCell_at (heap_setCell_at h _) _]
  rfl
/-- Behind Apply and the append: the two stores. -/
theorem XIn.step (h : XIn B px s TA tc ts IA ic rs va qs w) {w4 w5 : World} {v4 v5 : Value} {rs' : List RelM} {ds : List (ByteArray × List Row)} {qs' : List ChM} (hio : InO w.heap.size w w4 v4 rs' ds) {A4 : Option Addr} {c4 : Nat} (hv4 : v4 = .slice A4 rs'.length c4) (ho : Own 4 ChM.cs 50 B w5 v5 qs') (hx : Ext w4 va w5 v5) :
    XIn B px s TA tc ts A4 c4 rs' v5 qs' ((w5.setCell ⟨px, 4, none⟩ v4).setCell ⟨px, 5, none⟩ v5) ∧ Below B w ((w5.setCell ⟨px, 4, none⟩ v4).setCell ⟨px, 5, none⟩ v5)
    ∧ (∀ k, KOk (Free px va w) w k → KOk (Free px v5 ((w5.setCell ⟨px, 4, none⟩ v4).setCell ⟨px, 5, none⟩ v5)) ((w5.setCell ⟨px, 4, none⟩ v4).setCell ⟨px, 5, none⟩ v5) k)
    ∧ Keeps (Free px va w) w ((w5.setCell ⟨px, 4, none⟩ v4).setCell ⟨px, 5, none⟩ v5) := by
  have hl := h.lt
  have hB := h.hB
  have hb4 := hio.bel
  have hs4 := hb4.size
  have hs5 := hx.size
  have hva := Own.lt h.app
  have hne5 : v5.ownBlock ≠ some px := hx.ne h.ne (by omega)
  have hoff : ∀ g, g ≠ px → ((w5.setCell ⟨px, 4, none⟩ v4).setCell ⟨px, 5, none⟩ v5).heap[g]? = w5.heap[g]? := fun g hg => by
    rw [Below.heap_setCell _ _ _ _ hg, Below.heap_setCell _ _ _ _ hg]
  have hsz : ((w5.setCell ⟨px, 4, none⟩ v4).setCell ⟨px, 5, none⟩ v5).heap.size = w5.heap.size := by simp [World.setCell]
  have hbB : Below B w w5 := (hb4.mono (by omega)).trans (hx.below (by omega) fun g hg => (hva g hg).1)
  have hkp : Keeps (Free px va w) w ((w5.setCell ⟨px, 4, none⟩ v4).setCell ⟨px, 5, none⟩ v5) := fun g hg => by
    rw [hoff g hg.2.1]
    exact (hx.keeps (S := Free px va w) (fun k hk => ⟨by have := hk.1; omega, fun e => hk.2.2 e.symm⟩) g hg).trans (hb4.block g hg.1)
  have hblk5 : w5.heap[px]? = some (.cells (exC s (.slice TA ts.length tc) (.slice IA rs.length ic) va) 68 (0, 0)) :=
    (hx.keeps (S := fun g => g = px) (fun k hk => ⟨by rw [hk]; omega, fun e => h.ne (by rw [← e, hk])⟩) px rfl).trans ((hb4.block px hl).trans h.blk)
  have hBk : Below B w ((w5.setCell ⟨px, 4, none⟩ v4).setCell ⟨px, 5, none⟩ v5) := (hbB.setCell (p := ⟨px, 4, none⟩) hB _).setCell (p := ⟨px, 5, none⟩) hB _
  have hfr : ∀ g, Free px va w g → Free px v5 ((w5.setCell ⟨px, 4, none⟩ v4).setCell ⟨px, 5, none⟩ v5) g := fun g hg => ⟨by rw [hsz]; have := hg.1; omega, hg.2.1, hx.ne hg.2.2 (by have := hg.1; omega)⟩
  subst hv4
  refine ⟨⟨hB, set6 hblk5, h.sc.keep (Keeps.of_below hBk fun _ hg => hg), h.tg.keep (Keeps.of_below hBk fun _ hg => hg), ?_, (ho.setCell (p := ⟨px, 4, none⟩) (fun g hg e => hne5 (by rw [hg, e])) _).setCell (p := ⟨px, 5, none⟩) (fun g hg e => hne5 (by rw [hg, e])) _, hne5⟩, hBk, fun k hk => (hk.keep hkp).more hfr, hkp⟩
  have hin : InOk (fun g => w.heap.size ≤ g ∧ g < w4.heap.size) w4 A4 rs' :=
    ⟨(hio.own.elems relLay.len rfl).more fun g hg => Own.lt hio.own g hg, fun k hk => (hio.rel k hk).more fun _ hg => ⟨hg.1, hg.2.1⟩⟩
  have hk2 : Keeps (fun g => w.heap.size ≤ g ∧ g < w4.heap.size) w4 ((w5.setCell ⟨px, 4, none⟩ (.slice A4 rs'.length c4)).setCell ⟨px, 5, none⟩ v5) := fun g hg => by
    rw [hoff g (by omega)]
    exact hx.keeps (S := fun g => w.heap.size ≤ g ∧ g < w4.heap.size) (fun k hk => ⟨hk.2, fun e => by have := (hva k e.symm).2; omega⟩) g hg
  exact (hin.keep hk2).more fun g hg => ⟨by rw [hsz]; omega, by omega, hx.ne (fun e => by have := (hva g e).2; omega) hg.2⟩
end

/-- All that apply is handed. -/
structure XSt (B px : Nat) (s : Sc) (TA : Option Addr) (tc : Nat) (ts : List Tr) (a b : Int) (kind : Int) (D : Nat) (ch : ChM) (IA : Option Addr) (ic : Nat) (rs : List RelM) (va : Value) (qs : List ChM) (w : World) : Prop where
  x : XIn B px s TA tc ts IA ic rs va qs w
  dat : rs.map RelM.d = iData (decide (kind = 2)) a b
  len : qs.length ≤ D
  co : ChOk (Free px va w) w ch
  ck : ch.kind = kind
  cn : ch.name = nItem
  cd : (kind = 1 ∧ ch.key.row = [] ∧ ch.row.row = iRow a b) ∨ (kind = 2 ∧ ch.key.row = iKey a ∧ ch.row.row = [])
def ApH (B px : Nat) (s : Sc) (TA : Option Addr) (tc : Nat) (ts : List Tr) (a b : Int) (kind : Int) (D : Nat) : Prop :=
  ∀ ch IA ic rs va qs w, XSt B px s TA tc ts a b kind D ch IA ic rs va qs w → Calls Try.prog 12 #[ptr px, .agg ch.cells, .int .i64 (D : Int)] w fun e w' => e = .returned (.int .i64 14) ∧ Below B w w'

section
variable {B px : Nat} {s : Sc} {TA : Option Addr} {tc : Nat} {ts : List Tr} {a b : Int} {kind : Int} {D : Nat} {ch : ChM} {IA : Option Addr} {ic : Nat} {rs : List RelM} {va : Value} {qs : List ChM} {w W : World}
theorem XSt.rl (h : XSt B px s TA tc ts a b kind D ch IA ic rs va qs w) : rs.length = 2 := by
  have h := congrArg List.length h.dat
  rwa [List.length_map] at h
theorem XSt.r0 (h : XSt B px s TA tc ts a b kind D ch IA ic rs va qs w) (h0 : 0 < rs.length) : rs[0].name = nItem ∧ rs[0].rows.map Key.row = iRows (decide (kind = 2)) a b := by
  have h := congrArg (fun l => l[0]?) h.dat
  simp only [List.getElem?_map, List.getElem?_eq_getElem h0, Option.map_some] at h
  have h := Option.some.inj h
  exact ⟨congrArg Prod.fst h, congrArg Prod.snd h⟩
theorem XSt.chc (h : XSt B px s TA tc ts a b kind D ch IA ic rs va qs w) (hs : BsS s a b) : ChC s ch 0 := by
  have hl0 := hs.len
  refine ⟨hs.len, by rw [h.cn]; exact hs.ti, ⟨by rw [hs.cols]; show 4 ≤ 1000; omega, by rw [hs.pk]; show 1 ≤ 12; omega⟩, ?_⟩
  rcases h.cd with ⟨h1, h2, h3⟩ | ⟨h1, h2, h3⟩
  · exact .inl ⟨h.ck.trans h1, by rw [h2]; rfl, by rw [hs.cols, h3]; exact iRow_ok hs.ra hs.rb⟩
  · refine .inr ⟨h.ck.trans h1, by rw [h3]; rfl, ?_⟩
    rw [h2]
    have hk := iKey_ok hs.ra (A := none) (P := none)
    refine ⟨by rw [hs.pk]; exact hk.len, hk.err, fun i h1 h2 => ?_⟩
    have h1' : i < 1 := h1
    obtain rfl : i = 0 := by omega
    have h0 : s.tabs[0].pk[0] = 0 := by
      have h := congrArg (fun l => l[0]?) hs.pk
      simp only [List.getElem?_eq_getElem h2] at h
      exact Option.some.inj h
    refine ⟨by rw [h0]; omega, by rw [h0, hs.cols]; show 0 < 4; omega, ?_⟩
    rw [h0, hs.cols]
    rfl
/-- Apply, with the one change in a list made ahead of the call. -/
theorem XSt.apply (h : XSt B px s TA tc ts a b kind D ch IA ic rs va qs w) (hs : BsS s a b) (hW : Below w.heap.size w W) :
    Calls Try.prog 23 #[s.v, .slice IA rs.length ic, .slice (some ⟨W.heap.size, 0, none⟩) 1 1] (W.alloc (.cells ch.cells 50)) fun e w' => ∃ v rs', e = .returned (.tuple #[v, .int .i64 0]) ∧ InO W.heap.size W w' v rs' (iData (!decide (kind = 2)) a b) := by
  obtain ⟨W1, hW1⟩ : ∃ W1, W1 = W.alloc (.cells ch.cells 50) := ⟨_, rfl⟩
  have hb1 : Below W.heap.size W W1 := by rw [hW1]; exact (Below.refl _ _).alloc (Nat.le_refl _) _
  have hg1 : W1.heap[W.heap.size]? = some (.cells ch.cells 50 (0, 0)) := by rw [hW1]; exact heap_alloc_new W _
  rw [← hW1]
  have hb := hW.trans (hb1.mono hW.size)
  have hx := h.x.below hb
  have hrl := h.rl
  have hl0 := hs.len
  have h0 : 0 < rs.length := by omega
  obtain ⟨hn0, hr0⟩ := h.r0 h0
  have hin : ApIn s IA rs (some ⟨W.heap.size, 0, none⟩) ch 0 W1 := by
    refine ⟨hx.scw, hs.val, hx.inw, hs.fit _ _ h.dat, (elems_block chmLay (xs := [ch]) hg1 rfl (by show 1 ≤ maxLen; decide) rfl).more fun g hg => ?_, (h.co.fr hb).frw, h.chc hs⟩
    have hg : g = W.heap.size := hg
    rw [hg]
    exact (Array.getElem?_eq_some_iff.1 hg1).1
  have hset : ∀ rows, rows = iRows (!decide (kind = 2)) a b → (rs.map RelM.d).set 0 (s.tabs[0].name, rows) = iData (!decide (kind = 2)) a b := fun rows hr => by
    rw [h.dat, hr, hs.nm]
    rfl
  have hfin : ∀ w' v rs' rows, rows = iRows (!decide (kind = 2)) a b → InO W1.heap.size W1 w' v rs' ((rs.map RelM.d).set 0 (s.tabs[0].name, rows)) → InO W.heap.size W w' v rs' (iData (!decide (kind = 2)) a b) := fun w' v rs' rows hr ho => by
    rw [hset rows hr] at ho
    exact ⟨ho.own.mono hb1.size, ho.dat, fun r hm => (ho.rel r hm).more fun g hg => ⟨Nat.le_trans hb1.size hg.1, hg.2⟩, hb1.trans (ho.bel.mono hb1.size)⟩
  rcases h.cd with ⟨h1, h2, h3⟩ | ⟨h1, h2, h3⟩
  · subst h1
    have hr0 : rs[0].rows.map Key.row = [] := hr0
    have hrow : upsX s.tabs[0].pk ch.row.row (rs[0].rows.map Key.row) = iRows true a b := by rw [hr0, hs.pk, h3]; rfl
    refine (applyUps s IA ic rs (some ⟨W.heap.size, 0, none⟩) 1 ch 0 W1 hin h.ck h0 hs.len (by rw [hrow]; show 1 ≤ 24; omega)).mono ?_
    rintro e w' ⟨v, rs', rfl, ho⟩
    exact ⟨v, rs', rfl, hfin _ _ _ _ hrow ho⟩
  · subst h1
    have hr0 : rs[0].rows.map Key.row = [iRow a b] := hr0
    have hrow : delRX s.tabs[0].pk ch.key.row (rs[0].rows.map Key.row) = iRows false a b := by rw [hr0, hs.pk, h2, del_item]; rfl
    refine (applyDel s IA ic rs (some ⟨W.heap.size, 0, none⟩) 1 ch 0 W1 hin h.ck h0 hs.len (by rw [hr0, hs.pk, h2]; exact (rff_row a b).2)).mono ?_
    rintro e w' ⟨v, rs', rfl, ho⟩
    exact ⟨v, rs', rfl, hfin _ _ _ _ hrow ho⟩
end
end Go.Proofs.Ytefifkleamiabaa
