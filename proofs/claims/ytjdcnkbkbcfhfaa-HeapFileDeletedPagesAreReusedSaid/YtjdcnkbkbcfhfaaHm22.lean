/-
  The walks of Delete, Rows of a heap file.
  btree.New (turned from XIr).
  The walk of heapfile.New.
  The walks of Mod, indexTable, GenerateValue.
  The walk of tableRows.
-/
import Derived.Test.YtjdcnkbkbcfhfaaHm19
import Derived.Test.YtjdcnkbkbcfhfaaHm21
import Derived.Test.YtjdcnkbkbcfhfaaHm11
import Derived.Test.YtjdcnkbkbcfhfaaHm16
import Derived.Test.YtjdcnkbkbcfhfaaHm04
import Derived.Test.YtjdcnkbkbcfhfaaHm14
import Derived.StillTailTactics
import Derived.BigRegion
import Derived.Deep.RegionHeld3
import Derived.Deep.RegionLaw
import Derived.Test.YtjdcnkbkbcfhfaaHm15
namespace Go.Proofs.Ytjdcnkbkbcfhfaa
open Go.RowKit Go.Sort

/-- What Delete leaves. -/
def DelFin (F : Nat → Prop) (w : World) (fb tb : Nat) (t : Tbl) (pgs : Pgs) (ps : List PE) (f : Row → Row) (k : Row) (w' : World) : Prop :=
  ∃ pgs', FileT F w' fb tb t pgs' (delP k ps) ∧ HInv pgs' (delP k ps) f ∧ pgs'.length ≤ pgs.length ∧ (delP k ps = [] → pgs' = []) ∧ Fr F w w'

set_option maxRecDepth 100000 in
set_option maxHeartbeats 4000000 in
theorem delFileW {F : Nat → Prop} {fb tb : Nat} {t : Tbl} {pgs : Pgs} {ps : List PE} (w : World) (h : FileT F w fb tb t pgs ps) (A : Option Addr) (c : Nat) (k : Row) (hx : Elems 3 Val.cs w F A k) (hk : KeyOk t k) {f : Row → Row} (hinv : HInv pgs ps f) {id : Int} (hid : getP k ps = some id) (hn : pgs.length ≤ 1000) (hps : ps.length ≤ 1000) :
    Calls Try.prog 10 #[ptr fb, .slice A k.length c] w fun e w' => e = .returned (.int .i64 0) ∧ DelFin F w fb tb t pgs ps f k w' := by
  obtain ⟨i, s, hi, hs127, hat0, he⟩ := hinv.loc _ _ ((mem_getP h.ord).1 hid)
  have hx' := hx.more h.lt
  have HCK := Lib.hid (checkKeyW w h A c k hx' hk)
  have HGT := Lib.hid fun W (hW : Below w.heap.size w W) => fileGet (h.below hW) A c k (hx'.on hW) hk.err hk.n12
  have HC := Lib.hid fun W (hW : Below w.heap.size w W) => (h.below hW).c.2.2.2
  have HDE := Lib.hid fun W (hW : Below w.heap.size w W) => fileDel (h.below hW) A c k (hx.keep (Keeps.of_below hW h.lt)) hk.err hk.n12 hps
  rw [hid] at HGT HDE
  have HRL := Lib.hid fun W (hf : FileT F W fb tb t pgs (delP k ps)) => releaseW W hf hat0 hs127 hn
  rw [← hi] at HRL
  have HFL := Lib.hid h.lt
  have HFI : Hid (HInv (hrel pgs i s) (delP k ps) f ∧ (hrel pgs i s).length ≤ pgs.length ∧ (delP k ps = [] → hrel pgs i s = [])) := Lib.hid (by
    rw [hi] at hid
    have h1 := hinv.del h.ord hid hs127
    exact ⟨h1, (hrel_spec hinv.ok hat0).2.1, fun e => hrel_nil (by rw [e] at h1; exact h1)⟩)
  clear hx hx' hk hid hi hat0 he hinv h
  generalize k.length = kl at *
  go_enter Try.func10, Try.ntmps10
  go_wp2_with fail
  refine HCK.out.mono ?_
  rintro e w1 ⟨rfl, hb1⟩
  have HG1 := Lib.hid (HGT.out w1 hb1)
  have c4 := HC.out w1 hb1
  have HB1 := Lib.hid hb1
  clear hb1
  go_wp2_with fail
  refine HG1.out.mono ?_
  rintro e w2 ⟨rfl, hb2⟩
  have hb2' := HB1.out.trans (hb2.mono HB1.out.size)
  have d4 := HC.out w2 hb2'
  have HD2 := Lib.hid (HDE.out w2 hb2')
  have HB2 := Lib.hid hb2'
  clear hb2 hb2'
  unfold getV
  go_wp2_with fail
  refine HD2.out.mono ?_
  rintro e w3 ⟨rfl, h3, hf3⟩
  have HR3 := Lib.hid (HRL.out w3 h3)
  have HF3 := Lib.hid hf3
  clear h3 hf3
  go_wp2_with fail
  refine HR3.out.mono ?_
  rintro e w4 ⟨rfl, h4, hf4⟩
  have HF4 : Hid (FileT F w4 fb tb t (hrel pgs i s) (delP k ps) ∧ Fr F w w4) := Lib.hid ⟨h4, (Fr.of_below HB2.out HFL.out).trans (HF3.out.trans hf4)⟩
  clear h4 hf4
  go_wp2_with fail
  go_ret
  exact ⟨rfl, _, HF4.out.1, HFI.out.1, HFI.out.2.1, HFI.out.2.2, HF4.out.2⟩

set_option maxRecDepth 100000 in
set_option maxHeartbeats 4000000 in
theorem rowsFileW {F : Nat → Prop} {fb tb : Nat} {t : Tbl} {pgs : Pgs} {ps : List PE} (w : World) (h : FileT F w fb tb t pgs ps) {f : Row → Row} (hinv : HInv pgs ps f) (hn : pgs.length ≤ 1000) (hps : ps.length ≤ 1000) :
    Calls Try.prog 15 #[ptr fb] w fun e w' => ∃ A n c, e = .returned (.slice A n c) ∧ n = ps.length ∧ Below w.heap.size w w' := by
  have hent : Calls Try.prog 33 #[ptr tb] w (EntsPost w ps) := by
    obtain ⟨G, pv, xs, h, -⟩ := h
    exact entriesW ord24 w h.tree.at_ hps
  have HEN := Lib.hid hent
  have c4 := h.c.2.2.2
  have HRD : Hid (∀ W, Below w.heap.size w W → ∀ k id, (k, id) ∈ ps → Calls Try.prog 32 #[ptr fb, .int .i64 id] W fun e w' => ∃ v, e = .returned v ∧ Own 3 Val.cs 44 W.heap.size w' v (f k) ∧ Below W.heap.size W w') := Lib.hid fun W hW k id hm => by
    obtain ⟨i, s, hi, hs127, hat0, he⟩ := hinv.loc _ _ hm
    rw [hi]
    exact readW W (h.below hW) hat0 hs127 he hn
  obtain ⟨n, hpn⟩ : ∃ n, ps.length = n := ⟨_, rfl⟩
  rw [hpn] at hps
  have HPN := Lib.hid hpn
  clear hent h hinv hn hpn
  go_enter Try.func15, Try.ntmps15
  go_wp2_with fail
  refine HEN.out.mono ?_
  rintro e w1 ⟨A, n', c, ob, es, rfl, hn', hnc, hcm, hcop, hob, hb1⟩
  rw [HPN.out] at hn'
  subst hn'
  have HCOP := Lib.hid hcop
  have HB1 := Lib.hid hb1
  have hel : es.length = n' := by rw [← HPN.out, ← hcop.eq, List.length_map]
  have HEL := Lib.hid hel
  have HM : Hid (∀ (j : Nat) (hj : j < es.length), (es[j].key.row, es[j].val) ∈ ps) := Lib.hid fun j hj => by
    rw [← hcop.eq]
    exact List.mem_map.2 ⟨es[j], List.getElem_mem hj, rfl⟩
  have HEE : Hid (∀ W, Below w1.heap.size w1 W → Elems 2 Ent.cs W (· < W.heap.size) A es) := Lib.hid fun W hW => ((hcop.own.below hW).elems entLay.len rfl).more fun k hk => (Own.lt (hcop.own.below hW) k hk).2
  clear hcop hb1 hel hob hnc hcm
  go_wp2_with fail
  go_loopw [3, 12] (fun v3 vi wr => ∃ (j : Nat) (ks : List Key), vi = .int .i64 (j : Int) ∧ j ≤ n' ∧ ks.length = j ∧ Own 1 Key.cs 35 w1.heap.size wr v3 ks ∧ Below w1.heap.size w1 wr) (fun _ vi _ => n' - (intOf vi).toNat)
  case atStart => exact ⟨0, [], rfl, by omega, rfl, Own.nil _, Below.refl _ _⟩
  case round =>
    obtain ⟨j, ks, rfl, hjn, hks, ho, hb⟩ := hrel
    obtain ⟨wo, rfl⟩ : ∃ wo, wo = wr := ⟨_, rfl⟩
    by_cases hlt : j < n'
    · have hje : j < es.length := by have := HEL.out; omega
      have hm := HM.out j hje
      obtain ⟨b, off, rfl, hbs, hcell⟩ := (HEE.out wo hb).at_ hje
      have p0 : wo.cell? ⟨b, off + j * 2, none⟩ = some (.slice es[j].key.A es[j].key.row.length es[j].key.c) := hcell 0 _ rfl
      have p1 : wo.cell? ⟨b, off + j * 2 + 1, none⟩ = some (.int .i64 es[j].val) := hcell 1 _ rfl
      have hjn' : (j : Int) < (n' : Int) := by omega
      have HB := Lib.hid (HB1.out.trans (hb.mono HB1.out.size))
      have HRR : Hid (∀ o1, Calls Try.prog 32 #[ptr fb, .int .i64 es[j].val] (wo.alloc o1) _) := Lib.hid fun o1 => HRD.out (wo.alloc o1) (HB.out.alloc HB.out.size o1) es[j].key.row es[j].val hm
      have HOB := Lib.hid (And.intro ho (And.intro hb hks))
      generalize es[j].key.A = kA at *
      generalize es[j].key.row.length = kn at *
      generalize es[j].key.c = kc at *
      generalize es[j].val = kv at *
      clear ho hb hks hm hbs hcell
      go_wp2_with fail
      refine (HRR.out _).mono ?_
      rintro e w2 ⟨v2, rfl, ho2, hb2⟩
      obtain ⟨A2, c2, rfl, -, -⟩ := ho2.form
      obtain ⟨h1, h2, h3⟩ := HOB.out
      have hba : Below wo.heap.size wo (wo.alloc (.cells #[.slice kA kn kc, .int .i64 kv] 81)) := (Below.refl _ _).alloc (Nat.le_refl _) _
      have hbw : Below wo.heap.size wo w2 := hba.trans (hb2.mono hba.size)
      have HO2 := Lib.hid (h1.below hbw)
      have HBW := Lib.hid (h2.trans (hbw.mono h2.size))
      have HL1 : Hid ((ks.length + 1) * 24 ≤ 140737488355328) := Lib.hid (by omega)
      have HL2 : Hid (ks.length + 1 ≤ maxLen) := Lib.hid (by unfold maxLen; omega)
      have HS2 := Lib.hid (Nat.le_trans h2.size hbw.size)
      clear ho2 hb2 h1 h2 h3 hba hbw
      generalize f es[j].key.row = rr at *
      go_wp2_with (at_builtin; refine wpList_app rfl (.tmp 16) (.tmp 21) _ _ rfl rfl rfl (run_push scElemKeys keyLay _ _ _ ks ⟨A2, c2, rr⟩ _ HO2.out rfl HL1.out HL2.out HS2.out rfl) ?_; rintro v3 w3 ⟨ho3, hx3⟩)
      have HF : Hid (Own 1 Key.cs 35 w1.heap.size w3 v3 (ks ++ [⟨A2, c2, rr⟩]) ∧ Below w1.heap.size w1 w3) := Lib.hid ⟨ho3, HBW.out.trans (hx3.below HS2.out fun g hg => (Own.lt HO2.out g hg).1)⟩
      clear ho3 hx3
      go_wp2_with fail
      go_roundw
      case rel => exact ⟨j + 1, _, by go_num, by omega, by rw [List.length_append, HOB.out.2.2]; rfl, HF.out.1, HF.out.2⟩
      case measure => simp [intOf]; omega
    · have hjn' : j = n' := by omega
      subst hjn'
      obtain ⟨A2, c2, hv, -, -⟩ := ho.form
      subst hv
      have HF : Hid (ks.length = j ∧ Below w.heap.size w wo) := Lib.hid ⟨hks, HB1.out.trans (hb.mono HB1.out.size)⟩
      clear ho hb hks
      go_wp2_with fail
      go_ret
      exact ⟨_, _, _, rfl, by rw [HPN.out]; exact HF.out.1, HF.out.2⟩
end Go.Proofs.Ytjdcnkbkbcfhfaa

namespace Go.Proofs.Ytjdcnkbkbcfhfaa
open Go.RowKit Go.Sort

set_option maxRecDepth 100000 in
theorem newW {m o : Nat} (hO : Order m o) (w : World) :
    Calls Try.prog 17 #[.int .i64 o] w fun e w' => e = .returned (.tuple #[ptr (w.heap.size + 1), .int .i64 0]) ∧ TreeAt w.heap.size m o w' (w.heap.size + 1) [] ∧ Below w.heap.size w w' := by
  have h1 : ¬ ((o : Int) < 3) := by have := hO.lo; omega
  have h2 : ¬ ((16 : Int) < (o : Int)) := by have := hO.hi; omega
  obtain ⟨w1, hw1⟩ : ∃ w1, w1 = (w.alloc (.cells #[.slice none 0 0, .slice none 0 0, .slice none 0 0] 85)).alloc (.cells #[.int .i64 o, ptr w.heap.size, .int .i64 0] 87) := ⟨_, rfl⟩
  have HE : Hid (TreeAt w.heap.size m o w1 (w.heap.size + 1) []) := Lib.hid (by
    have hsz : w1.heap.size = w.heap.size + 2 := by rw [hw1]; simp
    have g0 : w1.heap[w.heap.size]? = some (.cells #[.slice none 0 0, .slice none 0 0, .slice none 0 0] 85 (0, 0)) := by
      rw [hw1, Below.heap_alloc _ _ _ (by simp)]
      exact heap_alloc_new w _
    have g1 : w1.heap[w.heap.size + 1]? = some (.cells #[.int .i64 o, ptr w.heap.size, .int .i64 0] 87 (0, 0)) := by
      rw [hw1]; exact alloc2_at w _ _
    refine ⟨fun k => if k = w.heap.size then some ⟨[], [], []⟩ else none, fun k => if k = w.heap.size then .node else if k = w.heap.size + 1 then .top else if k < w.heap.size then .old else .free, 0, w.heap.size, ([] : List Ent), [w.heap.size], ⟨⟨fun a n ha => ?_, fun k hk => ?_⟩, ?_, fun k hk => ?_, g1, ⟨[], rfl, if_pos rfl, rfl⟩, by simp, List.Pairwise.nil, .inl rfl, Nat.zero_le _, rfl⟩, rfl⟩
    · split at ha
      · rename_i h
        subst h
        injection ha with ha
        subst ha
        exact ⟨fun _ => .slice none 0 0, g0, if_pos rfl, fun i _ => nodeNil _ _, (fun i _ g hg => by cases hg), (fun e he => by cases he), (fun k hk => by cases hk)⟩
      · cases ha
    · show (if _ then _ else _) = _
      rw [if_neg (by omega), if_neg (by omega), if_neg (by omega)]
    · show (if _ then _ else _) = _
      rw [if_neg (by omega), if_pos rfl]
    · show ¬ (if _ then _ else _ : Whose).mine ∧ (if _ then _ else _) ≠ _ ∧ (if _ then _ else _) ≠ _
      rw [if_neg (by omega), if_neg (by omega), if_pos hk]
      exact ⟨fun h => h, by simp, by simp⟩)
  have HB : Hid (Below w.heap.size w w1) := Lib.hid (by rw [hw1]; exact ((Below.refl _ _).alloc (Nat.le_refl _) _).alloc (le_size1 (Nat.le_refl _) _) _)
  rw [hw1] at HE HB
  clear hw1 hO
  go_enter Try.func17, Try.ntmps17
  go_wp2_with fail
  go_ret2
  exact ⟨by simp, HE.out, HB.out⟩
end Go.Proofs.Ytjdcnkbkbcfhfaa

namespace Go.Proofs.Ytjdcnkbkbcfhfaa
open Go.RowKit Go.Sort

/-- Behind both clones: the table's own copy, and the empty tree. -/
def NewMid (w w4 w5 : World) (name : ByteArray) (tc : List Col) (pk : List Int) (tb : Nat) (wc : World) : Prop :=
  ∃ t : Tbl, t.cols = tc ∧ t.pk = pk ∧ t.name = name ∧ wc.heap[w.heap.size]? = some (.cells #[.string t.name, .slice t.CA t.cols.length t.cc, .slice t.PA t.pk.length t.pc] 29 (0, 0))
    ∧ TOk (fun k => w5.heap.size ≤ k ∧ k < wc.heap.size) wc t ∧ TreeF (fun k => k < w4.heap.size ∨ (w5.heap.size ≤ k ∧ k < wc.heap.size)) 2 4 wc tb [] ∧ Below w.heap.size w wc ∧ w5.heap.size ≤ wc.heap.size

/-- What New leaves. -/
def NewFin (w : World) (cols : List Col) (pk : List Int) (e : Ending) (w' : World) : Prop :=
  ∃ fb tb t', e = .returned (.tuple #[ptr fb, .int .i64 0]) ∧ t'.cols = cols ∧ t'.pk = pk ∧ FileT (· < w.heap.size) w' fb tb t' [] [] ∧ Below w.heap.size w w'

theorem newFin {w w4 w5 wc : World} {name : ByteArray} {tc : List Col} {pk : List Int} {tb : Nat} (h : NewMid w w4 w5 name tc pk tb wc) (h4 : w.heap.size < w4.heap.size) :
    ∃ t : Tbl, wc.heap[w.heap.size]? = some (.cells #[.string t.name, .slice t.CA t.cols.length t.cc, .slice t.PA t.pk.length t.pc] 29 (0, 0))
      ∧ NewFin w tc pk (.returned (.tuple #[ptr wc.heap.size, .int .i64 0])) (wc.alloc (.cells (fcells t (.slice none 0 0) tb) 61)) := by
  obtain ⟨t, h1, h2, -, h3, h5, h6, h7, h8⟩ := h
  refine ⟨t, h3, wc.heap.size, tb, t, rfl, h1, h2, ?_, h7.alloc h7.size _⟩
  have hba : Below wc.heap.size wc (wc.alloc (.cells (fcells t (.slice none 0 0) tb) 61)) := (Below.refl _ _).alloc (Nat.le_refl _) _
  have hsz : (wc.alloc (.cells (fcells t (.slice none 0 0) tb) 61)).heap.size = wc.heap.size + 1 := size1 _ _
  refine ⟨fun k => k < w4.heap.size ∨ (w5.heap.size ≤ k ∧ k < wc.heap.size + 1), .slice none 0 0, [], ⟨heap_alloc_new wc _, (h6.more hba).sub fun k hk => ?_, Own.nil _, fun x hx => (nomatch hx), (h5.keep (Keeps.of_below hba fun k hk => hk.2)).more fun k hk => ⟨.inr ⟨hk.1, by omega⟩, by omega, fun e => (nomatch e)⟩, ⟨.inr ⟨h8, by omega⟩, fun e => (nomatch e)⟩, fun g hg => (nomatch hg), fun k hk => ⟨.inl (by omega), ?_, fun e => (nomatch e)⟩⟩, rfl⟩
  · rw [hsz]
    rcases hk with hk | hk
    · exact .inl (.inl hk)
    · by_cases hl : k < wc.heap.size
      · exact .inl (.inr ⟨hk.1, hl⟩)
      · exact .inr ⟨by omega, hk.2⟩
  · have := h7.size
    omega

set_option maxRecDepth 100000 in
set_option maxHeartbeats 4000000 in
theorem newFileW (t : Tbl) (w : World) (ht : TOk (· < w.heap.size) w t) (hT : TabOk t) (hC : ColsOk t t.pk) (hd : t.pk.length ≤ t.pc) :
    Calls Try.prog 5 #[t.val] w (NewFin w t.cols t.pk) := by
  obtain ⟨w1, hw1⟩ : ∃ w1, w1 = w.alloc (.cells #[.string t.name, .slice t.CA t.cols.length t.cc, .slice t.PA t.pk.length t.pc] 29) := ⟨_, rfl⟩
  have hbx := heap_alloc_new w (.cells #[.string t.name, .slice t.CA t.cols.length t.cc, .slice t.PA t.pk.length t.pc] 29)
  rw [← hw1] at hbx
  have hb1 : Below w.heap.size w w1 := by rw [hw1]; exact (Below.refl _ _).alloc (Nat.le_refl _) _
  have hs1 : w1.heap.size = w.heap.size + 1 := by rw [hw1]; exact size1 _ _
  have HCK := Lib.hid (checkTable t t.PA t.pc t.pk w1 (ht.on hb1) (ht.on hb1).pk hd hT hC)
  have HNW : Hid (∀ W, Calls Try.prog 17 #[.int .i64 4] W fun e w' => e = .returned (.tuple #[ptr (W.heap.size + 1), .int .i64 0]) ∧ TreeAt W.heap.size 2 4 w' (W.heap.size + 1) [] ∧ Below W.heap.size W w') := Lib.hid fun W => newW (o := 4) ord24 W
  have HTK := Lib.hid ht
  have HTL : Hid (t.cols.length ≤ 6 ∧ t.pk.length ≤ 1000) := Lib.hid ⟨hT.ncols, hT.npk.2⟩
  have HW1 := Lib.hid hw1
  have HB1 := Lib.hid (And.intro hb1 (And.intro hs1 hbx))
  obtain ⟨name, CA, cc, tc, PA, pc, pk⟩ := t
  unfold Tbl.val at HCK ⊢
  simp only at HCK hbx HW1 HB1 HTL ⊢
  have c0 : w1.cell? ⟨w.heap.size, 0, none⟩ = some (.string name) := by rw [cell_of_row _ _ _ _ _ _ hbx]; rfl
  have c1 : w1.cell? ⟨w.heap.size, 1, none⟩ = some (.slice CA tc.length cc) := by rw [cell_of_row _ _ _ _ _ _ hbx]; rfl
  have c2 : w1.cell? ⟨w.heap.size, 2, none⟩ = some (.slice PA pk.length pc) := by rw [cell_of_row _ _ _ _ _ _ hbx]; rfl
  have HN : Hid (∃ n m, tc.length = n ∧ pk.length = m) := Lib.hid ⟨_, _, rfl, rfl⟩
  clear ht hT hC hd hw1 hbx hb1 hs1
  go_enter Try.func5, Try.ntmps5
  go_upto_region 1 with fail
  rw [← HW1.out]
  go_wp2_with fail
  refine HCK.out.mono ?_
  rintro e w4 ⟨rfl, hb4⟩
  have HB4 := Lib.hid (And.intro (HB1.out.1.trans (hb4.mono HB1.out.1.size)) (And.intro ((hb4.block w.heap.size (by have := HB1.out.2.1; omega)).trans HB1.out.2.2) (by have := HB1.out.2.1; have := hb4.size; omega : w.heap.size < w4.heap.size)))
  clear hb4
  go_wp2_with fail
  refine (HNW.out w4).mono ?_
  rintro e w5 ⟨rfl, htr, hb5⟩
  obtain ⟨hb04, hbk4, h4⟩ := HB4.out
  have hbk5 := (hb5.block w.heap.size h4).trans hbk4
  have hb05 := hb04.trans (hb5.mono hb04.size)
  have d1 : w5.cell? ⟨w.heap.size, 1, none⟩ = some (.slice CA tc.length cc) := by rw [cell_of_row _ _ _ _ _ _ hbk5]; rfl
  have d2 : w5.cell? ⟨w.heap.size, 2, none⟩ = some (.slice PA pk.length pc) := by rw [cell_of_row _ _ _ _ _ _ hbk5]; rfl
  have hD1 : Calls Try.prog 18 #[.slice CA tc.length cc] w5.drew fun e w6 => ∃ A1 c1, e = .returned (.slice A1 tc.length c1) ∧ w6.cell? ⟨w.heap.size, 2, none⟩ = some (.slice PA pk.length pc)
      ∧ Hid (Calls Try.prog 19 #[.slice PA pk.length pc] w6 fun e w7 => ∃ A2 c2, e = .returned (.slice A2 pk.length c2) ∧ (∃ x, w7.cell? ⟨w.heap.size, 1, none⟩ = some x) ∧ (∃ x, w7.cell? ⟨w.heap.size, 2, none⟩ = some x) ∧ w7.frozen? ⟨w.heap.size, 1, none⟩ = false ∧ w7.frozen? ⟨w.heap.size, 2, none⟩ = false
        ∧ Hid (NewMid w w4 w5 name tc pk (w4.heap.size + 1) ((w7.setCell ⟨w.heap.size, 1, none⟩ (.slice A1 tc.length c1)).setCell ⟨w.heap.size, 2, none⟩ (.slice A2 pk.length c2)))) := by
    have hb5d : Below w5.heap.size w5 w5.drew := (Below.refl _ _).drew
    have ht5 := (HTK.out.on hb05).on hb5d
    refine (cloneCols CA tc.length cc tc w5.drew _ ht5.cols (fun _ h => h) rfl (by have := HTL.out.1; omega)).mono ?_
    rintro e w6 ⟨v6, rfl, ho6, hb6⟩
    obtain ⟨A1, c1', rfl, -, -⟩ := ho6.form
    have hb56 : Below w5.heap.size w5 w6 := hb5d.trans hb6
    have hbk6 := (hb56.block w.heap.size (Nat.lt_of_lt_of_le h4 hb5.size)).trans hbk5
    refine ⟨A1, c1', rfl, by rw [cell_of_row _ _ _ _ _ _ hbk6]; rfl, Lib.hid ?_⟩
    have ht6 := (HTK.out.on hb05).on hb56
    refine (cloneInts PA pk.length pc pk w6 _ ht6.pk (fun _ h => h) rfl (by have := HTL.out.2; omega)).mono ?_
    rintro e w7 ⟨v7, rfl, ho7, hb7⟩
    obtain ⟨A2, c2', rfl, -, -⟩ := ho7.form
    have hb57 : Below w5.heap.size w5 w7 := hb56.trans (hb7.mono hb56.size)
    have hbk7 := (hb57.block w.heap.size (Nat.lt_of_lt_of_le h4 hb5.size)).trans hbk5
    refine ⟨A2, c2', rfl, ⟨_, by rw [cell_of_row _ _ _ _ _ _ hbk7]; rfl⟩, ⟨_, by rw [cell_of_row _ _ _ _ _ _ hbk7]; rfl⟩, frozen_of_row _ _ _ _ _ hbk7, frozen_of_row _ _ _ _ _ hbk7, Lib.hid ?_⟩
    have hoff : ∀ i, i ≠ w.heap.size → ((w7.setCell ⟨w.heap.size, 1, none⟩ (.slice A1 tc.length c1')).setCell ⟨w.heap.size, 2, none⟩ (.slice A2 pk.length c2')).heap[i]? = w7.heap[i]? := fun i hi => (heap_setCell_off hi _).trans (heap_setCell_off hi _)
    have hsz : ((w7.setCell ⟨w.heap.size, 1, none⟩ (.slice A1 tc.length c1')).setCell ⟨w.heap.size, 2, none⟩ (.slice A2 pk.length c2')).heap.size = w7.heap.size := by rw [setCell_size, setCell_size]
    have hw5 : w5.drew.heap.size = w5.heap.size := rfl
    have e1 : Elems 3 Col.cs w7 (fun k => w5.heap.size ≤ k ∧ k < w7.heap.size) A1 tc := ((ho6.below hb7).elems colLay.len rfl).more fun g hg => by
      have h1 := Own.lt (ho6.below hb7) g hg
      exact ⟨by omega, h1.2⟩
    have e2 : Elems 1 intCs w7 (fun k => w5.heap.size ≤ k ∧ k < w7.heap.size) A2 pk := (ho7.elems intLay.len rfl).more fun g hg => by
      have h1 := Own.lt ho7 g hg
      have := hb56.size
      exact ⟨by omega, h1.2⟩
    have hw54 : w4.heap.size ≤ w5.heap.size := hb5.size
    refine ⟨⟨name, A1, c1', tc, A2, c2', pk⟩, rfl, rfl, rfl, ?_, ?_, ?_, ?_, by rw [hsz]; exact hb57.size⟩
    · rw [heap_setCell_at (heap_setCell_at hbk7 _)]
      rfl
    · have hk : ∀ i, (w5.heap.size ≤ i ∧ i < w7.heap.size) → ((w7.setCell ⟨w.heap.size, 1, none⟩ (.slice A1 tc.length c1')).setCell ⟨w.heap.size, 2, none⟩ (.slice A2 pk.length c2')).heap[i]? = w7.heap[i]? ∧ (w5.heap.size ≤ i ∧ i < ((w7.setCell ⟨w.heap.size, 1, none⟩ (.slice A1 tc.length c1')).setCell ⟨w.heap.size, 2, none⟩ (.slice A2 pk.length c2')).heap.size) := fun i hi => ⟨hoff i (by omega), by rw [hsz]; exact hi⟩
      exact ⟨e1.of hk, e2.of hk⟩
    · have htf := TreeF.of htr (Nat.le_trans hw54 (Nat.le_refl _)) hb57
      refine (htf.keep (w' := (w7.setCell ⟨w.heap.size, 1, none⟩ (.slice A1 tc.length c1')).setCell ⟨w.heap.size, 2, none⟩ (.slice A2 pk.length c2')) (by rw [hsz]; exact Nat.le_refl _) fun k _ hk => hoff k fun e => hk (.inl (by rw [e]; exact h4))).sub fun k hk => ?_
      rw [hsz] at hk
      exact .inl hk
    · exact ((hb05.trans (hb57.mono hb05.size)).setCell (p := ⟨w.heap.size, 1, none⟩) (Nat.le_refl _) _).setCell (p := ⟨w.heap.size, 2, none⟩) (Nat.le_refl _) _
  have HD1 := Lib.hid hD1
  have H4 := Lib.hid h4
  clear hD1 htr hb5 hb04 hbk4 h4 hbk5 hb05 c0 c1 c2
  go_upto_region 7 with fail
  go_cut [] from 21 to 28 (NewMid w w4 w5 name tc pk (w4.heap.size + 1))
  case first =>
    go_region_law (first
      | (go_simp; go_at_call 18; refine HD1.out.mono ?_; rintro e w6 ⟨A1, c1, rfl, s2, HD2⟩)
      | (go_simp; go_at_call 19; refine HD2.out.mono ?_; rintro e w7 ⟨A2, c2, rfl, ⟨y1, t1⟩, ⟨y2, t2⟩, t3, t4, HF⟩))
    all_goals (go_wp2_with fail; go_meet; exact HF.out)
  case rest =>
    obtain ⟨t, hbk, hfin⟩ := newFin hcut H4.out
    have q0 : wc.cell? ⟨w.heap.size, 0, none⟩ = some (.string t.name) := by rw [cell_of_row _ _ _ _ _ _ hbk]; rfl
    have q1 : wc.cell? ⟨w.heap.size, 1, none⟩ = some (.slice t.CA t.cols.length t.cc) := by rw [cell_of_row _ _ _ _ _ _ hbk]; rfl
    have q2 : wc.cell? ⟨w.heap.size, 2, none⟩ = some (.slice t.PA t.pk.length t.pc) := by rw [cell_of_row _ _ _ _ _ _ hbk]; rfl
    have HFIN := Lib.hid hfin
    clear hbk hfin hcut
    go_wp2_with fail
    go_ret2
    exact HFIN.out
end Go.Proofs.Ytjdcnkbkbcfhfaa

namespace Go.Proofs.Ytjdcnkbkbcfhfaa
open Go.RowKit Go.Sort

/-- What Mod answers. -/
def md (k n : Int) : Nat := ((if k < 0 then -(k + 1) else k) % n).toNat
theorem md_lt {k n : Int} (h : 0 < n) : (md k n : Int) < n := by
  unfold md
  have := Int.emod_lt_of_pos (if k < 0 then -(k + 1) else k) h
  have := Int.emod_nonneg (if k < 0 then -(k + 1) else k) (b := n) (by omega)
  omega

set_option maxRecDepth 100000 in
set_option maxHeartbeats 400000 in
theorem modW (k n : Int) (w : World) (hk : -9223372036854775808 ≤ k ∧ k ≤ 9223372036854775807) (h0 : 0 < n) (hn : n ≤ 9223372036854775807) :
    Calls Try.prog 12 #[.int .i64 k, .int .i64 n] w fun e w' => e = .returned (.int .i64 (md k n)) ∧ w = w' := by
  obtain ⟨hk1, hk2⟩ := hk
  by_cases hneg : k < 0
  · have hp : 0 ≤ -(k + 1) := by omega
    have hlt := Int.emod_lt_of_pos (-(k + 1)) h0
    have hge := Int.emod_nonneg (-(k + 1)) (b := n) (by omega)
    have hm : -(k + 1) % n = ((md k n : Nat) : Int) := by unfold md; rw [if_pos hneg]; omega
    have HM := Lib.hid hm
    clear hm
    generalize md k n = m at *
    go_enter Try.func12, Try.ntmps12
    go_wp2_with fail
    go_ret
    exact ⟨ret_int (by rw [← Int.neg_tmod, Int.tmod_eq_emod_of_nonneg hp]; exact HM.out), rfl⟩
  · have hp : 0 ≤ k := by omega
    have hlt := Int.emod_lt_of_pos k h0
    have hge := Int.emod_nonneg k (b := n) (by omega)
    have hm : k % n = ((md k n : Nat) : Int) := by unfold md; rw [if_neg hneg]; omega
    have HM := Lib.hid hm
    clear hm
    generalize md k n = m at *
    go_enter Try.func12, Try.ntmps12
    go_wp2_with fail
    go_ret
    exact ⟨ret_int HM.out, rfl⟩

def iCols : List Col := [⟨⟨#[107]⟩, 1, false⟩, ⟨⟨#[116]⟩, 3, true⟩, ⟨⟨#[98]⟩, 2, false⟩]
def iTbl (A P : Option Addr) : Tbl := ⟨⟨#[97]⟩, A, 3, iCols, P, 1, [0]⟩
theorem elems_block {α : Type} {sz : Nat} {cs : α → List Value} {w : World} {xs : List α} {g : Nat} {cur : Array Value} {e : TypeId} (L : Lay sz cs) (hg : w.heap[g]? = some (.cells cur e (0, 0))) (hs : cur.size = xs.length * sz) (hm : xs.length ≤ maxLen) (ht : cur.toList = xs.flatMap cs) :
    Elems sz cs w (fun k => k = g) (some ⟨g, 0, none⟩) xs := by
  have h : Own sz cs e g w (.slice (some ⟨g, 0, none⟩) xs.length xs.length) xs := Own.shut L (Nat.le_refl _) hg rfl (Nat.le_refl _) hm hs (by rw [← hs, ← ht]; exact List.take_of_length_le (by simp))
  exact (h.elems L.len rfl).more fun k hk => by injection hk with hk; exact hk.symm

set_option maxRecDepth 100000 in
theorem indexTableW (w : World) : Calls Try.prog 6 #[] w fun e w' => ∃ a p, e = .returned (iTbl (some ⟨a, 0, none⟩) (some ⟨p, 0, none⟩)).val ∧ TOk (fun g => w.heap.size ≤ g ∧ g < w'.heap.size) w' (iTbl (some ⟨a, 0, none⟩) (some ⟨p, 0, none⟩)) ∧ Below w.heap.size w w' := by
  obtain ⟨W3, hW3⟩ : ∃ W3, W3 = ((w.alloc (.cells #[.string ⟨#[97]⟩, .slice (some ⟨w.heap.size + 1, 0, none⟩) 3 3, .slice (some ⟨w.heap.size + 1 + 1, 0, none⟩) 1 1] 29)).alloc (.cells #[.string ⟨#[107]⟩, .int .i64 1, .bool false, .string ⟨#[116]⟩, .int .i64 3, .bool true, .string ⟨#[98]⟩, .int .i64 2, .bool false] 57)).alloc (.cells #[.int .i64 0] 3) := ⟨_, rfl⟩
  have hb : Below w.heap.size w W3 := by rw [hW3]; exact (((Below.refl _ _).alloc (Nat.le_refl _) _).alloc (le_size1 (Nat.le_refl _) _) _).alloc (le_size2 (Nat.le_refl _) _ _) _
  have hsz : W3.heap.size = w.heap.size + 3 := by rw [hW3]; simp
  have g0 : W3.heap[w.heap.size]? = some (.cells #[.string ⟨#[97]⟩, .slice (some ⟨w.heap.size + 1, 0, none⟩) 3 3, .slice (some ⟨w.heap.size + 1 + 1, 0, none⟩) 1 1] 29 (0, 0)) := by
    rw [hW3, Below.heap_alloc _ _ _ (by simp; omega), Below.heap_alloc _ _ _ (by simp)]
    exact heap_alloc_new w _
  have g1 : W3.heap[w.heap.size + 1]? = some (.cells #[.string ⟨#[107]⟩, .int .i64 1, .bool false, .string ⟨#[116]⟩, .int .i64 3, .bool true, .string ⟨#[98]⟩, .int .i64 2, .bool false] 57 (0, 0)) := by
    rw [hW3, Below.heap_alloc _ _ _ (by simp)]
    exact alloc2_at w _ _
  have g2 : W3.heap[w.heap.size + 1 + 1]? = some (.cells #[.int .i64 0] 3 (0, 0)) := by
    rw [hW3]
    have h := heap_alloc_new ((w.alloc (.cells #[.string ⟨#[97]⟩, .slice (some ⟨w.heap.size + 1, 0, none⟩) 3 3, .slice (some ⟨w.heap.size + 1 + 1, 0, none⟩) 1 1] 29)).alloc (.cells #[.string ⟨#[107]⟩, .int .i64 1, .bool false, .string ⟨#[116]⟩, .int .i64 3, .bool true, .string ⟨#[98]⟩, .int .i64 2, .bool false] 57)) (.cells #[.int .i64 0] 3)
    simpa using h
  have HT : Hid (TOk (fun g => w.heap.size ≤ g ∧ g < W3.heap.size) W3 (iTbl (some ⟨w.heap.size + 1, 0, none⟩) (some ⟨w.heap.size + 1 + 1, 0, none⟩))) := Lib.hid
    ⟨(elems_block colLay (xs := iCols) g1 rfl (by decide) rfl).more fun k hk => ⟨by omega, by omega⟩, (elems_block intLay (xs := [0]) g2 rfl (by decide) rfl).more fun k hk => ⟨by omega, by omega⟩⟩
  have HG := Lib.hid g0
  have HB := Lib.hid hb
  rw [hW3] at HT HG HB
  clear hW3 hb hsz g0 g1 g2
  go_enter Try.func6, Try.ntmps6
  go_wp2_with fail
  refine bodyPost_ret (results_cell_row (P := Try.prog) Try.results6 _ _ w.heap.size 29 _ (0, 0) _ rfl HG.out Try.underlying29 rfl (by kernel_rfl)) rfl ?_
  exact ⟨_, _, rfl, HT.out, HB.out⟩

def texts6 : List ByteArray := [⟨#[]⟩, ⟨#[97]⟩, ⟨#[98]⟩, ⟨#[97, 32, 98]⟩, ⟨#[55]⟩, ⟨#[116, 114, 117, 101]⟩]
/-- The generated values: a nullable text, a boolean. -/
def genT (n : Int) : Val := if md n 4 = 0 then ⟨0, 0, ⟨#[]⟩⟩ else ⟨3, 0, texts6.getD (md (n.tdiv 4) 6) ⟨#[]⟩⟩
def genB (n : Int) : Val := ⟨2, md (n.tdiv 4) 2, ⟨#[]⟩⟩
theorem I64.tdiv {n : Int} (h : I64 n) {d : Int} (hd : 2 ≤ d) : I64 (n.tdiv d) := by
  unfold I64 at *
  have h1 : (n.tdiv d).natAbs = n.natAbs / d.natAbs := Int.natAbs_tdiv n d
  have h2 : n.natAbs / d.natAbs ≤ n.natAbs / 2 := Nat.div_le_div_left (by omega) (by omega)
  omega

set_option maxRecDepth 100000 in
theorem genTextW (nm : ByteArray) (n : Int) (w : World) (hn : I64 n) : Calls Try.prog 20 #[.agg #[.string nm, .int .i64 3, .bool true], .int .i64 n] w fun e w' => e = .returned (.agg #[.int .i64 (genT n).kind, .int .i64 (genT n).int, .string (genT n).text]) ∧ Below w.heap.size w w' := by
  have HM := Lib.hid fun W => modW n 4 W hn (by omega) (by omega)
  have HQ := Lib.hid fun W => modW (n.tdiv 4) 6 W (hn.tdiv (by omega)) (by omega) (by omega)
  have h6 : (md (n.tdiv 4) 6 : Int) < 6 := md_lt (by omega)
  have hwr : IntKind.i64.wrap (n.tdiv 4) = n.tdiv 4 := by rw [IntKind.wrap_i64]; have := hn.tdiv (d := 4) (by omega); unfold I64 at this; omega
  have HS : Hid (md n 4 = 0 ∧ genT n = ⟨0, 0, ⟨#[]⟩⟩ ∨ md n 4 ≠ 0 ∧ genT n = ⟨3, 0, texts6.getD (md (n.tdiv 4) 6) ⟨#[]⟩⟩) := Lib.hid (by
    unfold genT
    by_cases h : md n 4 = 0
    · exact .inl ⟨h, if_pos h⟩
    · exact .inr ⟨h, if_neg h⟩)
  generalize genT n = gv at *
  generalize md n 4 = m at *
  generalize md (n.tdiv 4) 6 = q at *
  clear hn
  rcases HS.out with ⟨rfl, rfl⟩ | ⟨hm, rfl⟩
  · go_enter Try.func20, Try.ntmps20
    go_wp2_with fail
    refine (HM.out _).mono ?_
    rintro e w' ⟨rfl, rfl⟩
    go_wp2_with fail
    refine bodyPost_ret (results_cell_row (P := Try.prog) Try.results20 _ _ (w.heap.size + 1) 44 _ (0, 0) _ rfl (alloc2_at w _ _) Try.underlying44 rfl (by kernel_rfl)) rfl ?_
    exact ⟨rfl, ((Below.refl _ _).alloc (Nat.le_refl _) _).alloc (le_size1 (Nat.le_refl _) _) _⟩
  · have hm0 : ¬ (m : Int) = 0 := by omega
    have hcell : ([Value.string ⟨#[]⟩, Value.string ⟨#[97]⟩, Value.string ⟨#[98]⟩, Value.string ⟨#[97, 32, 98]⟩, Value.string ⟨#[55]⟩, Value.string ⟨#[116, 114, 117, 101]⟩] : List Value)[q]? = some (.string (texts6.getD q ⟨#[]⟩)) := by
      rcases q with _ | _ | _ | _ | _ | _ | q
      all_goals first | rfl | omega
    generalize texts6.getD q ⟨#[]⟩ = tx at *
    go_enter Try.func20, Try.ntmps20
    go_wp2_with fail
    refine (HM.out _).mono ?_
    rintro e w' ⟨rfl, rfl⟩
    go_wp2_with fail
    refine (HQ.out _).mono ?_
    rintro e w' ⟨rfl, rfl⟩
    go_wp2_with fail
    refine bodyPost_ret (results_cell_row (P := Try.prog) Try.results20 _ _ (w.heap.size + 1) 44 #[.int .i64 3, .int .i64 0, .string tx] (0, 0) _ rfl (by rw [Below.heap_alloc _ _ _ (by simp)]; exact alloc2_at w _ _) Try.underlying44 rfl (by kernel_rfl)) rfl ?_
    exact ⟨rfl, (((Below.refl _ _).alloc (Nat.le_refl _) _).alloc (le_size1 (Nat.le_refl _) _) _).alloc (le_size2 (Nat.le_refl _) _ _) _⟩

set_option maxRecDepth 100000 in
theorem genBoolW (nm : ByteArray) (n : Int) (w : World) (hn : I64 n) : Calls Try.prog 20 #[.agg #[.string nm, .int .i64 2, .bool false], .int .i64 n] w fun e w' => e = .returned (.agg #[.int .i64 (genB n).kind, .int .i64 (genB n).int, .string (genB n).text]) ∧ Below w.heap.size w w' := by
  have HQ := Lib.hid fun W => modW (n.tdiv 4) 2 W (hn.tdiv (by omega)) (by omega) (by omega)
  have hwr : IntKind.i64.wrap (n.tdiv 4) = n.tdiv 4 := by rw [IntKind.wrap_i64]; have := hn.tdiv (d := 4) (by omega); unfold I64 at this; omega
  unfold genB
  generalize md (n.tdiv 4) 2 = q at *
  clear hn
  go_enter Try.func20, Try.ntmps20
  go_wp2_with fail
  go_region_law (first
    | (go_simp; go_at_call 12; refine (HQ.out _).mono ?_; rintro e w1 ⟨rfl, rfl⟩))
  all_goals
    go_wp2_with fail
    refine bodyPost_ret (results_cell_row (P := Try.prog) Try.results20 _ _ (w.heap.size + 1) 44 #[.int .i64 2, .int .i64 q, .string ⟨#[]⟩] (0, 0) _ rfl ?_ Try.underlying44 rfl (by kernel_rfl)) rfl ?_
    · exact alloc2_at w _ _
    · have hb : Below w.heap.size w ((w.alloc (.cells #[.string nm, .int .i64 2, .bool false] 57)).alloc (.cells #[.int .i64 2, .int .i64 q, .string ⟨#[]⟩] 44)) := ((Below.refl _ _).alloc (Nat.le_refl _) _).alloc (le_size1 (Nat.le_refl _) _) _
      first
      | exact ⟨rfl, hb⟩
      | exact ⟨rfl, hb.drew⟩
end Go.Proofs.Ytjdcnkbkbcfhfaa

namespace Go.Proofs.Ytjdcnkbkbcfhfaa
open Go.RowKit Go.Sort

/-- A row of indexTable, and the first rows. -/
def trow (i : Nat) (n : Int) : Row := [⟨1, i, ⟨#[]⟩⟩, genT n, genB (n.tdiv 8)]
def trF (ns : List Int) (m : Nat) : List Row := (List.range m).map fun i => trow i (ns.getD i 0)
theorem trF_succ (ns : List Int) (m : Nat) : trF ns (m + 1) = trF ns m ++ [trow m (ns.getD m 0)] := by
  unfold trF
  rw [List.range_succ, List.map_append]
  rfl
/-- The rows made so far, in memory. -/
structure TRel (base : Nat) (w0 w : World) (v : Value) (ks : List Key) (rs : List Row) : Prop where
  own : Own 1 Key.cs 35 base w v ks
  rows : ks.map Key.row = rs
  el : ∀ k ∈ ks, KOk (fun g => base ≤ g ∧ g < w.heap.size ∧ v.ownBlock ≠ some g) w k
  bel : Below base w0 w
  own3 : ∀ k ∈ ks, Own 3 Val.cs 44 base w (.slice k.A k.row.length k.c) k.row ∧ ∀ g, (Value.slice k.A k.row.length k.c).ownBlock = some g → v.ownBlock ≠ some g
def TPost (base : Nat) (w0 w : World) (v : Value) (rs : List Row) : Prop := ∃ ks, TRel base w0 w v ks rs
theorem TRel.push {base : Nat} {w0 wo wc w' : World} {v v' : Value} {ks : List Key} {rs : List Row} {key : Key} (h : TRel base w0 wo v ks rs) (hb : Below wo.heap.size wo wc) (hk : KOk (fun g => wo.heap.size ≤ g ∧ g < wc.heap.size) wc key)
    (hk3 : Own 3 Val.cs 44 wo.heap.size wc (.slice key.A key.row.length key.c) key.row) (ho : Own 1 Key.cs 35 base w' v' (ks ++ [key])) (hx : Ext wc v w' v') (hB : base ≤ wo.heap.size) : TRel base w0 w' v' (ks ++ [key]) (rs ++ [key.row]) := by
  have hvl : ∀ g, v.ownBlock = some g → base ≤ g ∧ g < wo.heap.size := Own.lt h.own
  have hsz := hx.size
  have hbs := hb.size
  have hne : ∀ g, wo.heap.size ≤ g → v.ownBlock ≠ some g := fun g hg e => by have := (hvl g e).2; omega
  have hkept : ∀ (k : Key) {b : Nat}, Own 3 Val.cs 44 b wc (.slice k.A k.row.length k.c) k.row → (∀ g, (Value.slice k.A k.row.length k.c).ownBlock = some g → v.ownBlock ≠ some g) → Own 3 Val.cs 44 b w' (.slice k.A k.row.length k.c) k.row ∧ ∀ g, (Value.slice k.A k.row.length k.c).ownBlock = some g → v'.ownBlock ≠ some g := fun k b o hn => by
    refine ⟨o.kept hx.grown ?_, fun g hg => hx.ne (hn g hg) (Own.lt o g hg).2⟩
    cases hk : (Value.slice k.A k.row.length k.c).ownBlock with
    | none => exact .inl rfl
    | some g => exact .inr fun e => hn g hk e.symm
  refine ⟨ho, by rw [List.map_append, h.rows]; rfl, fun k hm => ?_, ?_, ?_⟩
  · rcases List.mem_append.1 hm with hm | hm
    · have h1 := (h.el k hm).keep (Keeps.of_below hb fun _ h => h.2.1)
      refine (h1.keep (hx.keeps fun g hg => ⟨by omega, fun e => hg.2.2 e.symm⟩)).more fun g hg => ⟨hg.1, by omega, hx.ne hg.2.2 (by omega)⟩
    · rw [List.mem_singleton.1 hm]
      exact (hk.keep (hx.keeps fun g hg => ⟨hg.2, fun e => hne g hg.1 e.symm⟩)).more fun g hg => ⟨by omega, by omega, hx.ne (hne g hg.1) hg.2⟩
  rotate_left
  · intro k hm
    rcases List.mem_append.1 hm with hm | hm
    · exact hkept k ((h.own3 k hm).1.below hb) (h.own3 k hm).2
    · rw [List.mem_singleton.1 hm]
      obtain ⟨o1, o2⟩ := hkept key hk3 fun g hg => hne g (Own.lt hk3 g hg).1
      exact ⟨o1.mono hB, o2⟩
  · exact (h.bel.trans (hb.mono hB)).trans (hx.below (by omega) fun g hg => (hvl g hg).1)

set_option maxRecDepth 100000 in
set_option maxHeartbeats 4000000 in
theorem tableRowsW (A : Option Addr) (c : Nat) (ns : List Int) (w : World) (hx : Elems 1 intCs w (· < w.heap.size) A ns) (hl : ns.length ≤ c) (hcm : c ≤ maxLen) (hok : ∀ n ∈ ns, I64 n) :
    Calls Try.prog 7 #[.slice A ns.length c] w fun e w' => ∃ v, e = .returned v ∧ TPost w.heap.size w w' v (trF ns (min ns.length 24)) := by
  obtain ⟨m, hm⟩ : ∃ m, m = min ns.length 24 := ⟨_, rfl⟩
  have hml : m ≤ ns.length ∧ m ≤ 24 := by omega
  have hmin : min (ns.length : Int) 24 = (m : Int) := by omega
  rw [← hm]
  have HX := Lib.hid hx
  have HOK := Lib.hid hok
  obtain ⟨hm1, hm2⟩ := hml
  have hmc : m ≤ c := by omega
  clear hx hok hm
  unfold maxLen at hcm
  go_enter Try.func7, Try.ntmps7
  go_wp2_with fail
  go_loopw [3, 15] (fun v vi wr => ∃ i : Nat, vi = .int .i64 (i : Int) ∧ i ≤ m ∧ TPost w.heap.size w wr v (trF ns i)) (fun _ vi _ => m - (intOf vi).toNat)
  case atStart => exact ⟨0, rfl, by omega, [], Own.nil _, rfl, (fun k hk => by cases hk), Below.refl _ _, (fun k hk => by cases hk)⟩
  case round =>
    obtain ⟨i, rfl, him, ks, hT⟩ := hrel
    obtain ⟨wo, rfl⟩ : ∃ wo, wo = wr := ⟨_, rfl⟩
    obtain ⟨v3, rfl⟩ : ∃ v3, v3 = u3 := ⟨_, rfl⟩
    by_cases hlt : i < m
    · have hin : i < ns.length := by omega
      have him' : (i : Int) < (m : Int) := by omega
      obtain ⟨b, off, rfl, -, c0⟩ := (HX.out.on (hT.bel)).int hin
      have hni : ns[i] = ns.getD i 0 := by rw [List.getD_eq_getElem?_getD, List.getElem?_eq_getElem hin]; rfl
      have HI6 := Lib.hid (HOK.out _ (List.getElem_mem hin))
      rw [hni] at c0 HI6
      have HS := Lib.hid (trF_succ ns i)
      generalize ns.getD i 0 = n at *
      have HT := Lib.hid hT
      -- the row's first cell
      obtain ⟨W1, hW1⟩ : ∃ W1, W1 = wo.alloc (.cells #[.int .i64 1, .int .i64 (i : Int), .string ⟨#[]⟩] 44) := ⟨_, rfl⟩
      have hb1 : Below wo.heap.size wo W1 := by rw [hW1]; exact (Below.refl _ _).alloc (Nat.le_refl _) _
      have hg1 : W1.heap[wo.heap.size]? = some (.cells #[.int .i64 1, .int .i64 (i : Int), .string ⟨#[]⟩] 44 (0, 0)) := by rw [hW1]; exact heap_alloc_new wo _
      have hs1 : W1.heap.size = wo.heap.size + 1 := by rw [hW1]; simp
      have HO1 : Hid (Own 3 Val.cs 44 wo.heap.size W1 (.slice (some ⟨wo.heap.size, 0, none⟩) 1 1) [⟨1, (i : Int), ⟨#[]⟩⟩]) := Lib.hid (Own.shut scValLay (Nat.le_refl _) hg1 rfl (Nat.le_refl _) (by decide) rfl rfl)
      have HB1 := Lib.hid (And.intro hb1 hs1)
      have HIT := Lib.hid (indexTableW W1)
      have HW1 := Lib.hid hW1
      clear hT hb1 hg1 hs1 hW1 hni
      go_upto_region 6 with fail
      rw [← HW1.out]
      go_wp2_with fail
      refine HIT.out.mono ?_
      rintro e w2 ⟨a, p, rfl, htk, hb2⟩
      obtain ⟨ab, aoff, ea, hab1, -⟩ := htk.cols.col (k := 1) (by show 1 < 3; omega)
      injection ea with ea
      injection ea with ea ea'
      subst ea ea'
      have hal : wo.heap.size < a ∧ a < w2.heap.size := by have := HB1.out.2; omega
      obtain ⟨_, _, ea, -, p0, p1, p2⟩ := htk.cols.col (k := 1) (by show 1 < 3; omega)
      injection ea with ea
      injection ea with ea ea'
      subst ea ea'
      obtain ⟨_, _, ea, -, q0, q1, q2⟩ := htk.cols.col (k := 2) (by show 2 < 3; omega)
      injection ea with ea
      injection ea with ea ea'
      subst ea ea'
      have p0 : w2.cell? ⟨a, 3, none⟩ = some (.string ⟨#[116]⟩) := p0
      have p1 : w2.cell? ⟨a, 4, none⟩ = some (.int .i64 3) := p1
      have p2 : w2.cell? ⟨a, 5, none⟩ = some (.bool true) := p2
      have q0 : w2.cell? ⟨a, 6, none⟩ = some (.string ⟨#[98]⟩) := q0
      have q1 : w2.cell? ⟨a, 7, none⟩ = some (.int .i64 2) := q1
      have q2 : w2.cell? ⟨a, 8, none⟩ = some (.bool false) := q2
      have HC := Lib.hid (And.intro p0 (And.intro p1 (And.intro p2 (And.intro q0 (And.intro q1 q2)))))
      have HST : Hid (Own 3 Val.cs 44 wo.heap.size w2 (.slice (some ⟨wo.heap.size, 0, none⟩) 1 1) [⟨1, (i : Int), ⟨#[]⟩⟩] ∧ Below wo.heap.size wo w2 ∧ wo.heap.size < a ∧ a < w2.heap.size ∧ wo.heap.size ≤ w2.heap.size) := Lib.hid ⟨HO1.out.below hb2, HB1.out.1.trans (hb2.mono (by have := HB1.out.2; omega)), hal.1, hal.2, by omega⟩
      clear p0 p1 p2 q0 q1 q2 htk hb2 hal hab1 HIT
      unfold iTbl Tbl.val
      simp only
      rw [show iCols.length = 3 from rfl, show ([0] : List Int).length = 1 from rfl]
      have hfld : (Instr.field 29 (.agg #[.string ⟨#[97]⟩, .slice (some ⟨a, 0, none⟩) 3 3, .slice (some ⟨p, 0, none⟩) 1 1]) 1).run Try.prog w2 = .ok (.slice (some ⟨a, 0, none⟩) 3 3) w2 := by kernel_rfl
      go_wp2_with fail
      go_loopw [5, 6, 27] (fun v5 v6 vk wr => ∃ k : Nat, vk = .int .i64 (k : Int) ∧ k ≤ 2 ∧ v5 = .int .i64 (if k = 0 then n else if k = 1 then n.tdiv 8 else (n.tdiv 8).tdiv 8) ∧ Own 3 Val.cs 44 wo.heap.size wr v6 ((trow i n).take (k + 1)) ∧ Ext w2 (.slice (some ⟨wo.heap.size, 0, none⟩) 1 1) wr v6) (fun _ _ vk _ => 2 - (intOf vk).toNat)
      case atStart => exact ⟨0, rfl, by omega, rfl, HST.out.1, Ext.refl _ _⟩
      case round =>
        obtain ⟨k, rfl, hk2, hv5, ho, hex⟩ := hrel
        obtain ⟨wi, rfl⟩ : ∃ wi, wi = wr := ⟨_, rfl⟩
        obtain ⟨-, -, ha1, ha2, hw2⟩ := HST.out
        rcases k with _ | _ | k
        · have hv5' : u5 = .int .i64 (n) := hv5
          subst hv5'
          obtain ⟨p0, p1, p2, q0, q1, q2⟩ := HC.out
          have hno : (Value.slice (some ⟨wo.heap.size, 0, none⟩) 1 1).ownBlock ≠ some a := fun e => by have e := Option.some.inj (show some wo.heap.size = some a from e); omega
          have d0 := hex.old_cell p0 hno
          have d1 := hex.old_cell p1 hno
          have d2 := hex.old_cell p2 hno
          have hwq : IntKind.i64.wrap ((n).tdiv 8) = (n).tdiv 8 := by
            rw [IntKind.wrap_i64]
            have h1 := HI6.out
            have h2 := h1.tdiv (d := 8) (by omega)
            unfold I64 at h2
            omega
          have HGV := Lib.hid fun W => genTextW (⟨#[116]⟩) (n) W HI6.out
          have hszi := hex.size
          have HO := Lib.hid (And.intro ho (And.intro hex (by omega : wo.heap.size ≤ wi.heap.size)))
          clear p0 p1 p2 q0 q1 q2 hno hszi ho hex hv5
          go_wp2_with fail
          refine (HGV.out _).mono ?_
          rintro e w3 ⟨rfl, hb3⟩
          obtain ⟨W8, hW8⟩ : ∃ W8, W8 = wi.alloc (.cells #[.string ⟨#[116]⟩, .int .i64 3, .bool true] 57) := ⟨_, rfl⟩
          have hbi : Below wi.heap.size wi w3 := ((Below.refl _ _).alloc (Nat.le_refl _) _).trans (hb3.mono (le_size1 (Nat.le_refl _) _))
          have HL1 : Hid ((([⟨1, (i : Int), ⟨#[]⟩⟩] : Row).length + 1) * 32 ≤ 140737488355328) := Lib.hid (by show (1 + 1) * 32 ≤ _; omega)
          have HL2 : Hid (([⟨1, (i : Int), ⟨#[]⟩⟩] : Row).length + 1 ≤ maxLen) := Lib.hid (by show 1 + 1 ≤ _; unfold maxLen; omega)
          have HO3 : Hid (Own 3 Val.cs 44 wo.heap.size w3 u6 ([⟨1, (i : Int), ⟨#[]⟩⟩]) ∧ Ext w2 (.slice (some ⟨wo.heap.size, 0, none⟩) 1 1) w3 u6 ∧ wo.heap.size ≤ w3.heap.size) := Lib.hid ⟨HO.out.1.below hbi, HO.out.2.1.then_below hbi, by have := HO.out.2.2; have := hbi.size; omega⟩
          clear hb3 hbi hW8 d0 d1 d2
          go_wp2_with (at_builtin; refine wpList_app rfl (.tmp 31) (.tmp 35) _ _ rfl rfl rfl (run_push scElemVal scValLay _ _ _ ([⟨1, (i : Int), ⟨#[]⟩⟩]) (genT n) _ HO3.out.1 rfl HL1.out HL2.out HO3.out.2.2 rfl) ?_; rintro v4 w4 ⟨ho4, hx4⟩)
          have HF : Hid (Own 3 Val.cs 44 wo.heap.size w4 v4 ((trow i n).take (0 + 1 + 1)) ∧ Ext w2 (.slice (some ⟨wo.heap.size, 0, none⟩) 1 1) w4 v4) := Lib.hid ⟨ho4, HO3.out.2.1.trans hx4⟩
          clear ho4 hx4
          go_wp2_with fail
          go_roundw
          case rel => exact ⟨0 + 1, by go_num, by omega, rfl, HF.out.1, HF.out.2⟩
          case measure => simp [intOf]
        · have hv5' : u5 = .int .i64 (n.tdiv 8) := hv5
          subst hv5'
          obtain ⟨p0, p1, p2, q0, q1, q2⟩ := HC.out
          have hno : (Value.slice (some ⟨wo.heap.size, 0, none⟩) 1 1).ownBlock ≠ some a := fun e => by have e := Option.some.inj (show some wo.heap.size = some a from e); omega
          have d0 := hex.old_cell q0 hno
          have d1 := hex.old_cell q1 hno
          have d2 := hex.old_cell q2 hno
          have hwq : IntKind.i64.wrap ((n.tdiv 8).tdiv 8) = (n.tdiv 8).tdiv 8 := by
            rw [IntKind.wrap_i64]
            have h1 := (HI6.out.tdiv (d := 8) (by omega))
            have h2 := h1.tdiv (d := 8) (by omega)
            unfold I64 at h2
            omega
          have HGV := Lib.hid fun W => genBoolW (⟨#[98]⟩) (n.tdiv 8) W (HI6.out.tdiv (d := 8) (by omega))
          have hszi := hex.size
          have HO := Lib.hid (And.intro ho (And.intro hex (by omega : wo.heap.size ≤ wi.heap.size)))
          clear p0 p1 p2 q0 q1 q2 hno hszi ho hex hv5
          go_wp2_with fail
          refine (HGV.out _).mono ?_
          rintro e w3 ⟨rfl, hb3⟩
          obtain ⟨W8, hW8⟩ : ∃ W8, W8 = wi.alloc (.cells #[.string ⟨#[98]⟩, .int .i64 2, .bool false] 57) := ⟨_, rfl⟩
          have hbi : Below wi.heap.size wi w3 := ((Below.refl _ _).alloc (Nat.le_refl _) _).trans (hb3.mono (le_size1 (Nat.le_refl _) _))
          have HL1 : Hid ((([⟨1, (i : Int), ⟨#[]⟩⟩, genT n] : Row).length + 1) * 32 ≤ 140737488355328) := Lib.hid (by show (2 + 1) * 32 ≤ _; omega)
          have HL2 : Hid (([⟨1, (i : Int), ⟨#[]⟩⟩, genT n] : Row).length + 1 ≤ maxLen) := Lib.hid (by show 2 + 1 ≤ _; unfold maxLen; omega)
          have HO3 : Hid (Own 3 Val.cs 44 wo.heap.size w3 u6 ([⟨1, (i : Int), ⟨#[]⟩⟩, genT n]) ∧ Ext w2 (.slice (some ⟨wo.heap.size, 0, none⟩) 1 1) w3 u6 ∧ wo.heap.size ≤ w3.heap.size) := Lib.hid ⟨HO.out.1.below hbi, HO.out.2.1.then_below hbi, by have := HO.out.2.2; have := hbi.size; omega⟩
          clear hb3 hbi hW8 d0 d1 d2
          go_wp2_with (at_builtin; refine wpList_app rfl (.tmp 31) (.tmp 35) _ _ rfl rfl rfl (run_push scElemVal scValLay _ _ _ ([⟨1, (i : Int), ⟨#[]⟩⟩, genT n]) (genB (n.tdiv 8)) _ HO3.out.1 rfl HL1.out HL2.out HO3.out.2.2 rfl) ?_; rintro v4 w4 ⟨ho4, hx4⟩)
          have HF : Hid (Own 3 Val.cs 44 wo.heap.size w4 v4 ((trow i n).take (1 + 1 + 1)) ∧ Ext w2 (.slice (some ⟨wo.heap.size, 0, none⟩) 1 1) w4 v4) := Lib.hid ⟨ho4, HO3.out.2.1.trans hx4⟩
          clear ho4 hx4
          go_wp2_with fail
          go_roundw
          case rel => exact ⟨1 + 1, by go_num, by omega, rfl, HF.out.1, HF.out.2⟩
          case measure => simp [intOf]
        · have hk0 : k = 0 := by omega
          subst hk0
          obtain ⟨kA, kc, rfl, -, -⟩ := ho.form
          have hky : KOk (fun g => wo.heap.size ≤ g ∧ g < wi.heap.size) wi ⟨kA, kc, trow i n⟩ := ⟨(ho.elems scValLay.len rfl).more fun g hg => Own.lt ho g hg, by show 3 ≤ 12; omega⟩
          have hbw : Below wo.heap.size wo wi := HST.out.2.1.trans (hex.below hw2 fun g hg => by have e := Option.some.inj (show some wo.heap.size = some g from hg); omega)
          have HP : Hid (∀ w' v', Own 1 Key.cs 35 w.heap.size w' v' (ks ++ [⟨kA, kc, trow i n⟩]) → Ext wi v3 w' v' → TPost w.heap.size w w' v' (trF ns (i + 1))) := Lib.hid fun w' v' h1 h2 => ⟨_, by rw [HS.out]; exact HT.out.push hbw hky ho h1 h2 HT.out.bel.size⟩
          have HO3 : Hid (Own 1 Key.cs 35 w.heap.size wi v3 ks ∧ w.heap.size ≤ wi.heap.size) := Lib.hid ⟨HT.out.own.below hbw, Nat.le_trans HT.out.bel.size hbw.size⟩
          have hkl : ks.length ≤ 24 := by
            have h := congrArg List.length HT.out.rows
            simp only [trF, List.length_map, List.length_range] at h
            omega
          have HL1 : Hid ((ks.length + 1) * 24 ≤ 140737488355328) := Lib.hid (by omega)
          have HL2 : Hid (ks.length + 1 ≤ maxLen) := Lib.hid (by unfold maxLen; omega)
          clear hky hbw hkl ho hex hv5
          go_wp2_with (at_builtin; refine wpList_app rfl (.tmp 40) (.tmp 42) _ _ rfl rfl rfl (run_push scElemKeys keyLay _ _ _ ks ⟨kA, kc, trow i n⟩ _ HO3.out.1 rfl HL1.out HL2.out HO3.out.2 rfl) ?_; rintro v4 w4 ⟨ho4, hx4⟩)
          have HF := Lib.hid (HP.out _ _ ho4 hx4)
          clear ho4 hx4
          go_wp2_with fail
          go_roundw
          case rel => exact ⟨i + 1, by go_num, by omega, HF.out⟩
          case measure => simp [intOf]; omega
    · have hkn' : i = m := by omega
      subst hkn'
      have HF := Lib.hid hT
      clear hT
      go_wp2_with fail
      go_ret
      exact ⟨_, rfl, _, HF.out⟩
end Go.Proofs.Ytjdcnkbkbcfhfaa
