/-
  An own instance: one table's rows laid anew. No program's walk.
  The walk of change.Apply with one change: an upsert.
  The walk of change.Apply with one change: a delete.
-/
import Derived.Test.YtefifkleamiabaaGreatDoorUm05
namespace Go.Proofs.YtefifkleamiabaaGreatDoor
open Go.RowKit Go.Sort

theorem Own.set2 {α : Type} {cs : α → List Value} (L : Lay 2 cs) {e : TypeId} {base : Nat} {w : World} {g n c i : Nat} {xs : List α} {y : α} {v : Value} (h : Own 2 cs e base w (.slice (some ⟨g, 0, none⟩) n c) xs) (hi : i < xs.length) (hy : ∀ x, xs[i]? = some x → cs y = [(cs x)[0]?.getD undef, v]) :
    Own 2 cs e base (w.setCell ⟨g, i * 2 + 1, none⟩ v) (.slice (some ⟨g, 0, none⟩) n c) (xs.set i y) ∧ (∃ q, w.cell? ⟨g, i * 2 + 1, none⟩ = some q) ∧ w.frozen? ⟨g, i * 2 + 1, none⟩ = false := by
  obtain ⟨g', c', cur, hv, hb, hg, hcl, hcm, hs, ht⟩ := Own.open_ h (by omega)
  injection hv with hv1 hv2 hv3
  injection hv1 with hv1
  injection hv1 with hv1
  subst hv1 hv3
  refine ⟨Own.shut L hb (heap_setCell_at hg _) ?_ (by omega) hcm (by simp [hs]) ?_, ?_, frozen_of_row _ _ _ _ _ hg⟩
  · rw [List.length_set]; exact hv2
  · rw [Array.toList_setIfInBounds, List.take_set, hv2, ht]
    have key : ∀ (xs : List α) (i : Nat), i < xs.length → (∀ x, xs[i]? = some x → cs y = [(cs x)[0]?.getD undef, v]) → (xs.flatMap cs).set (i * 2 + 1) v = (xs.set i y).flatMap cs := by
      intro xs
      induction xs with
      | nil => intro i hi; cases hi
      | cons a l ih =>
        intro i hi hy
        have hla := L.len a
        obtain ⟨va, vb, hva⟩ : ∃ va vb, cs a = [va, vb] := by
          rcases hc : cs a with _ | ⟨x, _ | ⟨x2, _ | ⟨x3, l3⟩⟩⟩
          · rw [hc] at hla; cases hla
          · rw [hc] at hla; simp at hla
          · exact ⟨x, x2, rfl⟩
          · rw [hc] at hla; simp at hla
        cases i with
        | zero =>
          have hy0 := hy a rfl
          rw [hva] at hy0
          rw [List.set_cons_zero, List.flatMap_cons, List.flatMap_cons, hy0, hva]
          rfl
        | succ i =>
          have e : (i + 1) * 2 + 1 = (i * 2 + 1) + 1 + 1 := by omega
          rw [List.set_cons_succ, List.flatMap_cons, List.flatMap_cons, hva, ← ih i (by simpa using hi) (fun x hx => hy x hx), e]
          rfl
    exact key xs i hi hy
  · rw [cell_of_row _ _ _ _ _ _ hg]
    exact ⟨_, Array.getElem?_eq_getElem (by omega)⟩

theorem InO.below {base : Nat} {w0 w w' : World} {v : Value} {rs : List RelM} {ds : List (ByteArray × List Row)} (h : InO base w0 w v rs ds) (hb : Below w.heap.size w w') (hB : base ≤ w.heap.size) : InO base w0 w' v rs ds :=
  ⟨h.own.below hb, h.dat, fun k hk => ((h.rel k hk).keep (Keeps.of_below hb fun _ h => h.2.1)).more fun _ hg => ⟨hg.1, Nat.lt_of_lt_of_le hg.2.1 hb.size, hg.2.2⟩, h.bel.trans (hb.mono hB)⟩
theorem InO.inOk {base : Nat} {w0 w : World} {A : Option Addr} {n c : Nat} {rs : List RelM} {ds : List (ByteArray × List Row)} (h : InO base w0 w (.slice A n c) rs ds) : InOk (· < w.heap.size) w A rs :=
  ⟨(h.own.elems relLay.len rfl).more fun g hg => (Own.lt h.own g hg).2, fun k hk => (h.rel k hk).more fun _ hg => hg.2.1⟩
/-- The rows of table i are laid anew (they lie in blocks made behind w1). -/
theorem InO.set {base : Nat} {w0 w1 w : World} {g n c i : Nat} {rs : List RelM} {ds : List (ByteArray × List Row)} (h : InO base w0 w1 (.slice (some ⟨g, 0, none⟩) n c) rs ds) (hB : base ≤ w1.heap.size) (hi : i < rs.length) {A : Option Addr} {c' : Nat} {ks : List Key} {rows : List Row} (hr : RO w1.heap.size w1 w (.slice A ks.length c') ks rows) (nm : ByteArray) (hnm : ∀ r, rs[i]? = some r → r.name = nm) :
    InO base w0 (w.setCell ⟨g, i * 2 + 1, none⟩ (.slice A ks.length c')) (.slice (some ⟨g, 0, none⟩) n c) (rs.set i ⟨nm, A, c', ks⟩) (ds.set i (nm, rows)) ∧ (∃ q, w.cell? ⟨g, i * 2 + 1, none⟩ = some q) ∧ w.frozen? ⟨g, i * 2 + 1, none⟩ = false := by
  have h2 := h.below hr.bel hB
  obtain ⟨o1, o2, o3⟩ := Own.set2 relLay h2.own hi (y := ⟨nm, A, c', ks⟩) (v := .slice A ks.length c') (fun x hx => by
    show [Value.string nm, .slice A ks.length c'] = [Value.string x.name, _]
    rw [hnm x hx])
  have hg := Own.lt h.own g rfl
  have hoff : ∀ k, k ≠ g → (w.setCell ⟨g, i * 2 + 1, none⟩ (.slice A ks.length c')).heap[k]? = w.heap[k]? := fun k hk => Below.heap_setCell w ⟨g, i * 2 + 1, none⟩ _ k hk
  have hsz : (w.setCell ⟨g, i * 2 + 1, none⟩ (.slice A ks.length c')).heap.size = w.heap.size := by simp [World.setCell]
  refine ⟨⟨o1, ?_, fun k hk => ?_, h2.bel.setCell (p := ⟨g, i * 2 + 1, none⟩) hg.1 _⟩, o2, o3⟩
  · rw [List.map_set, h.dat]
    show ds.set i (nm, ks.map Key.row) = _
    rw [hr.rows]
  · rcases List.mem_or_eq_of_mem_set hk with hm | rfl
    · exact ((h2.rel k hm).keep fun j hj => hoff j fun e => hj.2.2 (by rw [e]; rfl)).more fun j hj => ⟨hj.1, by rw [hsz]; exact hj.2.1, hj.2.2⟩
    · have h3 := hr.rsb
      exact (h3.keep fun j hj => hoff j (by omega)).more fun j hj => ⟨by omega, by rw [hsz]; exact hj.2, fun e => by have e := Option.some.inj (show some g = some j from e); omega⟩
end Go.Proofs.YtefifkleamiabaaGreatDoor

namespace Go.Proofs.YtefifkleamiabaaGreatDoor
open Go.RowKit Go.Sort

def ChM.cs (c : ChM) : List Value := [.int .i64 c.kind, .string c.name, .slice c.key.A c.key.row.length c.key.c, .slice c.row.A c.row.row.length c.row.c]
theorem Elems.chm {w : World} {S : Nat → Prop} {A : Option Addr} {c : ChM} (h : Elems 4 ChM.cs w S A [c]) : ∃ b off, A = some ⟨b, off, none⟩ ∧ S b ∧ w.cell? ⟨b, off, none⟩ = some (.int .i64 c.kind) ∧ w.cell? ⟨b, off + 1, none⟩ = some (.string c.name) ∧ w.cell? ⟨b, off + 2, none⟩ = some (.slice c.key.A c.key.row.length c.key.c) ∧ w.cell? ⟨b, off + 3, none⟩ = some (.slice c.row.A c.row.row.length c.row.c) := by
  obtain ⟨b, off, e, hb, hc⟩ := h.at_ (k := 0) (by show 0 < 1; omega)
  exact ⟨b, off, e, hb, hc 0 _ rfl, hc 1 _ rfl, hc 2 _ rfl, hc 3 _ rfl⟩

/-- All that Apply is handed: a valid schema, a fitting instance, one fitting change of table i. -/
structure ApIn (s : Sc) (A : Option Addr) (rs : List RelM) (B : Option Addr) (ch : ChM) (i : Nat) (w : World) : Prop where
  sc : ScOk (· < w.heap.size) w s
  val : SchV s
  inst : InOk (· < w.heap.size) w A rs
  fit : InC s.tabs rs
  el : Elems 4 ChM.cs w (· < w.heap.size) B [ch]
  ok : ChOk (· < w.heap.size) w ch
  ch : ChC s ch i

/-- Behind Upsert: the store. -/
def ApK (S : World → Prop) (w : World) (g i n c : Nat) (ds : List (ByteArray × List Row)) (e : Ending) (w' : World) : Prop :=
  ∃ A9 n9 c9, e = .returned (.slice A9 n9 c9) ∧ S w' ∧ S (w'.setCell ⟨g, i * 2 + 1, none⟩ (.slice A9 n9 c9)) ∧ n9 ≤ 24 ∧ (∃ q, w'.cell? ⟨g, i * 2 + 1, none⟩ = some q) ∧ w'.frozen? ⟨g, i * 2 + 1, none⟩ = false
    ∧ Hid (∃ rs', InO w.heap.size w (w'.setCell ⟨g, i * 2 + 1, none⟩ (.slice A9 n9 c9)) (.slice (some ⟨g, 0, none⟩) n c) rs' ds)

set_option linter.unusedSimpArgs false in
set_option maxRecDepth 100000 in
set_option maxHeartbeats 8000000 in
theorem applyUps (s : Sc) (A : Option Addr) (c : Nat) (rs : List RelM) (B : Option Addr) (d : Nat) (ch : ChM) (i : Nat) (w : World) (h : ApIn s A rs B ch i w) (hk : ch.kind = 1) (hi : i < rs.length) (hit : i < s.tabs.length) (hlen : (upsX s.tabs[i].pk ch.row.row (rs[i].rows.map Key.row)).length ≤ 24) :
    Calls Tryz.prog 74 #[s.v, .slice A rs.length c, .slice B 1 d] w fun e w' => ∃ v rs', e = .returned (.tuple #[v, .int .i64 0]) ∧ InO w.heap.size w w' v rs' ((rs.map RelM.d).set i (s.tabs[i].name, upsX s.tabs[i].pk ch.row.row (rs[i].rows.map Key.row))) := by
  have HH := Lib.hid h
  have HSV := Lib.hid fun W (hW : Below w.heap.size w W) => schemaValidate s W (h.sc.on hW) h.val
  have HCF := Lib.hid fun W (hW : Below w.heap.size w W) => conforms s A c rs W (h.sc.on hW) (h.inst.on hW) h.fit
  have HCL := Lib.hid fun W (hW : Below w.heap.size w W) => instClone A c rs W (h.inst.on hW) (by have h1 := h.fit.len; have h2 := h.fit.max; omega) (fun r hr => by
    obtain ⟨j, hj, rfl⟩ := List.getElem_of_mem hr
    have := (h.fit.rel j hj (by rw [← h.fit.len]; exact hj)).len
    omega)
  have HVC := Lib.hid fun W (hW : Below w.heap.size w W) => validateCh s ch i W (h.sc.on hW) (h.ok.on hW) h.ch (by have := h.val.ntab; omega)
  have HFT := Lib.hid fun W (hW : Below w.heap.size w W) => findTable s ch.name W (h.sc.on hW) (by have := h.val.ntab; omega)
  have HFI := Lib.hid h.ch.fi
  obtain ⟨w1, hw1⟩ : ∃ w1, w1 = w.alloc (.cells s.cells 27) := ⟨_, rfl⟩
  have hb1 : Below w.heap.size w w1 := by rw [hw1]; exact (Below.refl _ _).alloc (Nat.le_refl _) _
  have hg0 : w1.heap[w.heap.size]? = some (.cells s.cells 27 (0, 0)) := by rw [hw1]; exact heap_alloc_new w _
  have hs1 : w.heap.size < w1.heap.size := by rw [hw1]; simp
  have HBK : Hid (∀ W, Below w1.heap.size w1 W → W.cell? ⟨w.heap.size, 0, none⟩ = some (.slice s.TA s.tabs.length s.tc) ∧ W.cell? ⟨w.heap.size, 1, none⟩ = some (.slice s.FA s.fks.length s.fc) ∧ W.cell? ⟨w.heap.size, 2, none⟩ = some (.slice s.NA s.cns.length s.nc)) := Lib.hid fun W hW => by
    have h0 := (hW.block w.heap.size hs1).trans hg0
    unfold Sc.cells at h0
    exact ⟨by rw [cell_of_row _ _ _ _ _ _ h0]; rfl, by rw [cell_of_row _ _ _ _ _ _ h0]; rfl, by rw [cell_of_row _ _ _ _ _ _ h0]; rfl⟩
  have HB1 := Lib.hid hb1
  have HW1 := Lib.hid hw1
  obtain ⟨c0, c1, c2⟩ := HBK.out w1 (Below.refl _ _)
  unfold Sc.cells at HW1
  unfold Sc.v Sc.cells at HSV HCF HVC HFT ⊢
  clear h hw1 hb1 hg0 hs1
  go_enter Tryz.func74, Tryz.ntmps74
  go_upto_region 1 with fail
  rw [← HW1.out]
  go_wp2_with fail
  refine (HSV.out w1 HB1.out).mono ?_
  rintro e w2 ⟨rfl, hb2⟩
  obtain ⟨d0, d1, d2⟩ := HBK.out w2 hb2
  have HB2 := Lib.hid (And.intro hb2 (HB1.out.trans (hb2.mono HB1.out.size)))
  clear hb2 c0 c1 c2
  go_wp2_with fail
  refine (HCF.out w2 HB2.out.2).mono ?_
  rintro e w3 ⟨rfl, hb3⟩
  have HB3 := Lib.hid (And.intro (HB2.out.1.trans (hb3.mono HB2.out.1.size)) (HB2.out.2.trans (hb3.mono HB2.out.2.size)))
  clear hb3 d0 d1 d2
  go_wp2_with fail
  refine (HCL.out w3 HB3.out.2).mono ?_
  rintro e w4 ⟨v4, rs4, rfl, hio⟩
  have hdat := hio.dat
  have hrl : rs4.length = rs.length := by
    have h := congrArg List.length hdat
    rwa [List.length_map, List.length_map] at h
  have hi4 : i < rs4.length := by rw [hrl]; exact hi
  have hdi : rs4[i].d = rs[i].d := by
    have h := congrArg (fun l => l[i]?) hdat
    simp only [List.getElem?_map, List.getElem?_eq_getElem hi4, List.getElem?_eq_getElem hi, Option.map_some] at h
    exact Option.some.inj h
  have hnm : rs4[i].name = s.tabs[i].name := by
    have h := congrArg Prod.fst hdi
    exact h.trans (HH.out.fit.name i hi hit)
  have hrw : rs4[i].rows.map Key.row = rs[i].rows.map Key.row := congrArg Prod.snd hdi
  have hrl24 : rs4[i].rows.length ≤ 24 := by
    have h := congrArg List.length hrw
    rw [List.length_map, List.length_map] at h
    rw [h]
    exact (HH.out.fit.rel i hi hit).len
  obtain ⟨g4, c4, cur4, hv4, -⟩ := hio.own.open_ (by omega)
  subst hv4
  have HIO := Lib.hid hio
  have HB4 := Lib.hid (And.intro (HB3.out.1.trans (hio.bel.mono HB3.out.1.size)) (HB3.out.2.trans (hio.bel.mono HB3.out.2.size)))
  have HD := Lib.hid (And.intro hi4 (And.intro hnm (And.intro hrw hrl24)))
  obtain ⟨n4, hn4⟩ : ∃ n4, rs4.length = n4 := ⟨_, rfl⟩
  rw [hn4]
  have hin4 : (i : Int) < (n4 : Int) := by omega
  have hi1000 : i ≤ 100 := by have := HH.out.val.ntab; omega
  have HN4 := Lib.hid hn4
  clear hio hdat hrl hdi hnm hrw hrl24 hn4
  go_wp2_with fail
  go_loopw [36] (fun vi wr => (vi = .int .i64 0 ∧ w4 = wr) ∨ (vi = .int .i64 1 ∧ ∃ rs', InO w.heap.size w wr (.slice (some ⟨g4, 0, none⟩) n4 c4) rs' ((rs.map RelM.d).set i (s.tabs[i].name, upsX s.tabs[i].pk ch.row.row (rs[i].rows.map Key.row))))) (fun vi _ => 1 - (intOf vi).toNat)
  case atStart => exact .inl ⟨rfl, rfl⟩
  case round =>
    rcases hrel with ⟨rfl, rfl⟩ | ⟨rfl, rs', hfin⟩
    · obtain ⟨b, off, rfl, -, e0, e1, e2, e3⟩ := (HH.out.el.on HB4.out.2).chm
      obtain ⟨w5, hw5⟩ : ∃ w5, w5 = w4.alloc (.cells #[.int .i64 ch.kind, .string ch.name, .slice ch.key.A ch.key.row.length ch.key.c, .slice ch.row.A ch.row.row.length ch.row.c] 51) := ⟨_, rfl⟩
      have hb5 : Below w4.heap.size w4 w5 := by rw [hw5]; exact (Below.refl _ _).alloc (Nat.le_refl _) _
      have hg5 : w5.heap[w4.heap.size]? = some (.cells #[.int .i64 ch.kind, .string ch.name, .slice ch.key.A ch.key.row.length ch.key.c, .slice ch.row.A ch.row.row.length ch.row.c] 51 (0, 0)) := by rw [hw5]; exact heap_alloc_new w4 _
      have hs5 : w4.heap.size < w5.heap.size := by rw [hw5]; simp
      have HCB : Hid (∀ W, Below w5.heap.size w5 W → W.cell? ⟨w4.heap.size, 0, none⟩ = some (.int .i64 ch.kind) ∧ W.cell? ⟨w4.heap.size, 1, none⟩ = some (.string ch.name) ∧ W.cell? ⟨w4.heap.size, 2, none⟩ = some (.slice ch.key.A ch.key.row.length ch.key.c) ∧ W.cell? ⟨w4.heap.size, 3, none⟩ = some (.slice ch.row.A ch.row.row.length ch.row.c)) := Lib.hid fun W hW => by
        have h := (hW.block w4.heap.size hs5).trans hg5
        exact ⟨by rw [cell_of_row _ _ _ _ _ _ h]; rfl, by rw [cell_of_row _ _ _ _ _ _ h]; rfl, by rw [cell_of_row _ _ _ _ _ _ h]; rfl, by rw [cell_of_row _ _ _ _ _ _ h]; rfl⟩
      have HB5 := Lib.hid (And.intro (HB4.out.1.trans (hb5.mono HB4.out.1.size)) (And.intro (HB4.out.2.trans (hb5.mono HB4.out.2.size)) hb5))
      have HW5 := Lib.hid hw5
      have HV5 := Lib.hid (HVC.out w5 HB5.out.2.1)
      obtain ⟨k0, k1, k2, k3⟩ := HCB.out w5 (Below.refl _ _)
      obtain ⟨b0, b1, b2⟩ := HBK.out w5 HB5.out.1
      unfold ChM.cells at HV5
      rw [hk] at HV5 HW5 HCB k0 e0
      clear hw5 hb5 hg5 hs5
      go_upto_region 13 with fail
      rw [← HW5.out]
      go_wp2_with fail
      refine HV5.out.mono ?_
      rintro e w6 ⟨rfl, hb6⟩
      have HB6 := Lib.hid (And.intro (HB5.out.1.trans (hb6.mono HB5.out.1.size)) (And.intro (HB5.out.2.1.trans (hb6.mono HB5.out.2.1.size)) hb6))
      obtain ⟨k0, k1, k2, k3⟩ := HCB.out w6 hb6
      obtain ⟨b0, b1, b2⟩ := HBK.out w6 HB6.out.1
      have HF6 := Lib.hid (HFT.out w6 HB6.out.2.1)
      clear hb6
      go_wp2_with fail
      refine HF6.out.mono ?_
      rintro e w7 ⟨rfl, hb7⟩
      rw [HFI.out]
      have hmi : max (i : Int) 0 = (i : Int) := by omega
      have hdi : decide (0 ≤ (i : Int)) = true := decide_eq_true (by omega)
      unfold findV
      rw [hmi, hdi]
      have HB7 := Lib.hid (And.intro (HB6.out.1.trans (hb7.mono HB6.out.1.size)) (And.intro (HB6.out.2.1.trans (hb7.mono HB6.out.2.1.size)) (HB6.out.2.2.trans (hb7.mono HB6.out.2.2.size))))
      clear hb7 hmi hdi k0 k1 k2 k3 b0 b1 b2
      obtain ⟨k0, k1, k2, k3⟩ := HCB.out w7 HB7.out.2.2
      obtain ⟨b0, b1, b2⟩ := HBK.out w7 HB7.out.1
      have hsc7 := HH.out.sc.on HB7.out.2.1
      obtain ⟨tb, toff, hTA, -, t0, t1, t2⟩ := hsc7.tabs.tbl hit
      have htok := hsc7.tab _ (List.getElem_mem hit)
      have hit' : (i : Int) < (s.tabs.length : Int) := by omega
      rw [hTA] at b0
      obtain ⟨w8, hw8⟩ : ∃ w8, w8 = w7.alloc (.cells #[.string s.tabs[i].name, .slice s.tabs[i].CA s.tabs[i].cols.length s.tabs[i].cc, .slice s.tabs[i].PA s.tabs[i].pk.length s.tabs[i].pc] 71) := ⟨_, rfl⟩
      have hb8 : Below w7.heap.size w7 w8 := by rw [hw8]; exact (Below.refl _ _).alloc (Nat.le_refl _) _
      have hg8 : w8.heap[w7.heap.size]? = some (.cells #[.string s.tabs[i].name, .slice s.tabs[i].CA s.tabs[i].cols.length s.tabs[i].cc, .slice s.tabs[i].PA s.tabs[i].pk.length s.tabs[i].pc] 71 (0, 0)) := by rw [hw8]; exact heap_alloc_new w7 _
      have x0 : w8.cell? ⟨w7.heap.size, 0, none⟩ = some (.string s.tabs[i].name) := by rw [cell_of_row _ _ _ _ _ _ hg8]; rfl
      have x1 : w8.cell? ⟨w7.heap.size, 1, none⟩ = some (.slice s.tabs[i].CA s.tabs[i].cols.length s.tabs[i].cc) := by rw [cell_of_row _ _ _ _ _ _ hg8]; rfl
      have x2 : w8.cell? ⟨w7.heap.size, 2, none⟩ = some (.slice s.tabs[i].PA s.tabs[i].pk.length s.tabs[i].pc) := by rw [cell_of_row _ _ _ _ _ _ hg8]; rfl
      have hb58 := HB7.out.2.2.trans (hb8.mono HB7.out.2.2.size)
      have hb48 : Below w4.heap.size w4 w8 := HB5.out.2.2.trans (hb58.mono HB5.out.2.2.size)
      obtain ⟨y0, y1, y2, y3⟩ := HCB.out w8 hb58
      have hbw8 := HB7.out.2.1.trans (hb8.mono HB7.out.2.1.size)
      have hio8 := HIO.out.below hb48 HIO.out.bel.size
      obtain ⟨gb, goff, hge, -, z0, z1⟩ := hio8.inOk.el.rel hi4
      injection hge with hge
      injection hge with hge1 hge2
      subst hge1 hge2
      rw [Nat.zero_add] at z0 z1
      have hg4 : g4 < w4.heap.size := (Own.lt HIO.out.own g4 rfl).2
      have hs48 : w4.heap.size ≤ w7.heap.size := by have := HB5.out.2.2.size; have := HB7.out.2.2.size; omega
      have hs78 : w7.heap.size < w8.heap.size := by rw [hw8]; simp
      have hs58 : w4.heap.size < w8.heap.size := by omega
      have hup : ∀ m, Calls Tryz.prog 108 #[s.tabs[i].val, .slice rs4[i].A rs4[i].rows.length rs4[i].c, .slice ch.row.A ch.row.row.length ch.row.c] (w8.drewN m) (ApK (fun W => W.cell? ⟨w7.heap.size, 0, none⟩ = some (.string s.tabs[i].name) ∧ W.cell? ⟨w7.heap.size, 1, none⟩ = some (.slice s.tabs[i].CA s.tabs[i].cols.length s.tabs[i].cc) ∧ W.cell? ⟨w7.heap.size, 2, none⟩ = some (.slice s.tabs[i].PA s.tabs[i].pk.length s.tabs[i].pc) ∧ W.cell? ⟨w4.heap.size, 3, none⟩ = some (.slice ch.row.A ch.row.row.length ch.row.c)) w g4 i n4 c4 ((rs.map RelM.d).set i (s.tabs[i].name, upsX s.tabs[i].pk ch.row.row (rs[i].rows.map Key.row)))) := fun m => by
        have hd : Below w8.heap.size w8 (w8.drewN m) := below_drewN (Below.refl _ _) m
        have hiod := hio8.below hd hio8.bel.size
        refine (relUpsert s.tabs[i] rs4[i].A rs4[i].c rs4[i].rows ch.row (w8.drewN m) ((htok.on hb8).on hd) (hiod.inOk.rel _ (List.getElem_mem hi4)) ((HH.out.ok.row.on hbw8).on hd) (by have := HD.out.2.2.2; omega) (HH.out.ch.tab.2)).mono ?_
        rintro e w9 ⟨v9, ks9, rfl, hro⟩
        obtain ⟨A9, c9, rfl, -, -⟩ := hro.own.form
        rw [HD.out.2.2.1] at hro
        obtain ⟨o1, o2, o3⟩ := hiod.set hiod.bel.size hi4 hro s.tabs[i].name (fun r hr => by
          rw [List.getElem?_eq_getElem hi4] at hr
          injection hr with hr
          rw [← hr]
          exact HD.out.2.1)
        have hl9 : ks9.length ≤ 24 := by
          have h := congrArg List.length hro.rows
          rw [List.length_map] at h
          rw [h]
          exact hlen
        have hb89 : Below w8.heap.size w8 w9 := hd.trans hro.bel
        have x0' := (hb89.cell (p := ⟨w7.heap.size, 0, none⟩) hs78).trans x0
        have x1' := (hb89.cell (p := ⟨w7.heap.size, 1, none⟩) hs78).trans x1
        have x2' := (hb89.cell (p := ⟨w7.heap.size, 2, none⟩) hs78).trans x2
        have y3' := (hb89.cell (p := ⟨w4.heap.size, 3, none⟩) hs58).trans y3
        have hn7 : g4 ≠ w7.heap.size := by omega
        have hn4 : g4 ≠ w4.heap.size := by omega
        refine ⟨A9, _, c9, rfl, ⟨x0', x1', x2', y3'⟩, ⟨(World.cell?_setCell_far _ _ _ _ hn7).trans x0', (World.cell?_setCell_far _ _ _ _ hn7).trans x1', (World.cell?_setCell_far _ _ _ _ hn7).trans x2', (World.cell?_setCell_far _ _ _ _ hn4).trans y3'⟩, hl9, o2, o3, Lib.hid ⟨_, ⟨by rw [← HN4.out]; exact o1.own.mono HB3.out.2.size, o1.dat, fun r hr => (o1.rel r hr).more fun g hg => ⟨Nat.le_trans HB3.out.2.size hg.1, hg.2⟩, HB3.out.2.trans (o1.bel.mono HB3.out.2.size)⟩⟩⟩
      have HUP := Lib.hid hup
      have HW8 := Lib.hid hw8
      unfold Tbl.val at HUP
      clear hw8 hb8 hg8 hb58 hb48 hbw8 hio8 hup hsc7 htok hTA hg4 hs48 hs58 hs78
      generalize htn : s.tabs[i].name = tn at *
      have HTN := Lib.hid htn
      clear htn
      generalize rs4[i].A = oA at *
      generalize rs4[i].rows.length = on at *
      generalize rs4[i].c = oc at *
      go_upto_region 18 with fail
      rw [← HW8.out]
      go_upto_region 19 with fail
      go_cut [] from 61 to 73 (fun wx => ∃ A9 n9 c9, n9 ≤ 24 ∧ wx.cell? ⟨g4, i * 2 + 1, none⟩ = some (.slice A9 n9 c9) ∧ ∃ rs', InO w.heap.size w wx (.slice (some ⟨g4, 0, none⟩) n4 c4) rs' ((rs.map RelM.d).set i (tn, upsX s.tabs[i].pk ch.row.row (rs[i].rows.map Key.row))))
      case first =>
        refine wp_region_held_drew (S := (fun W => W.cell? ⟨w7.heap.size, 0, none⟩ = some (.string tn) ∧ W.cell? ⟨w7.heap.size, 1, none⟩ = some (.slice s.tabs[i].CA s.tabs[i].cols.length s.tabs[i].cc) ∧ W.cell? ⟨w7.heap.size, 2, none⟩ = some (.slice s.tabs[i].PA s.tabs[i].pk.length s.tabs[i].pc) ∧ W.cell? ⟨w4.heap.size, 3, none⟩ = some (.slice ch.row.A ch.row.row.length ch.row.c))) (by kernel_rfl) ⟨x0, x1, x2, y3⟩ (fun hHeld => ?_)
        refine wpAnyH_take (i := 0) (oi := _) (v := ?_) rfl (by kernel_rfl) (by kernel_rfl) (by kernel_rfl) (fun _ _ _ h => h) (Or.inl ⟨by rfl, ?_⟩) hHeld ?_
        rotate_left
        · intro w hSw; (try dsimp only at hSw); go_simp; with_reducible rfl
        simp only [Act.put, List.setIfInBounds_toArray, List.set_cons_zero, List.set_cons_succ]
        refine wpAnyH_take (i := 1) (oi := _) (v := ?_) rfl (by kernel_rfl) (by kernel_rfl) (by kernel_rfl) (fun _ _ _ h => h) (Or.inl ⟨by rfl, ?_⟩) hHeld ?_
        rotate_left
        · intro w hSw; (try dsimp only at hSw); go_simp; with_reducible rfl
        simp only [Act.put, List.setIfInBounds_toArray, List.set_cons_zero, List.set_cons_succ]
        refine wpAnyH_take (i := 2) (oi := _) (v := ?_) rfl (by kernel_rfl) (by kernel_rfl) (by kernel_rfl) (fun _ _ _ h => h) (Or.inl ⟨by rfl, ?_⟩) hHeld ?_
        rotate_left
        · intro w hSw; (try dsimp only at hSw); go_simp; with_reducible rfl
        simp only [Act.put, List.setIfInBounds_toArray, List.set_cons_zero, List.set_cons_succ]
        refine wpAnyH_take (i := 3) (oi := _) (v := ?_) rfl (by kernel_rfl) (by kernel_rfl) (by kernel_rfl) (fun _ _ _ h => h) (Or.inl ⟨by rfl, ?_⟩) hHeld ?_
        rotate_left
        · intro w hSw; (try dsimp only at hSw); go_simp; with_reducible rfl
        simp only [Act.put, List.setIfInBounds_toArray, List.set_cons_zero, List.set_cons_succ]
        refine wpAnyH_take (i := 4) (oi := _) (v := ?_) rfl (by kernel_rfl) (by kernel_rfl) (by kernel_rfl) (fun _ _ _ h => h) (Or.inl ⟨by rfl, ?_⟩) hHeld ?_
        rotate_left
        · intro w hSw; (try dsimp only at hSw); go_simp; with_reducible rfl
        simp only [Act.put, List.setIfInBounds_toArray, List.set_cons_zero, List.set_cons_succ]
        refine wpAnyH_take (i := 5) (oi := _) (v := ?_) rfl (by kernel_rfl) (by kernel_rfl) (by kernel_rfl) (fun _ _ _ h => h) (Or.inl ⟨by rfl, ?_⟩) hHeld ?_
        rotate_left
        · intro w hSw; (try dsimp only at hSw); go_simp; with_reducible rfl
        simp only [Act.put, List.setIfInBounds_toArray, List.set_cons_zero, List.set_cons_succ]
        refine wpAnyH_take (i := 6) (oi := _) (v := ?_) rfl (by kernel_rfl) (by kernel_rfl) (by kernel_rfl) (fun _ _ _ h => h) (Or.inl ⟨by rfl, ?_⟩) hHeld ?_
        rotate_left
        · intro w hSw; (try dsimp only at hSw); go_simp; with_reducible rfl
        simp only [Act.put, List.setIfInBounds_toArray, List.set_cons_zero, List.set_cons_succ]
        refine wpAnyH_take (i := 8) (oi := _) (v := ?_) rfl (by kernel_rfl) (by kernel_rfl) (by kernel_rfl) (fun _ _ _ h => h) (Or.inl ⟨by rfl, ?_⟩) hHeld ?_
        rotate_left
        · intro w hSw; (try dsimp only at hSw); go_simp; with_reducible rfl
        simp only [Act.put, List.setIfInBounds_toArray, List.set_cons_zero, List.set_cons_succ]
        refine wpAnyH_take (i := 9) (oi := _) (v := ?_) rfl (by kernel_rfl) (by kernel_rfl) (by kernel_rfl) (fun _ _ _ h => h) (Or.inl ⟨by rfl, ?_⟩) hHeld ?_
        rotate_left
        · intro w hSw; (try dsimp only at hSw); go_simp; with_reducible rfl
        simp only [Act.put, List.setIfInBounds_toArray, List.set_cons_zero, List.set_cons_succ]
        refine wpAnyH_ready (rs := [7]) (by kernel_rfl) (by simp) ?_
        refine AllReadyH.cons (o := _) rfl (fun K hK => ?_) AllReadyH.nil
        go_simp
        refine hK.out _ _ hHeld (fun hHeld => ?_)
        clear hK K
        try simp only [Act.put, List.setIfInBounds_toArray, List.set_cons_zero, List.set_cons_succ]
        refine wpAnyH_ready (rs := [10]) (by kernel_rfl) (by simp) ?_
        refine AllReadyH.cons (o := _) rfl (fun K hK => ?_) AllReadyH.nil
        (go_simp; go_at_call 108; refine (HUP.out 1).mono ?_; rintro e w9 ⟨A9, n9, c9, rfl, s9, s9', hn9, ⟨q, v0⟩, v1, HIO9⟩; go_wp2_with fail)
        refine hK.out _ _ s9 (fun hHeld => ?_)
        clear hK K
        try simp only [Act.put, List.setIfInBounds_toArray, List.set_cons_zero, List.set_cons_succ]
        refine wpAnyH_take (i := 11) (oi := _) (v := ?_) rfl (by kernel_rfl) (by kernel_rfl) (by kernel_rfl) (fun _ _ _ h => h) (Or.inl ⟨by rfl, ?_⟩) hHeld ?_
        rotate_left
        · intro w hSw; (try dsimp only at hSw); go_simp; with_reducible rfl
        simp only [Act.put, List.setIfInBounds_toArray, List.set_cons_zero, List.set_cons_succ]
        refine wpAnyH_take (i := 12) (oi := _) (v := ?_) rfl (by kernel_rfl) (by kernel_rfl) (by kernel_rfl) (fun _ _ _ h => h) (Or.inl ⟨by rfl, ?_⟩) hHeld ?_
        rotate_left
        · intro w hSw; (try dsimp only at hSw); go_simp; with_reducible rfl
        simp only [Act.put, List.setIfInBounds_toArray, List.set_cons_zero, List.set_cons_succ]
        refine wpAnyH_ready (rs := [13]) (by kernel_rfl) (by simp) ?_
        refine AllReadyH.cons (o := _) rfl (fun K hK => ?_) AllReadyH.nil
        go_simp
        refine hK.out _ _ s9' (fun hHeld => ?_)
        clear hK K
        try simp only [Act.put, List.setIfInBounds_toArray, List.set_cons_zero, List.set_cons_succ]
        refine wpAnyH_done (by kernel_rfl) ?_ _
        all_goals
          have HC9 := Lib.hid (World.cell?_setCell_same w9 ⟨g4, i * 2 + 1, none⟩ (.slice A9 n9 c9) v0)
          have HN9 := Lib.hid hn9
          clear hn9 s9 s9'
          go_wp2_with fail
          go_meet
          exact ⟨A9, n9, c9, HN9.out, HC9.out, HIO9.out⟩
      case rest =>
        obtain ⟨A9, n9, c9, hn9, hc9, hex⟩ := hcut
        have HF := Lib.hid hex
        have hn9' : (n9 : Int) ≤ 24 := by omega
        have hn9d : decide ((24 : Int) < (n9 : Int)) = false := decide_eq_false (by omega)
        clear hex
        go_wp2_with fail
        go_roundw
        case rel => exact .inr ⟨by go_num, by rw [HTN.out]; exact HF.out⟩
        case measure => simp [intOf]
    · have HF := Lib.hid hfin
      clear hfin
      go_wp2_with fail
      go_ret2
      exact ⟨_, rs', rfl, HF.out⟩
end Go.Proofs.YtefifkleamiabaaGreatDoor

namespace Go.Proofs.YtefifkleamiabaaGreatDoor
open Go.RowKit Go.Sort

/-- Behind Delete: the store. -/
def ApD (S : World → Prop) (w : World) (g i n c : Nat) (ds : List (ByteArray × List Row)) (e : Ending) (w' : World) : Prop :=
  ∃ A9 n9 c9, e = .returned (.tuple #[.slice A9 n9 c9, .bool true]) ∧ S w' ∧ S (w'.setCell ⟨g, i * 2 + 1, none⟩ (.slice A9 n9 c9)) ∧ (∃ q, w'.cell? ⟨g, i * 2 + 1, none⟩ = some q) ∧ w'.frozen? ⟨g, i * 2 + 1, none⟩ = false
    ∧ Hid (∃ rs', InO w.heap.size w (w'.setCell ⟨g, i * 2 + 1, none⟩ (.slice A9 n9 c9)) (.slice (some ⟨g, 0, none⟩) n c) rs' ds)

set_option linter.unusedSimpArgs false in
set_option maxRecDepth 100000 in
set_option maxHeartbeats 8000000 in
theorem applyDel (s : Sc) (A : Option Addr) (c : Nat) (rs : List RelM) (B : Option Addr) (d : Nat) (ch : ChM) (i : Nat) (w : World) (h : ApIn s A rs B ch i w) (hk : ch.kind = 2) (hi : i < rs.length) (hit : i < s.tabs.length) (hfd : rff s.tabs[i].pk ch.key.row (rs[i].rows.map Key.row) = true) :
    Calls Tryz.prog 74 #[s.v, .slice A rs.length c, .slice B 1 d] w fun e w' => ∃ v rs', e = .returned (.tuple #[v, .int .i64 0]) ∧ InO w.heap.size w w' v rs' ((rs.map RelM.d).set i (s.tabs[i].name, delRX s.tabs[i].pk ch.key.row (rs[i].rows.map Key.row))) := by
  have HH := Lib.hid h
  have HFR := Lib.hid hfd
  have HSV := Lib.hid fun W (hW : Below w.heap.size w W) => schemaValidate s W (h.sc.on hW) h.val
  have HCF := Lib.hid fun W (hW : Below w.heap.size w W) => conforms s A c rs W (h.sc.on hW) (h.inst.on hW) h.fit
  have HCL := Lib.hid fun W (hW : Below w.heap.size w W) => instClone A c rs W (h.inst.on hW) (by have h1 := h.fit.len; have h2 := h.fit.max; omega) (fun r hr => by
    obtain ⟨j, hj, rfl⟩ := List.getElem_of_mem hr
    have := (h.fit.rel j hj (by rw [← h.fit.len]; exact hj)).len
    omega)
  have HVC := Lib.hid fun W (hW : Below w.heap.size w W) => validateCh s ch i W (h.sc.on hW) (h.ok.on hW) h.ch (by have := h.val.ntab; omega)
  have HFT := Lib.hid fun W (hW : Below w.heap.size w W) => findTable s ch.name W (h.sc.on hW) (by have := h.val.ntab; omega)
  have HFI := Lib.hid h.ch.fi
  obtain ⟨w1, hw1⟩ : ∃ w1, w1 = w.alloc (.cells s.cells 27) := ⟨_, rfl⟩
  have hb1 : Below w.heap.size w w1 := by rw [hw1]; exact (Below.refl _ _).alloc (Nat.le_refl _) _
  have hg0 : w1.heap[w.heap.size]? = some (.cells s.cells 27 (0, 0)) := by rw [hw1]; exact heap_alloc_new w _
  have hs1 : w.heap.size < w1.heap.size := by rw [hw1]; simp
  have HBK : Hid (∀ W, Below w1.heap.size w1 W → W.cell? ⟨w.heap.size, 0, none⟩ = some (.slice s.TA s.tabs.length s.tc) ∧ W.cell? ⟨w.heap.size, 1, none⟩ = some (.slice s.FA s.fks.length s.fc) ∧ W.cell? ⟨w.heap.size, 2, none⟩ = some (.slice s.NA s.cns.length s.nc)) := Lib.hid fun W hW => by
    have h0 := (hW.block w.heap.size hs1).trans hg0
    unfold Sc.cells at h0
    exact ⟨by rw [cell_of_row _ _ _ _ _ _ h0]; rfl, by rw [cell_of_row _ _ _ _ _ _ h0]; rfl, by rw [cell_of_row _ _ _ _ _ _ h0]; rfl⟩
  have HB1 := Lib.hid hb1
  have HW1 := Lib.hid hw1
  obtain ⟨c0, c1, c2⟩ := HBK.out w1 (Below.refl _ _)
  unfold Sc.cells at HW1
  unfold Sc.v Sc.cells at HSV HCF HVC HFT ⊢
  clear h hw1 hb1 hg0 hs1
  go_enter Tryz.func74, Tryz.ntmps74
  go_upto_region 1 with fail
  rw [← HW1.out]
  go_wp2_with fail
  refine (HSV.out w1 HB1.out).mono ?_
  rintro e w2 ⟨rfl, hb2⟩
  obtain ⟨d0, d1, d2⟩ := HBK.out w2 hb2
  have HB2 := Lib.hid (And.intro hb2 (HB1.out.trans (hb2.mono HB1.out.size)))
  clear hb2 c0 c1 c2
  go_wp2_with fail
  refine (HCF.out w2 HB2.out.2).mono ?_
  rintro e w3 ⟨rfl, hb3⟩
  have HB3 := Lib.hid (And.intro (HB2.out.1.trans (hb3.mono HB2.out.1.size)) (HB2.out.2.trans (hb3.mono HB2.out.2.size)))
  clear hb3 d0 d1 d2
  go_wp2_with fail
  refine (HCL.out w3 HB3.out.2).mono ?_
  rintro e w4 ⟨v4, rs4, rfl, hio⟩
  have hdat := hio.dat
  have hrl : rs4.length = rs.length := by
    have h := congrArg List.length hdat
    rwa [List.length_map, List.length_map] at h
  have hi4 : i < rs4.length := by rw [hrl]; exact hi
  have hdi : rs4[i].d = rs[i].d := by
    have h := congrArg (fun l => l[i]?) hdat
    simp only [List.getElem?_map, List.getElem?_eq_getElem hi4, List.getElem?_eq_getElem hi, Option.map_some] at h
    exact Option.some.inj h
  have hnm : rs4[i].name = s.tabs[i].name := by
    have h := congrArg Prod.fst hdi
    exact h.trans (HH.out.fit.name i hi hit)
  have hrw : rs4[i].rows.map Key.row = rs[i].rows.map Key.row := congrArg Prod.snd hdi
  have hrl24 : rs4[i].rows.length ≤ 24 := by
    have h := congrArg List.length hrw
    rw [List.length_map, List.length_map] at h
    rw [h]
    exact (HH.out.fit.rel i hi hit).len
  obtain ⟨g4, c4, cur4, hv4, -⟩ := hio.own.open_ (by omega)
  subst hv4
  have HIO := Lib.hid hio
  have HB4 := Lib.hid (And.intro (HB3.out.1.trans (hio.bel.mono HB3.out.1.size)) (HB3.out.2.trans (hio.bel.mono HB3.out.2.size)))
  have HD := Lib.hid (And.intro hi4 (And.intro hnm (And.intro hrw hrl24)))
  obtain ⟨n4, hn4⟩ : ∃ n4, rs4.length = n4 := ⟨_, rfl⟩
  rw [hn4]
  have hin4 : (i : Int) < (n4 : Int) := by omega
  have hi1000 : i ≤ 100 := by have := HH.out.val.ntab; omega
  have HN4 := Lib.hid hn4
  clear hio hdat hrl hdi hnm hrw hrl24 hn4
  go_wp2_with fail
  go_loopw [36] (fun vi wr => (vi = .int .i64 0 ∧ w4 = wr) ∨ (vi = .int .i64 1 ∧ ∃ rs', InO w.heap.size w wr (.slice (some ⟨g4, 0, none⟩) n4 c4) rs' ((rs.map RelM.d).set i (s.tabs[i].name, delRX s.tabs[i].pk ch.key.row (rs[i].rows.map Key.row))))) (fun vi _ => 1 - (intOf vi).toNat)
  case atStart => exact .inl ⟨rfl, rfl⟩
  case round =>
    rcases hrel with ⟨rfl, rfl⟩ | ⟨rfl, rs', hfin⟩
    · obtain ⟨b, off, rfl, -, e0, e1, e2, e3⟩ := (HH.out.el.on HB4.out.2).chm
      obtain ⟨w5, hw5⟩ : ∃ w5, w5 = w4.alloc (.cells #[.int .i64 ch.kind, .string ch.name, .slice ch.key.A ch.key.row.length ch.key.c, .slice ch.row.A ch.row.row.length ch.row.c] 51) := ⟨_, rfl⟩
      have hb5 : Below w4.heap.size w4 w5 := by rw [hw5]; exact (Below.refl _ _).alloc (Nat.le_refl _) _
      have hg5 : w5.heap[w4.heap.size]? = some (.cells #[.int .i64 ch.kind, .string ch.name, .slice ch.key.A ch.key.row.length ch.key.c, .slice ch.row.A ch.row.row.length ch.row.c] 51 (0, 0)) := by rw [hw5]; exact heap_alloc_new w4 _
      have hs5 : w4.heap.size < w5.heap.size := by rw [hw5]; simp
      have HCB : Hid (∀ W, Below w5.heap.size w5 W → W.cell? ⟨w4.heap.size, 0, none⟩ = some (.int .i64 ch.kind) ∧ W.cell? ⟨w4.heap.size, 1, none⟩ = some (.string ch.name) ∧ W.cell? ⟨w4.heap.size, 2, none⟩ = some (.slice ch.key.A ch.key.row.length ch.key.c) ∧ W.cell? ⟨w4.heap.size, 3, none⟩ = some (.slice ch.row.A ch.row.row.length ch.row.c)) := Lib.hid fun W hW => by
        have h := (hW.block w4.heap.size hs5).trans hg5
        exact ⟨by rw [cell_of_row _ _ _ _ _ _ h]; rfl, by rw [cell_of_row _ _ _ _ _ _ h]; rfl, by rw [cell_of_row _ _ _ _ _ _ h]; rfl, by rw [cell_of_row _ _ _ _ _ _ h]; rfl⟩
      have HB5 := Lib.hid (And.intro (HB4.out.1.trans (hb5.mono HB4.out.1.size)) (And.intro (HB4.out.2.trans (hb5.mono HB4.out.2.size)) hb5))
      have HW5 := Lib.hid hw5
      have HV5 := Lib.hid (HVC.out w5 HB5.out.2.1)
      obtain ⟨k0, k1, k2, k3⟩ := HCB.out w5 (Below.refl _ _)
      obtain ⟨b0, b1, b2⟩ := HBK.out w5 HB5.out.1
      unfold ChM.cells at HV5
      rw [hk] at HV5 HW5 HCB k0 e0
      clear hw5 hb5 hg5 hs5
      go_upto_region 13 with fail
      rw [← HW5.out]
      go_wp2_with fail
      refine HV5.out.mono ?_
      rintro e w6 ⟨rfl, hb6⟩
      have HB6 := Lib.hid (And.intro (HB5.out.1.trans (hb6.mono HB5.out.1.size)) (And.intro (HB5.out.2.1.trans (hb6.mono HB5.out.2.1.size)) hb6))
      obtain ⟨k0, k1, k2, k3⟩ := HCB.out w6 hb6
      obtain ⟨b0, b1, b2⟩ := HBK.out w6 HB6.out.1
      have HF6 := Lib.hid (HFT.out w6 HB6.out.2.1)
      clear hb6
      go_wp2_with fail
      refine HF6.out.mono ?_
      rintro e w7 ⟨rfl, hb7⟩
      rw [HFI.out]
      have hmi : max (i : Int) 0 = (i : Int) := by omega
      have hdi : decide (0 ≤ (i : Int)) = true := decide_eq_true (by omega)
      unfold findV
      rw [hmi, hdi]
      have HB7 := Lib.hid (And.intro (HB6.out.1.trans (hb7.mono HB6.out.1.size)) (And.intro (HB6.out.2.1.trans (hb7.mono HB6.out.2.1.size)) (HB6.out.2.2.trans (hb7.mono HB6.out.2.2.size))))
      clear hb7 hmi hdi k0 k1 k2 k3 b0 b1 b2
      obtain ⟨k0, k1, k2, k3⟩ := HCB.out w7 HB7.out.2.2
      obtain ⟨b0, b1, b2⟩ := HBK.out w7 HB7.out.1
      have hsc7 := HH.out.sc.on HB7.out.2.1
      obtain ⟨tb, toff, hTA, -, t0, t1, t2⟩ := hsc7.tabs.tbl hit
      have htok := hsc7.tab _ (List.getElem_mem hit)
      have hit' : (i : Int) < (s.tabs.length : Int) := by omega
      rw [hTA] at b0
      obtain ⟨w8, hw8⟩ : ∃ w8, w8 = w7.alloc (.cells #[.string s.tabs[i].name, .slice s.tabs[i].CA s.tabs[i].cols.length s.tabs[i].cc, .slice s.tabs[i].PA s.tabs[i].pk.length s.tabs[i].pc] 71) := ⟨_, rfl⟩
      have hb8 : Below w7.heap.size w7 w8 := by rw [hw8]; exact (Below.refl _ _).alloc (Nat.le_refl _) _
      have hg8 : w8.heap[w7.heap.size]? = some (.cells #[.string s.tabs[i].name, .slice s.tabs[i].CA s.tabs[i].cols.length s.tabs[i].cc, .slice s.tabs[i].PA s.tabs[i].pk.length s.tabs[i].pc] 71 (0, 0)) := by rw [hw8]; exact heap_alloc_new w7 _
      have x0 : w8.cell? ⟨w7.heap.size, 0, none⟩ = some (.string s.tabs[i].name) := by rw [cell_of_row _ _ _ _ _ _ hg8]; rfl
      have x1 : w8.cell? ⟨w7.heap.size, 1, none⟩ = some (.slice s.tabs[i].CA s.tabs[i].cols.length s.tabs[i].cc) := by rw [cell_of_row _ _ _ _ _ _ hg8]; rfl
      have x2 : w8.cell? ⟨w7.heap.size, 2, none⟩ = some (.slice s.tabs[i].PA s.tabs[i].pk.length s.tabs[i].pc) := by rw [cell_of_row _ _ _ _ _ _ hg8]; rfl
      have hb58 := HB7.out.2.2.trans (hb8.mono HB7.out.2.2.size)
      have hb48 : Below w4.heap.size w4 w8 := HB5.out.2.2.trans (hb58.mono HB5.out.2.2.size)
      obtain ⟨y0, y1, y2, y3⟩ := HCB.out w8 hb58
      have hbw8 := HB7.out.2.1.trans (hb8.mono HB7.out.2.1.size)
      have hio8 := HIO.out.below hb48 HIO.out.bel.size
      obtain ⟨gb, goff, hge, -, z0, z1⟩ := hio8.inOk.el.rel hi4
      injection hge with hge
      injection hge with hge1 hge2
      subst hge1 hge2
      rw [Nat.zero_add] at z0 z1
      have hg4 : g4 < w4.heap.size := (Own.lt HIO.out.own g4 rfl).2
      have hs48 : w4.heap.size ≤ w7.heap.size := by have := HB5.out.2.2.size; have := HB7.out.2.2.size; omega
      have hs78 : w7.heap.size < w8.heap.size := by rw [hw8]; simp
      have hs58 : w4.heap.size < w8.heap.size := by omega
      have hup : ∀ m, Calls Tryz.prog 109 #[s.tabs[i].val, .slice rs4[i].A rs4[i].rows.length rs4[i].c, .slice ch.key.A ch.key.row.length ch.key.c] (w8.drewN m) (ApD (fun W => W.cell? ⟨w7.heap.size, 0, none⟩ = some (.string s.tabs[i].name) ∧ W.cell? ⟨w7.heap.size, 1, none⟩ = some (.slice s.tabs[i].CA s.tabs[i].cols.length s.tabs[i].cc) ∧ W.cell? ⟨w7.heap.size, 2, none⟩ = some (.slice s.tabs[i].PA s.tabs[i].pk.length s.tabs[i].pc) ∧ W.cell? ⟨w4.heap.size, 2, none⟩ = some (.slice ch.key.A ch.key.row.length ch.key.c)) w g4 i n4 c4 ((rs.map RelM.d).set i (s.tabs[i].name, delRX s.tabs[i].pk ch.key.row (rs[i].rows.map Key.row)))) := fun m => by
        have hd : Below w8.heap.size w8 (w8.drewN m) := below_drewN (Below.refl _ _) m
        have hiod := hio8.below hd hio8.bel.size
        refine (relDelete s.tabs[i] rs4[i].A rs4[i].c rs4[i].rows ch.key (w8.drewN m) ((htok.on hb8).on hd) (hiod.inOk.rel _ (List.getElem_mem hi4)) ((HH.out.ok.key.on hbw8).on hd) (by have := HD.out.2.2.2; omega) (HH.out.ch.tab.2)).mono ?_
        rintro e w9 ⟨v9, ks9, rfl, hro⟩
        obtain ⟨A9, c9, rfl, -, -⟩ := hro.own.form
        rw [HD.out.2.2.1] at hro
        rw [HD.out.2.2.1, HFR.out]
        obtain ⟨o1, o2, o3⟩ := hiod.set hiod.bel.size hi4 hro s.tabs[i].name (fun r hr => by
          rw [List.getElem?_eq_getElem hi4] at hr
          injection hr with hr
          rw [← hr]
          exact HD.out.2.1)
        have hb89 : Below w8.heap.size w8 w9 := hd.trans hro.bel
        have x0' := (hb89.cell (p := ⟨w7.heap.size, 0, none⟩) hs78).trans x0
        have x1' := (hb89.cell (p := ⟨w7.heap.size, 1, none⟩) hs78).trans x1
        have x2' := (hb89.cell (p := ⟨w7.heap.size, 2, none⟩) hs78).trans x2
        have y2' := (hb89.cell (p := ⟨w4.heap.size, 2, none⟩) hs58).trans y2
        have hn7 : g4 ≠ w7.heap.size := by omega
        have hn4 : g4 ≠ w4.heap.size := by omega
        refine ⟨A9, _, c9, rfl, ⟨x0', x1', x2', y2'⟩, ⟨(World.cell?_setCell_far _ _ _ _ hn7).trans x0', (World.cell?_setCell_far _ _ _ _ hn7).trans x1', (World.cell?_setCell_far _ _ _ _ hn7).trans x2', (World.cell?_setCell_far _ _ _ _ hn4).trans y2'⟩, o2, o3, Lib.hid ⟨_, ⟨by rw [← HN4.out]; exact o1.own.mono HB3.out.2.size, o1.dat, fun r hr => (o1.rel r hr).more fun g hg => ⟨Nat.le_trans HB3.out.2.size hg.1, hg.2⟩, HB3.out.2.trans (o1.bel.mono HB3.out.2.size)⟩⟩⟩
      have HUP := Lib.hid hup
      have HW8 := Lib.hid hw8
      unfold Tbl.val at HUP
      clear hw8 hb8 hg8 hb58 hb48 hbw8 hio8 hup hsc7 htok hTA hg4 hs48 hs58 hs78
      generalize htn : s.tabs[i].name = tn at *
      have HTN := Lib.hid htn
      clear htn
      generalize rs4[i].A = oA at *
      generalize rs4[i].rows.length = on at *
      generalize rs4[i].c = oc at *
      go_upto_region 18 with fail
      rw [← HW8.out]
      go_upto_region 23 with fail
      go_cut [17] from 81 to 96 (fun v17 wx => v17 = .bool true ∧ ∃ rs', InO w.heap.size w wx (.slice (some ⟨g4, 0, none⟩) n4 c4) rs' ((rs.map RelM.d).set i (tn, delRX s.tabs[i].pk ch.key.row (rs[i].rows.map Key.row))))
      case first =>
        refine wp_region_held_drew (S := (fun W => W.cell? ⟨w7.heap.size, 0, none⟩ = some (.string tn) ∧ W.cell? ⟨w7.heap.size, 1, none⟩ = some (.slice s.tabs[i].CA s.tabs[i].cols.length s.tabs[i].cc) ∧ W.cell? ⟨w7.heap.size, 2, none⟩ = some (.slice s.tabs[i].PA s.tabs[i].pk.length s.tabs[i].pc) ∧ W.cell? ⟨w4.heap.size, 2, none⟩ = some (.slice ch.key.A ch.key.row.length ch.key.c))) (by kernel_rfl) ⟨x0, x1, x2, y2⟩ (fun hHeld => ?_)
        refine wpAnyH_take (i := 0) (oi := _) (v := ?_) rfl (by kernel_rfl) (by kernel_rfl) (by kernel_rfl) (fun _ _ _ h => h) (Or.inl ⟨by rfl, ?_⟩) hHeld ?_
        rotate_left
        · intro w hSw; (try dsimp only at hSw); go_simp; with_reducible rfl
        simp only [Act.put, List.setIfInBounds_toArray, List.set_cons_zero, List.set_cons_succ, List.getElem_toArray, List.getElem_cons_succ, List.getElem_cons_zero]
        refine wpAnyH_take (i := 1) (oi := _) (v := ?_) rfl (by kernel_rfl) (by kernel_rfl) (by kernel_rfl) (fun _ _ _ h => h) (Or.inl ⟨by rfl, ?_⟩) hHeld ?_
        rotate_left
        · intro w hSw; (try dsimp only at hSw); go_simp; with_reducible rfl
        simp only [Act.put, List.setIfInBounds_toArray, List.set_cons_zero, List.set_cons_succ, List.getElem_toArray, List.getElem_cons_succ, List.getElem_cons_zero]
        refine wpAnyH_take (i := 2) (oi := _) (v := ?_) rfl (by kernel_rfl) (by kernel_rfl) (by kernel_rfl) (fun _ _ _ h => h) (Or.inl ⟨by rfl, ?_⟩) hHeld ?_
        rotate_left
        · intro w hSw; (try dsimp only at hSw); go_simp; with_reducible rfl
        simp only [Act.put, List.setIfInBounds_toArray, List.set_cons_zero, List.set_cons_succ, List.getElem_toArray, List.getElem_cons_succ, List.getElem_cons_zero]
        refine wpAnyH_take (i := 3) (oi := _) (v := ?_) rfl (by kernel_rfl) (by kernel_rfl) (by kernel_rfl) (fun _ _ _ h => h) (Or.inl ⟨by rfl, ?_⟩) hHeld ?_
        rotate_left
        · intro w hSw; (try dsimp only at hSw); go_simp; with_reducible rfl
        simp only [Act.put, List.setIfInBounds_toArray, List.set_cons_zero, List.set_cons_succ, List.getElem_toArray, List.getElem_cons_succ, List.getElem_cons_zero]
        refine wpAnyH_take (i := 4) (oi := _) (v := ?_) rfl (by kernel_rfl) (by kernel_rfl) (by kernel_rfl) (fun _ _ _ h => h) (Or.inl ⟨by rfl, ?_⟩) hHeld ?_
        rotate_left
        · intro w hSw; (try dsimp only at hSw); go_simp; with_reducible rfl
        simp only [Act.put, List.setIfInBounds_toArray, List.set_cons_zero, List.set_cons_succ, List.getElem_toArray, List.getElem_cons_succ, List.getElem_cons_zero]
        refine wpAnyH_take (i := 5) (oi := _) (v := ?_) rfl (by kernel_rfl) (by kernel_rfl) (by kernel_rfl) (fun _ _ _ h => h) (Or.inl ⟨by rfl, ?_⟩) hHeld ?_
        rotate_left
        · intro w hSw; (try dsimp only at hSw); go_simp; with_reducible rfl
        simp only [Act.put, List.setIfInBounds_toArray, List.set_cons_zero, List.set_cons_succ, List.getElem_toArray, List.getElem_cons_succ, List.getElem_cons_zero]
        refine wpAnyH_take (i := 6) (oi := _) (v := ?_) rfl (by kernel_rfl) (by kernel_rfl) (by kernel_rfl) (fun _ _ _ h => h) (Or.inl ⟨by rfl, ?_⟩) hHeld ?_
        rotate_left
        · intro w hSw; (try dsimp only at hSw); go_simp; with_reducible rfl
        simp only [Act.put, List.setIfInBounds_toArray, List.set_cons_zero, List.set_cons_succ, List.getElem_toArray, List.getElem_cons_succ, List.getElem_cons_zero]
        refine wpAnyH_take (i := 8) (oi := _) (v := ?_) rfl (by kernel_rfl) (by kernel_rfl) (by kernel_rfl) (fun _ _ _ h => h) (Or.inl ⟨by rfl, ?_⟩) hHeld ?_
        rotate_left
        · intro w hSw; (try dsimp only at hSw); go_simp; with_reducible rfl
        simp only [Act.put, List.setIfInBounds_toArray, List.set_cons_zero, List.set_cons_succ, List.getElem_toArray, List.getElem_cons_succ, List.getElem_cons_zero]
        refine wpAnyH_take (i := 9) (oi := _) (v := ?_) rfl (by kernel_rfl) (by kernel_rfl) (by kernel_rfl) (fun _ _ _ h => h) (Or.inl ⟨by rfl, ?_⟩) hHeld ?_
        rotate_left
        · intro w hSw; (try dsimp only at hSw); go_simp; with_reducible rfl
        simp only [Act.put, List.setIfInBounds_toArray, List.set_cons_zero, List.set_cons_succ, List.getElem_toArray, List.getElem_cons_succ, List.getElem_cons_zero]
        refine wpAnyH_ready (rs := [7]) (by kernel_rfl) (by simp) ?_
        refine AllReadyH.cons (o := _) rfl (fun K hK => ?_) AllReadyH.nil
        go_simp
        refine hK.out _ _ hHeld (fun hHeld => ?_)
        clear hK K
        try simp only [Act.put, List.setIfInBounds_toArray, List.set_cons_zero, List.set_cons_succ, List.getElem_toArray, List.getElem_cons_succ, List.getElem_cons_zero]
        refine wpAnyH_ready (rs := [10]) (by kernel_rfl) (by simp) ?_
        refine AllReadyH.cons (o := _) rfl (fun K hK => ?_) AllReadyH.nil
        (go_simp; go_at_call 109; refine (HUP.out 1).mono ?_; rintro e w9 ⟨A9, n9, c9, rfl, s9, s9', ⟨q, v0⟩, v1, HIO9⟩; go_wp2_with fail)
        refine hK.out _ _ s9 (fun hHeld => ?_)
        clear hK K
        try simp only [Act.put, List.setIfInBounds_toArray, List.set_cons_zero, List.set_cons_succ, List.getElem_toArray, List.getElem_cons_succ, List.getElem_cons_zero]
        refine wpAnyH_take (i := 11) (oi := _) (v := ?_) rfl (by kernel_rfl) (by kernel_rfl) (by kernel_rfl) (fun _ _ _ h => h) (Or.inl ⟨by rfl, ?_⟩) hHeld ?_
        rotate_left
        · intro w hSw; (try dsimp only at hSw); go_simp; with_reducible rfl
        simp only [Act.put, List.setIfInBounds_toArray, List.set_cons_zero, List.set_cons_succ, List.getElem_toArray, List.getElem_cons_succ, List.getElem_cons_zero]
        refine wpAnyH_take (i := 12) (oi := _) (v := ?_) rfl (by kernel_rfl) (by kernel_rfl) (by kernel_rfl) (fun _ _ _ h => h) (Or.inl ⟨by rfl, ?_⟩) hHeld ?_
        rotate_left
        · intro w hSw; (try dsimp only at hSw); go_simp; with_reducible rfl
        simp only [Act.put, List.setIfInBounds_toArray, List.set_cons_zero, List.set_cons_succ, List.getElem_toArray, List.getElem_cons_succ, List.getElem_cons_zero]
        refine wpAnyH_take (i := 13) (oi := _) (v := ?_) rfl (by kernel_rfl) (by kernel_rfl) (by kernel_rfl) (fun _ _ _ h => h) (Or.inl ⟨by rfl, ?_⟩) hHeld ?_
        rotate_left
        · intro w hSw; (try dsimp only at hSw); go_simp; with_reducible rfl
        simp only [Act.put, List.setIfInBounds_toArray, List.set_cons_zero, List.set_cons_succ, List.getElem_toArray, List.getElem_cons_succ, List.getElem_cons_zero]
        refine wpAnyH_take (i := 14) (oi := _) (v := ?_) rfl (by kernel_rfl) (by kernel_rfl) (by kernel_rfl) (fun _ _ _ h => h) (Or.inl ⟨by rfl, ?_⟩) hHeld ?_
        rotate_left
        · intro w hSw; (try dsimp only at hSw); go_simp; with_reducible rfl
        simp only [Act.put, List.setIfInBounds_toArray, List.set_cons_zero, List.set_cons_succ, List.getElem_toArray, List.getElem_cons_succ, List.getElem_cons_zero]
        refine wpAnyH_take (i := 15) (oi := _) (v := ?_) rfl (by kernel_rfl) (by kernel_rfl) (by kernel_rfl) (fun _ _ _ h => h) (Or.inl ⟨by rfl, ?_⟩) hHeld ?_
        rotate_left
        · intro w hSw; (try dsimp only at hSw); go_simp; with_reducible rfl
        simp only [Act.put, List.setIfInBounds_toArray, List.set_cons_zero, List.set_cons_succ, List.getElem_toArray, List.getElem_cons_succ, List.getElem_cons_zero]
        refine wpAnyH_ready (rs := [16]) (by kernel_rfl) (by simp) ?_
        refine AllReadyH.cons (o := _) rfl (fun K hK => ?_) AllReadyH.nil
        go_simp
        refine hK.out _ _ s9' (fun hHeld => ?_)
        clear hK K
        try simp only [Act.put, List.setIfInBounds_toArray, List.set_cons_zero, List.set_cons_succ, List.getElem_toArray, List.getElem_cons_succ, List.getElem_cons_zero]
        refine wpAnyH_take (i := 17) (oi := _) (v := ?_) rfl (by kernel_rfl) (by kernel_rfl) (by kernel_rfl) (fun _ _ _ h => h) (Or.inl ⟨by rfl, ?_⟩) hHeld ?_
        rotate_left
        · intro w hSw; (try dsimp only at hSw); go_simp; with_reducible rfl
        simp only [Act.put, List.setIfInBounds_toArray, List.set_cons_zero, List.set_cons_succ, List.getElem_toArray, List.getElem_cons_succ, List.getElem_cons_zero]
        refine wpAnyH_done (by kernel_rfl) ?_ _
        all_goals
          clear s9 s9'
          go_wp2_with fail
          go_meet
          exact ⟨rfl, HIO9.out⟩
      case rest =>
        obtain ⟨rfl, hex⟩ := hcut
        have HF := Lib.hid hex
        clear hex
        go_wp2_with fail
        go_roundw
        case rel => exact .inr ⟨by go_num, by rw [HTN.out]; exact HF.out⟩
        case measure => simp [intOf]
    · have HF := Lib.hid hfin
      clear hfin
      go_wp2_with fail
      go_ret2
      exact ⟨_, rs', rfl, HF.out⟩
end Go.Proofs.YtefifkleamiabaaGreatDoor
