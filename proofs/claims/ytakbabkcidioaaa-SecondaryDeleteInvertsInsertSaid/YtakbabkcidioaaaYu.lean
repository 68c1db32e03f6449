/-
  The walk of locate, where the row is there.
-/
import Derived.Test.YtakbabkcidioaaaYh
import Derived.Deep.RegionHeld3
namespace Go.Proofs.Ytakbabkcidioaaa
open Go.RowKit Go.Sort

theorem At.found {α : Type} {row : α → Row} {xs : List α} {t : Row} {i : Nat} {fnd : Bool} (h : At row xs t i fnd) (hs : xs.Pairwise fun a b => rl (row a) (row b)) (hm : ∃ x ∈ xs, row x = t) : fnd = true := by
  obtain ⟨x, hx, hxt⟩ := hm
  rw [h.eq]
  have hd : x ∈ xs.drop i := by
    rw [← List.take_append_drop i xs] at hx
    rcases List.mem_append.1 hx with h1 | h1
    · exact absurd (hxt ▸ h.lo x h1) (rl_irrefl _)
    · exact h1
  cases hdr : xs.drop i with
  | nil => rw [hdr] at hd; cases hd
  | cons y r =>
    refine ⟨y, r, rfl, ?_⟩
    rw [hdr] at hd
    rcases List.mem_cons.1 hd with rfl | h1
    · exact hxt
    · have h2 : (y :: r).Pairwise fun a b => rl (row a) (row b) := by rw [← hdr]; exact hs.sublist (List.drop_sublist i xs)
      have h3 := (List.pairwise_cons.1 h2).1 x h1
      rw [hxt] at h3
      exact absurd h3 (h.hi y (by rw [hdr]; exact List.mem_cons_self))
/-- What locate leaves. -/
def LocPost (w : World) (x : Ix) (vals key : Row) (e : Ending) (w' : World) : Prop := ∃ (i k : Nat) (e0 : EntM), e = .returned (.tuple #[.int .i64 i, .int .i64 k, .bool true]) ∧ x.ents[i]? = some e0 ∧ At (fun e : EntM => e.vals.row) x.ents vals i true ∧ At (fun q : Key => q.row) e0.keys key k true ∧ Below w.heap.size w w'
/-- Between the two searches. -/
def LocA (W : World) (x : Ix) (vals key : Row) (i : Nat) (w3 : World) : Prop := ∃ e0 : EntM, x.ents[i]? = some e0 ∧ At (fun e : EntM => e.vals.row) x.ents vals i true ∧ (∃ q ∈ e0.keys, q.row = key) ∧ Below W.heap.size W w3

set_option maxRecDepth 100000 in
set_option maxHeartbeats 4000000 in
theorem locateW (x : Ix) (A : Option Addr) (c : Nat) (r : Row) (w : World) (hx : IOk (· < w.heap.size) w x) (hv : XVal x) (hr : Elems 3 Val.cs w (· < w.heap.size) A r) (hrow : RowOk x.t r) (hpk : x.t.pk.length ≤ 12) (hcl : x.cols.length ≤ 12) (hm : (keyOf x.cols r, keyOf x.t.pk r) ∈ flatX x.xd) :
    Calls Try.prog 36 #[x.val, .slice A r.length c] w (LocPost w x (keyOf x.cols r) (keyOf x.t.pk r)) := by
  obtain ⟨W1, hW1⟩ : ∃ W1, W1 = w.alloc (.cells x.cells 30) := ⟨_, rfl⟩
  have hb1 : Below w.heap.size w W1 := by rw [hW1]; exact (Below.refl _ _).alloc (Nat.le_refl _) _
  have hg0 : W1.heap[w.heap.size]? = some (.cells x.cells 30 (0, 0)) := by rw [hW1]; exact heap_alloc_new w _
  have hsz : w.heap.size < W1.heap.size := by rw [hW1]; simp
  have hx1 := hx.on hb1
  have hr1 := hr.on hb1
  have hs : x.ents.Pairwise fun a b => rl a.vals.row b.vals.row := by
    have h1 := hv.srt.vals
    unfold Ix.xd at h1
    exact (List.pairwise_map (R := fun a b : XE => rl a.1 b.1) (f := EntM.xe)).1 h1
  have HBX : Hid (∀ W, Below W1.heap.size W1 W → W.cell? ⟨w.heap.size, 0, none⟩ = some (.string x.t.name) ∧ W.cell? ⟨w.heap.size, 1, none⟩ = some (.slice x.t.CA x.t.cols.length x.t.cc) ∧ W.cell? ⟨w.heap.size, 2, none⟩ = some (.slice x.t.PA x.t.pk.length x.t.pc) ∧ W.cell? ⟨w.heap.size, 3, none⟩ = some (.slice x.XA x.cols.length x.xc) ∧ W.cell? ⟨w.heap.size, 4, none⟩ = some (.slice x.EA x.ents.length x.ec)) := Lib.hid fun W hW => Ix.box (w' := W) hg0 (hW.block _ (by omega))
  have hcr : ∀ k ∈ x.cols, 0 ≤ k ∧ k < (r.length : Int) := fun k hk => by rw [hrow.len]; exact hv.cols.rng k hk
  have HPJ : Hid (Calls Try.prog 30 #[.slice A r.length c, .slice x.XA x.cols.length x.xc] W1.drew fun e w2 => ∃ vA vn vc, e = .returned (.slice vA vn vc) ∧ Below W1.heap.size W1 w2 ∧ Hid (Calls Try.prog 31 #[x.val, .slice vA vn vc] w2 fun e w3 => ∃ i : Nat, e = .returned (.tuple #[.int .i64 i, .bool true]) ∧ Below W1.heap.size W1 w3 ∧ Hid (LocA W1 x (keyOf x.cols r) (keyOf x.t.pk r) i w3))) := Lib.hid (by
    have hd : Below W1.heap.size W1 W1.drew := (Below.refl _ _).drew
    refine (secProject A c r x.XA x.xc x.cols W1.drew (hr1.on hd) (hx1.on hd).cols (by omega) hcr).mono ?_
    rintro e w2 ⟨v, rfl, ho, hb2⟩
    have hb2' : Below W1.heap.size W1 w2 := hd.trans hb2
    obtain ⟨vA, vc, rfl, -, -⟩ := ho.form
    refine ⟨vA, _, vc, rfl, hb2', Lib.hid ?_⟩
    refine (searchW x vA vc (keyOf x.cols r) w2 (hx1.on hb2') hs ((ho.elems valLay.len rfl).more fun g hg => (Own.lt ho g hg).2) (by have := hv.sz.ents; omega)).mono ?_
    rintro e w3 ⟨i, fnd, rfl, hat, hb3⟩
    have hf := hat.found hs (by
      obtain ⟨e, he, h1, -⟩ := mem_flatX.1 hm
      obtain ⟨e', he', rfl⟩ := List.mem_map.1 he
      exact ⟨e', he', h1⟩)
    subst hf
    refine ⟨i, rfl, hb2'.trans (hb3.mono hb2'.size), Lib.hid ?_⟩
    obtain ⟨e0, q, h1, h2⟩ := hat.eq.1 rfl
    have hei : x.ents[i]? = some e0 := by
      have := congrArg (fun l => l[0]?) h1
      simpa using this
    refine ⟨e0, hei, hat, ?_, hb2'.trans (hb3.mono hb2'.size)⟩
    obtain ⟨e, he, h3, h4⟩ := mem_flatX.1 hm
    obtain ⟨e', he', rfl⟩ := List.mem_map.1 he
    have hee : e' = e0 := by
      have hm0 := List.mem_of_getElem? hei
      obtain ⟨a, ha, rfl⟩ := List.getElem_of_mem he'
      obtain ⟨b, hb, hbe⟩ := List.getElem_of_mem hm0
      rcases Nat.lt_trichotomy a b with h | h | h
      · have h5 := List.pairwise_iff_getElem.1 hs a b ha hb h
        rw [hbe, h2, show x.ents[a].vals.row = _ from h3] at h5
        exact absurd h5 (rl_irrefl _)
      · subst h; exact hbe
      · have h5 := List.pairwise_iff_getElem.1 hs b a hb ha h
        rw [hbe, h2, show x.ents[a].vals.row = _ from h3] at h5
        exact absurd h5 (rl_irrefl _)
    subst hee
    obtain ⟨q, hq, h5⟩ := List.mem_map.1 h4
    exact ⟨q, hq, h5⟩)
  have HKY : Hid (∀ (i : Nat) (e0 : EntM) (W : World), LocA W1 x (keyOf x.cols r) (keyOf x.t.pk r) i W → x.ents[i]? = some e0 → Calls Try.prog 28 #[x.t.val, .slice A r.length c] W.drew fun e w4 => ∃ kA kn kc, e = .returned (.slice kA kn kc) ∧ Below W1.heap.size W1 w4 ∧ Hid (Calls Try.prog 33 #[.slice e0.KA e0.keys.length e0.kc, .slice kA kn kc, .func (.func 26) #[] #[]] w4 fun e w5 => ∃ k : Nat, e = .returned (.tuple #[.int .i64 k, .bool true]) ∧ Below W1.heap.size W1 w5 ∧ Hid (LocPost w x (keyOf x.cols r) (keyOf x.t.pk r) (.returned (.tuple #[.int .i64 i, .int .i64 k, .bool true])) w5))) := Lib.hid (by
    rintro i e0 W ⟨e1, he1, hat, hmem, hbW⟩ he0
    rw [he1] at he0
    injection he0 with he0
    subst he0
    have hbd : Below W1.heap.size W1 W.drew := hbW.trans ((Below.refl _ _).drew)
    refine (relKey x.t A c r W.drew (hx1.on hbd).t (hr1.on hbd) (by omega)).mono ?_
    rintro e w4 ⟨v, rfl, ho, hb4⟩
    obtain ⟨kA, kc, rfl, -, -⟩ := ho.form
    have hb4' : Below W1.heap.size W1 w4 := hbd.trans (hb4.mono hbd.size)
    have hx4 := hx1.on hb4'
    have hm1 := List.mem_of_getElem? he1
    have hks := (hv.srt.keys _ (List.mem_map_of_mem hm1)).2
    refine ⟨kA, _, kc, rfl, hb4', Lib.hid ?_⟩
    refine (bsKeys e1.KA e1.kc e1.keys kA kc (keyOf x.t.pk r) w4 _ _ (hx4.ent _ hm1).keys (fun _ h => h) (fun _ h => h) ((hx4.ent _ hm1).key) ((List.pairwise_map (R := rl) (f := Key.row)).1 hks) ((ho.elems valLay.len rfl).more fun g hg => (Own.lt ho g hg).2) (by have := hv.sz.keys _ hm1; omega)).mono ?_
    rintro e w5 ⟨k, fnd, rfl, hatk, hb5⟩
    have hf := hatk.found ((List.pairwise_map (R := rl) (f := Key.row)).1 hks) hmem
    subst hf
    have hb5' : Below W1.heap.size W1 w5 := hb4'.trans (hb5.mono hb4'.size)
    exact ⟨k, rfl, hb5', Lib.hid ⟨i, k, e1, rfl, he1, hat, hatk, hb1.trans (hb5'.mono hb1.size)⟩⟩)
  have HEN : Hid (∀ (i : Nat) (W : World), LocA W1 x (keyOf x.cols r) (keyOf x.t.pk r) i W → ∃ (e0 : EntM) (b off : Nat), x.ents[i]? = some e0 ∧ x.EA = some ⟨b, off, none⟩ ∧ i < x.ents.length ∧ (∀ V, Below W1.heap.size W1 V → V.cell? ⟨b, off + i * 2 + 1, none⟩ = some (.slice e0.KA e0.keys.length e0.kc))) := Lib.hid (by
    rintro i W ⟨e0, he0, -, -, -⟩
    have hi : i < x.ents.length := (List.getElem?_eq_some_iff.1 he0).1
    have hei : x.ents[i] = e0 := (List.getElem?_eq_some_iff.1 he0).2
    obtain ⟨b, off, hA, -, -, -⟩ := hx1.ents.entM hi
    refine ⟨e0, b, off, he0, hA, hi, fun V hV => ?_⟩
    obtain ⟨b', off', hA', -, -, h⟩ := (hx1.on hV).ents.entM hi
    rw [hA] at hA'
    injection hA' with hA'
    injection hA' with q1 q2
    subst q1 q2
    rw [hei] at h
    exact h)
  have HW1 := Lib.hid hW1
  clear hx hv hr hrow hm hW1 hb1 hg0 hsz hx1 hr1 hs hcr hpk hcl
  obtain ⟨vals, hvals⟩ : ∃ vals, vals = keyOf x.cols r := ⟨_, rfl⟩
  obtain ⟨kr, hkr⟩ : ∃ kr, kr = keyOf x.t.pk r := ⟨_, rfl⟩
  rw [← hvals, ← hkr]
  rw [← hvals, ← hkr] at HPJ HKY HEN
  clear hvals hkr
  generalize r.length = rn at *
  obtain ⟨⟨name, CA, cc, tc, PA, pc, pk⟩, XA, xc, cols, EA, ec, ents⟩ := x
  unfold Ix.val
  unfold Ix.cells at HW1 ⊢
  simp only [Tbl.val, Ix.val, Ix.cells] at HBX HPJ HKY HEN HW1 ⊢
  go_enter Try.func36, Try.ntmps36
  go_upto_region 1 with fail
  rw [← HW1.out]
  obtain ⟨x0, x1, x2, x3, x4⟩ := HBX.out W1 (Below.refl _ _)
  go_region_held3 (fun w' => w'.cell? ⟨w.heap.size, 0, none⟩ = some (.string name) ∧ w'.cell? ⟨w.heap.size, 1, none⟩ = some (.slice CA tc.length cc) ∧ w'.cell? ⟨w.heap.size, 2, none⟩ = some (.slice PA pk.length pc) ∧ w'.cell? ⟨w.heap.size, 3, none⟩ = some (.slice XA cols.length xc) ∧ w'.cell? ⟨w.heap.size, 4, none⟩ = some (.slice EA ents.length ec)) (go_keep) (first
    | (go_at_call 30; (with_reducible refine HPJ.out.mono ?_); rintro e w2 ⟨vA, vn, vc, rfl, hb2, HSR⟩; obtain ⟨y0, y1, y2, y3, y4⟩ := HBX.out w2 hb2; have HB2 := Lib.hid hb2; clear hb2)
    | (go_at_call 31; (with_reducible refine HSR.out.mono ?_); rintro e w3 ⟨i, rfl, hb3, HLA⟩; obtain ⟨z0, z1, z2, z3, z4⟩ := HBX.out w3 hb3; have HB3 := Lib.hid hb3; clear hb3))
  all_goals
    clear x0 x1 x2 x3 x4 HPJ HSR y0 y1 y2 y3 y4
    obtain ⟨e0, eb, eo, hei, rfl, hin, hec⟩ := HEN.out i w3 HLA.out
    have HK := Lib.hid (HKY.out i e0 w3 HLA.out hei)
    have ec0 := hec w3 HB3.out
    have HEC := Lib.hid hec
    have hil : (i : Int) < (ents.length : Int) := by omega
    have hi0 : (0 : Int) ≤ (i : Int) := by omega
    generalize ents.length = en at *
    clear hec hei HKY HEN
    obtain ⟨⟨fvA, fvc, fvr⟩, fKA, fkc, fks⟩ := e0
    simp only at ec0 HK HEC
    generalize fks.length = fn at *
    go_upto_region 4 with fail
    go_region_held3 (fun w' => w'.cell? ⟨w.heap.size, 0, none⟩ = some (.string name) ∧ w'.cell? ⟨w.heap.size, 1, none⟩ = some (.slice CA tc.length cc) ∧ w'.cell? ⟨w.heap.size, 2, none⟩ = some (.slice PA pk.length pc) ∧ w'.cell? ⟨w.heap.size, 4, none⟩ = some (.slice (some ⟨eb, eo, none⟩) en ec) ∧ w'.cell? ⟨eb, eo + i * 2 + 1, none⟩ = some (.slice fKA fn fkc)) (go_keep) (first
      | (go_at_call 28; (with_reducible refine HK.out.mono ?_); rintro e w4 ⟨kA, kn, kc, rfl, hb4, HBS⟩; obtain ⟨y0, y1, y2, y3, y4⟩ := HBX.out w4 hb4; have ec1 := HEC.out w4 hb4; have HB4 := Lib.hid hb4; clear hb4)
      | (go_at_call 33; (with_reducible refine HBS.out.mono ?_); rintro e w5 ⟨k, rfl, hb5, HLP⟩; obtain ⟨s0, s1, s2, s3, s4⟩ := HBX.out w5 hb5; have ec2 := HEC.out w5 hb5; have HB5 := Lib.hid hb5; clear hb5))
    all_goals
      clear z0 z1 z2 z3 z4 ec0 y0 y1 y2 y3 y4 ec1 s0 s1 s2 s3 s4 ec2
      go_wp2_with fail
      go_ret3
      exact HLP.out
end Go.Proofs.Ytakbabkcidioaaa
