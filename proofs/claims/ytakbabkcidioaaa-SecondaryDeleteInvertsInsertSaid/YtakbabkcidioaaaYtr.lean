/-
  The walk of tableRows.
-/
import Derived.Test.YtakbabkcidioaaaYm1
import Derived.Test.YtakbabkcidioaaaSk
namespace Go.Proofs.Ytakbabkcidioaaa
open Go.RowKit Go.Sort

/-- A row of indexTable, and the first rows. -/
def trow (i : Nat) (n : Int) : Row := [⟨1, i, ⟨#[]⟩⟩, genT n, genB (n.tdiv 8)]
def trF (ns : List Int) (m : Nat) : List Row := (List.range m).map fun i => trow i (ns.getD i 0)
theorem trF_succ (ns : List Int) (m : Nat) : trF ns (m + 1) = trF ns m ++ [trow m (ns.getD m 0)] := by
  unfold trF
  rw [List.range_succ, List.map_append]
  rfl
/-- The rows made so far, in memory. -/
structure TRel (base : Nat) (w0 w : World) (v : Value) (ks : List Key) (rs : List Row) : Prop where
  own : Own 1 Key.cs 37 base w v ks
  rows : ks.map Key.row = rs
  el : ∀ k ∈ ks, KOk (fun g => base ≤ g ∧ g < w.heap.size ∧ v.ownBlock ≠ some g) w k
  bel : Below base w0 w
  own3 : ∀ k ∈ ks, Own 3 Val.cs 43 base w (.slice k.A k.row.length k.c) k.row ∧ ∀ g, (Value.slice k.A k.row.length k.c).ownBlock = some g → v.ownBlock ≠ some g
def TPost (base : Nat) (w0 w : World) (v : Value) (rs : List Row) : Prop := ∃ ks, TRel base w0 w v ks rs
theorem TRel.push {base : Nat} {w0 wo wc w' : World} {v v' : Value} {ks : List Key} {rs : List Row} {key : Key} (h : TRel base w0 wo v ks rs) (hb : Below wo.heap.size wo wc) (hk : KOk (fun g => wo.heap.size ≤ g ∧ g < wc.heap.size) wc key)
    (hk3 : Own 3 Val.cs 43 wo.heap.size wc (.slice key.A key.row.length key.c) key.row) (ho : Own 1 Key.cs 37 base w' v' (ks ++ [key])) (hx : Ext wc v w' v') (hB : base ≤ wo.heap.size) : TRel base w0 w' v' (ks ++ [key]) (rs ++ [key.row]) := by
  have hvl : ∀ g, v.ownBlock = some g → base ≤ g ∧ g < wo.heap.size := Own.lt h.own
  have hsz := hx.size
  have hbs := hb.size
  have hne : ∀ g, wo.heap.size ≤ g → v.ownBlock ≠ some g := fun g hg e => by have := (hvl g e).2; omega
  have hkept : ∀ (k : Key) {b : Nat}, Own 3 Val.cs 43 b wc (.slice k.A k.row.length k.c) k.row → (∀ g, (Value.slice k.A k.row.length k.c).ownBlock = some g → v.ownBlock ≠ some g) → Own 3 Val.cs 43 b w' (.slice k.A k.row.length k.c) k.row ∧ ∀ g, (Value.slice k.A k.row.length k.c).ownBlock = some g → v'.ownBlock ≠ some g := fun k b o hn => by
    refine ⟨o.kept hx.grown ?_, fun g hg => hx.ne (hn g hg) (Own.lt o g hg).2⟩
    cases hk : (Value.slice k.A k.row.length k.c).ownBlock with
    | none => exact .inl rfl
    | some g => exact .inr fun e => hn g hk e.symm
  refine ⟨ho, by rw [List.map_append, h.rows]; rfl, fun k hm => ?_, ?_, ?_⟩
  · rcases List.mem_append.1 hm with hm | hm
    · have h1 := (h.el k hm).keep (Keeps.of_below hb fun _ h => h.2.1)
      refine (h1.keep (hx.keeps fun g hg => ⟨by omega, fun e => hg.2.2 e.symm⟩)).more fun g hg => ⟨hg.1, by omega, hx.ne hg.2.2 (by omega)⟩
    · rw [List.mem_singleton.1 hm]
      exact (hk.keep (hx.keeps fun g hg => ⟨hg.2, fun e => hne g hg.1 e.symm⟩)).more fun g hg => ⟨by omega, by omega, hx.ne (hne g hg.1) hg.2⟩
  rotate_left
  · intro k hm
    rcases List.mem_append.1 hm with hm | hm
    · exact hkept k ((h.own3 k hm).1.below hb) (h.own3 k hm).2
    · rw [List.mem_singleton.1 hm]
      obtain ⟨o1, o2⟩ := hkept key hk3 fun g hg => hne g (Own.lt hk3 g hg).1
      exact ⟨o1.mono hB, o2⟩
  · exact (h.bel.trans (hb.mono hB)).trans (hx.below (by omega) fun g hg => (hvl g hg).1)

set_option maxRecDepth 100000 in
set_option maxHeartbeats 4000000 in
theorem tableRowsW (A : Option Addr) (c : Nat) (ns : List Int) (w : World) (hx : Elems 1 intCs w (· < w.heap.size) A ns) (hl : ns.length ≤ c) (hcm : c ≤ maxLen) (hok : ∀ n ∈ ns, I64 n) :
    Calls Try.prog 7 #[.slice A ns.length c] w fun e w' => ∃ v, e = .returned v ∧ TPost w.heap.size w w' v (trF ns (min ns.length 24)) := by
  obtain ⟨m, hm⟩ : ∃ m, m = min ns.length 24 := ⟨_, rfl⟩
  have hml : m ≤ ns.length ∧ m ≤ 24 := by omega
  have hmin : min (ns.length : Int) 24 = (m : Int) := by omega
  rw [← hm]
  have HX := Lib.hid hx
  have HOK := Lib.hid hok
  obtain ⟨hm1, hm2⟩ := hml
  have hmc : m ≤ c := by omega
  clear hx hok hm
  unfold maxLen at hcm
  go_enter Try.func7, Try.ntmps7
  go_wp2_with fail
  go_loopw [3, 15] (fun v vi wr => ∃ i : Nat, vi = .int .i64 (i : Int) ∧ i ≤ m ∧ TPost w.heap.size w wr v (trF ns i)) (fun _ vi _ => m - (intOf vi).toNat)
  case atStart => exact ⟨0, rfl, by omega, [], Own.nil _, rfl, (fun k hk => by cases hk), Below.refl _ _, (fun k hk => by cases hk)⟩
  case round =>
    obtain ⟨i, rfl, him, ks, hT⟩ := hrel
    obtain ⟨wo, rfl⟩ : ∃ wo, wo = wr := ⟨_, rfl⟩
    obtain ⟨v3, rfl⟩ : ∃ v3, v3 = u3 := ⟨_, rfl⟩
    by_cases hlt : i < m
    · have hin : i < ns.length := by omega
      have him' : (i : Int) < (m : Int) := by omega
      obtain ⟨b, off, rfl, -, c0⟩ := (HX.out.on (hT.bel)).int hin
      have hni : ns[i] = ns.getD i 0 := by rw [List.getD_eq_getElem?_getD, List.getElem?_eq_getElem hin]; rfl
      have HI6 := Lib.hid (HOK.out _ (List.getElem_mem hin))
      rw [hni] at c0 HI6
      have HS := Lib.hid (trF_succ ns i)
      generalize ns.getD i 0 = n at *
      have HT := Lib.hid hT
      -- the row's first cell
      obtain ⟨W1, hW1⟩ : ∃ W1, W1 = wo.alloc (.cells #[.int .i64 1, .int .i64 (i : Int), .string ⟨#[]⟩] 43) := ⟨_, rfl⟩
      have hb1 : Below wo.heap.size wo W1 := by rw [hW1]; exact (Below.refl _ _).alloc (Nat.le_refl _) _
      have hg1 : W1.heap[wo.heap.size]? = some (.cells #[.int .i64 1, .int .i64 (i : Int), .string ⟨#[]⟩] 43 (0, 0)) := by rw [hW1]; exact heap_alloc_new wo _
      have hs1 : W1.heap.size = wo.heap.size + 1 := by rw [hW1]; simp
      have HO1 : Hid (Own 3 Val.cs 43 wo.heap.size W1 (.slice (some ⟨wo.heap.size, 0, none⟩) 1 1) [⟨1, (i : Int), ⟨#[]⟩⟩]) := Lib.hid (Own.shut valLay (Nat.le_refl _) hg1 rfl (Nat.le_refl _) (by decide) rfl rfl)
      have HB1 := Lib.hid (And.intro hb1 hs1)
      have HIT := Lib.hid (indexTableW W1)
      have HW1 := Lib.hid hW1
      clear hT hb1 hg1 hs1 hW1 hni
      go_upto_region 6 with fail
      rw [← HW1.out]
      go_wp2_with fail
      refine HIT.out.mono ?_
      rintro e w2 ⟨a, p, rfl, htk, hb2⟩
      obtain ⟨ab, aoff, ea, hab1, -⟩ := htk.cols.col (k := 1) (by show 1 < 3; omega)
      injection ea with ea
      injection ea with ea ea'
      subst ea ea'
      have hal : wo.heap.size < a ∧ a < w2.heap.size := by have := HB1.out.2; omega
      obtain ⟨_, _, ea, -, p0, p1, p2⟩ := htk.cols.col (k := 1) (by show 1 < 3; omega)
      injection ea with ea
      injection ea with ea ea'
      subst ea ea'
      obtain ⟨_, _, ea, -, q0, q1, q2⟩ := htk.cols.col (k := 2) (by show 2 < 3; omega)
      injection ea with ea
      injection ea with ea ea'
      subst ea ea'
      have p0 : w2.cell? ⟨a, 3, none⟩ = some (.string ⟨#[116]⟩) := p0
      have p1 : w2.cell? ⟨a, 4, none⟩ = some (.int .i64 3) := p1
      have p2 : w2.cell? ⟨a, 5, none⟩ = some (.bool true) := p2
      have q0 : w2.cell? ⟨a, 6, none⟩ = some (.string ⟨#[98]⟩) := q0
      have q1 : w2.cell? ⟨a, 7, none⟩ = some (.int .i64 2) := q1
      have q2 : w2.cell? ⟨a, 8, none⟩ = some (.bool false) := q2
      have HC := Lib.hid (And.intro p0 (And.intro p1 (And.intro p2 (And.intro q0 (And.intro q1 q2)))))
      have HST : Hid (Own 3 Val.cs 43 wo.heap.size w2 (.slice (some ⟨wo.heap.size, 0, none⟩) 1 1) [⟨1, (i : Int), ⟨#[]⟩⟩] ∧ Below wo.heap.size wo w2 ∧ wo.heap.size < a ∧ a < w2.heap.size ∧ wo.heap.size ≤ w2.heap.size) := Lib.hid ⟨HO1.out.below hb2, HB1.out.1.trans (hb2.mono (by have := HB1.out.2; omega)), hal.1, hal.2, by omega⟩
      clear p0 p1 p2 q0 q1 q2 htk hb2 hal hab1 HIT
      unfold iTbl Tbl.val
      simp only
      rw [show iCols.length = 3 from rfl, show ([0] : List Int).length = 1 from rfl]
      have hfld : (Instr.field 27 (.agg #[.string ⟨#[97]⟩, .slice (some ⟨a, 0, none⟩) 3 3, .slice (some ⟨p, 0, none⟩) 1 1]) 1).run Try.prog w2 = .ok (.slice (some ⟨a, 0, none⟩) 3 3) w2 := by kernel_rfl
      go_wp2_with fail
      go_loopw [5, 6, 27] (fun v5 v6 vk wr => ∃ k : Nat, vk = .int .i64 (k : Int) ∧ k ≤ 2 ∧ v5 = .int .i64 (if k = 0 then n else if k = 1 then n.tdiv 8 else (n.tdiv 8).tdiv 8) ∧ Own 3 Val.cs 43 wo.heap.size wr v6 ((trow i n).take (k + 1)) ∧ Ext w2 (.slice (some ⟨wo.heap.size, 0, none⟩) 1 1) wr v6) (fun _ _ vk _ => 2 - (intOf vk).toNat)
      case atStart => exact ⟨0, rfl, by omega, rfl, HST.out.1, Ext.refl _ _⟩
      case round =>
        obtain ⟨k, rfl, hk2, hv5, ho, hex⟩ := hrel
        obtain ⟨wi, rfl⟩ : ∃ wi, wi = wr := ⟨_, rfl⟩
        obtain ⟨-, -, ha1, ha2, hw2⟩ := HST.out
        rcases k with _ | _ | k
        · have hv5' : u5 = .int .i64 (n) := hv5
          subst hv5'
          obtain ⟨p0, p1, p2, q0, q1, q2⟩ := HC.out
          have hno : (Value.slice (some ⟨wo.heap.size, 0, none⟩) 1 1).ownBlock ≠ some a := fun e => by have e := Option.some.inj (show some wo.heap.size = some a from e); omega
          have d0 := hex.old_cell p0 hno
          have d1 := hex.old_cell p1 hno
          have d2 := hex.old_cell p2 hno
          have hwq : IntKind.i64.wrap ((n).tdiv 8) = (n).tdiv 8 := by
            rw [IntKind.wrap_i64]
            have h1 := HI6.out
            have h2 := h1.tdiv (d := 8) (by omega)
            unfold I64 at h2
            omega
          have HGV := Lib.hid fun W => genTextW (⟨#[116]⟩) (n) W HI6.out
          have hszi := hex.size
          have HO := Lib.hid (And.intro ho (And.intro hex (by omega : wo.heap.size ≤ wi.heap.size)))
          clear p0 p1 p2 q0 q1 q2 hno hszi ho hex hv5
          go_wp2_with fail
          refine (HGV.out _).mono ?_
          rintro e w3 ⟨rfl, hb3⟩
          obtain ⟨W8, hW8⟩ : ∃ W8, W8 = wi.alloc (.cells #[.string ⟨#[116]⟩, .int .i64 3, .bool true] 52) := ⟨_, rfl⟩
          have hbi : Below wi.heap.size wi w3 := ((Below.refl _ _).alloc (Nat.le_refl _) _).trans (hb3.mono (le_size1 (Nat.le_refl _) _))
          have HL1 : Hid ((([⟨1, (i : Int), ⟨#[]⟩⟩] : Row).length + 1) * 32 ≤ 140737488355328) := Lib.hid (by show (1 + 1) * 32 ≤ _; omega)
          have HL2 : Hid (([⟨1, (i : Int), ⟨#[]⟩⟩] : Row).length + 1 ≤ maxLen) := Lib.hid (by show 1 + 1 ≤ _; unfold maxLen; omega)
          have HO3 : Hid (Own 3 Val.cs 43 wo.heap.size w3 u6 ([⟨1, (i : Int), ⟨#[]⟩⟩]) ∧ Ext w2 (.slice (some ⟨wo.heap.size, 0, none⟩) 1 1) w3 u6 ∧ wo.heap.size ≤ w3.heap.size) := Lib.hid ⟨HO.out.1.below hbi, HO.out.2.1.then_below hbi, by have := HO.out.2.2; have := hbi.size; omega⟩
          clear hb3 hbi hW8 d0 d1 d2
          go_wp2_with (at_builtin; refine wpList_app rfl (.tmp 31) (.tmp 35) _ _ rfl rfl rfl (run_push elem_val valLay _ _ _ ([⟨1, (i : Int), ⟨#[]⟩⟩]) (genT n) _ HO3.out.1 rfl HL1.out HL2.out HO3.out.2.2 rfl) ?_; rintro v4 w4 ⟨ho4, hx4⟩)
          have HF : Hid (Own 3 Val.cs 43 wo.heap.size w4 v4 ((trow i n).take (0 + 1 + 1)) ∧ Ext w2 (.slice (some ⟨wo.heap.size, 0, none⟩) 1 1) w4 v4) := Lib.hid ⟨ho4, HO3.out.2.1.trans hx4⟩
          clear ho4 hx4
          go_wp2_with fail
          go_roundw
          case rel => exact ⟨0 + 1, by go_num, by omega, rfl, HF.out.1, HF.out.2⟩
          case measure => simp [intOf]
        · have hv5' : u5 = .int .i64 (n.tdiv 8) := hv5
          subst hv5'
          obtain ⟨p0, p1, p2, q0, q1, q2⟩ := HC.out
          have hno : (Value.slice (some ⟨wo.heap.size, 0, none⟩) 1 1).ownBlock ≠ some a := fun e => by have e := Option.some.inj (show some wo.heap.size = some a from e); omega
          have d0 := hex.old_cell q0 hno
          have d1 := hex.old_cell q1 hno
          have d2 := hex.old_cell q2 hno
          have hwq : IntKind.i64.wrap ((n.tdiv 8).tdiv 8) = (n.tdiv 8).tdiv 8 := by
            rw [IntKind.wrap_i64]
            have h1 := (HI6.out.tdiv (d := 8) (by omega))
            have h2 := h1.tdiv (d := 8) (by omega)
            unfold I64 at h2
            omega
          have HGV := Lib.hid fun W => genBoolW (⟨#[98]⟩) (n.tdiv 8) W (HI6.out.tdiv (d := 8) (by omega))
          have hszi := hex.size
          have HO := Lib.hid (And.intro ho (And.intro hex (by omega : wo.heap.size ≤ wi.heap.size)))
          clear p0 p1 p2 q0 q1 q2 hno hszi ho hex hv5
          go_wp2_with fail
          refine (HGV.out _).mono ?_
          rintro e w3 ⟨rfl, hb3⟩
          obtain ⟨W8, hW8⟩ : ∃ W8, W8 = wi.alloc (.cells #[.string ⟨#[98]⟩, .int .i64 2, .bool false] 52) := ⟨_, rfl⟩
          have hbi : Below wi.heap.size wi w3 := ((Below.refl _ _).alloc (Nat.le_refl _) _).trans (hb3.mono (le_size1 (Nat.le_refl _) _))
          have HL1 : Hid ((([⟨1, (i : Int), ⟨#[]⟩⟩, genT n] : Row).length + 1) * 32 ≤ 140737488355328) := Lib.hid (by show (2 + 1) * 32 ≤ _; omega)
          have HL2 : Hid (([⟨1, (i : Int), ⟨#[]⟩⟩, genT n] : Row).length + 1 ≤ maxLen) := Lib.hid (by show 2 + 1 ≤ _; unfold maxLen; omega)
          have HO3 : Hid (Own 3 Val.cs 43 wo.heap.size w3 u6 ([⟨1, (i : Int), ⟨#[]⟩⟩, genT n]) ∧ Ext w2 (.slice (some ⟨wo.heap.size, 0, none⟩) 1 1) w3 u6 ∧ wo.heap.size ≤ w3.heap.size) := Lib.hid ⟨HO.out.1.below hbi, HO.out.2.1.then_below hbi, by have := HO.out.2.2; have := hbi.size; omega⟩
          clear hb3 hbi hW8 d0 d1 d2
          go_wp2_with (at_builtin; refine wpList_app rfl (.tmp 31) (.tmp 35) _ _ rfl rfl rfl (run_push elem_val valLay _ _ _ ([⟨1, (i : Int), ⟨#[]⟩⟩, genT n]) (genB (n.tdiv 8)) _ HO3.out.1 rfl HL1.out HL2.out HO3.out.2.2 rfl) ?_; rintro v4 w4 ⟨ho4, hx4⟩)
          have HF : Hid (Own 3 Val.cs 43 wo.heap.size w4 v4 ((trow i n).take (1 + 1 + 1)) ∧ Ext w2 (.slice (some ⟨wo.heap.size, 0, none⟩) 1 1) w4 v4) := Lib.hid ⟨ho4, HO3.out.2.1.trans hx4⟩
          clear ho4 hx4
          go_wp2_with fail
          go_roundw
          case rel => exact ⟨1 + 1, by go_num, by omega, rfl, HF.out.1, HF.out.2⟩
          case measure => simp [intOf]
        · have hk0 : k = 0 := by omega
          subst hk0
          obtain ⟨kA, kc, rfl, -, -⟩ := ho.form
          have hky : KOk (fun g => wo.heap.size ≤ g ∧ g < wi.heap.size) wi ⟨kA, kc, trow i n⟩ := ⟨(ho.elems valLay.len rfl).more fun g hg => Own.lt ho g hg, by show 3 ≤ 12; omega⟩
          have hbw : Below wo.heap.size wo wi := HST.out.2.1.trans (hex.below hw2 fun g hg => by have e := Option.some.inj (show some wo.heap.size = some g from hg); omega)
          have HP : Hid (∀ w' v', Own 1 Key.cs 37 w.heap.size w' v' (ks ++ [⟨kA, kc, trow i n⟩]) → Ext wi v3 w' v' → TPost w.heap.size w w' v' (trF ns (i + 1))) := Lib.hid fun w' v' h1 h2 => ⟨_, by rw [HS.out]; exact HT.out.push hbw hky ho h1 h2 HT.out.bel.size⟩
          have HO3 : Hid (Own 1 Key.cs 37 w.heap.size wi v3 ks ∧ w.heap.size ≤ wi.heap.size) := Lib.hid ⟨HT.out.own.below hbw, Nat.le_trans HT.out.bel.size hbw.size⟩
          have hkl : ks.length ≤ 24 := by
            have h := congrArg List.length HT.out.rows
            simp only [trF, List.length_map, List.length_range] at h
            omega
          have HL1 : Hid ((ks.length + 1) * 24 ≤ 140737488355328) := Lib.hid (by omega)
          have HL2 : Hid (ks.length + 1 ≤ maxLen) := Lib.hid (by unfold maxLen; omega)
          clear hky hbw hkl ho hex hv5
          go_wp2_with (at_builtin; refine wpList_app rfl (.tmp 40) (.tmp 42) _ _ rfl rfl rfl (run_push elem_keys keyLay _ _ _ ks ⟨kA, kc, trow i n⟩ _ HO3.out.1 rfl HL1.out HL2.out HO3.out.2 rfl) ?_; rintro v4 w4 ⟨ho4, hx4⟩)
          have HF := Lib.hid (HP.out _ _ ho4 hx4)
          clear ho4 hx4
          go_wp2_with fail
          go_roundw
          case rel => exact ⟨i + 1, by go_num, by omega, HF.out⟩
          case measure => simp [intOf]; omega
    · have hkn' : i = m := by omega
      subst hkn'
      have HF := Lib.hid hT
      clear hT
      go_wp2_with fail
      go_ret
      exact ⟨_, rfl, _, HF.out⟩
end Go.Proofs.Ytakbabkcidioaaa
