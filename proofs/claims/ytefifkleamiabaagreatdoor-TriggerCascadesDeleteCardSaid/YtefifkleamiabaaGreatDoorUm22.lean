/-
  ApplyChanges and Expand over the base schema, side by side; plain steps for the laws of triggers; deleteOrder.
  The walk of TriggerWithoutTriggersIsApply.
  The form's reach bounds a slice of integers.
  Expand with deleteOrder: what it applies, replayed. A list with one trigger.
  The walk of TriggerExpansionReplays.
-/
import Derived.Test.YtefifkleamiabaaGreatDoorUm20
import Derived.Test.YtefifkleamiabaaGreatDoorUm21
import Derived.Test.YtefifkleamiabaaGreatDoorUm01
import Derived.SizedLaws
import Derived.Deep.Slices
namespace Go.Proofs.YtefifkleamiabaaGreatDoor
open Go.RowKit Go.Sort

theorem runN_snoc : ∀ (xs : List ChM) (R R1 : Nat → List Row) (c : ChM), runN xs R = some R1 → stopN c R1 = false → runN (xs ++ [c]) R = some (nextB c R1)
  | [], R, R1, c, h, hs => by
    have h : some R = some R1 := h
    injection h with h
    subst h
    show (if stopN c R = true then none else some (nextB c R)) = _
    rw [hs]
    rfl
  | x :: xs, R, R1, c, h, hs => by
    rw [List.cons_append]
    unfold runN at h ⊢
    by_cases hx : stopN x R = true
    · rw [if_pos hx] at h; cases h
    · rw [if_neg hx] at h ⊢
      exact runN_snoc xs _ R1 c h hs
theorem runN_stop : ∀ (xs ys : List ChM) (R R1 : Nat → List Row) (c : ChM), runN xs R = some R1 → stopN c R1 = true → runN (xs ++ c :: ys) R = none
  | [], ys, R, R1, c, h, hs => by
    have h : some R = some R1 := h
    injection h with h
    subst h
    show (if stopN c R = true then none else runN ys (nextB c R)) = _
    rw [if_pos hs]
  | x :: xs, ys, R, R1, c, h, hs => by
    rw [List.cons_append]
    unfold runN at h ⊢
    by_cases hx : stopN x R = true
    · rw [if_pos hx]
    · rw [if_neg hx] at h ⊢
      exact runN_stop xs ys _ R1 c h hs
theorem nextB_d {c c' : ChM} (h : c'.d = c.d) (R : Nat → List Row) : nextB c' R = nextB c R := by
  obtain ⟨h1, h2⟩ := Prod.mk.inj h
  obtain ⟨h2, h3⟩ := Prod.mk.inj h2
  obtain ⟨h3, h4⟩ := Prod.mk.inj h3
  unfold nextB tiOf kkOf
  rw [h1, h2, h3, h4]
/-- Two instances with the same rows. -/
theorem instEqB {R R' : Nat → List Row} {v v' : Value} (w : World) (h : InB R w v) (h' : InB R' w v') (hb : BG R) (he : ∀ i, i < 2 → R i = R' i) :
    Calls Tryz.prog 14 #[v, v'] w fun e w' => e = .returned (.bool true) ∧ Below w.heap.size w w' := by
  obtain ⟨A, c, A0, c0, k0, A1, c1, k1, rfl, h1, e0, e1⟩ := h
  obtain ⟨B, d, B0, d0, j0, B1, d1, j1, rfl, h2, f0, f1⟩ := h'
  refine (instancesEqualK A B c d 2 [⟨nItem, A0, c0, k0⟩, ⟨nOrder, A1, c1, k1⟩] [⟨nItem, B0, d0, j0⟩, ⟨nOrder, B1, d1, j1⟩] w h1 h2 ?_ rfl (by omega) fun r hr => ?_).mono ?_
  · show [(nItem, k0.map Key.row), (nOrder, k1.map Key.row)] = [(nItem, j0.map Key.row), (nOrder, j1.map Key.row)]
    rw [e0, e1, f0, f1, he 0 (by omega), he 1 (by omega)]
  · have g0 := hb.len (i := 0) (by omega)
    have g1 := hb.len (i := 1) (by omega)
    rw [← e0, List.length_map] at g0
    rw [← e1, List.length_map] at g1
    simp only [List.mem_cons, List.not_mem_nil, or_false] at hr
    rcases hr with rfl | rfl
    · show k0.length ≤ 1000; omega
    · show k1.length ≤ 1000; omega
  · rintro e w' ⟨rfl, n, rfl⟩
    exact ⟨rfl, below_drewN (Below.refl _ _) n⟩

/-- What ApplyChanges answers, told by sorted rows. -/
def ApAns (R : Nat → List Row) (cs : List ChM) (W : World) (e : Ending) (w' : World) : Prop :=
  Below W.heap.size W w' ∧ ((∃ R2 v', runN cs R = some R2 ∧ e = .returned (.tuple #[v', .int .i64 0]) ∧ InB R2 w' v' ∧ BG R2) ∨ (runN cs R = none ∧ e = .returned (.tuple #[.slice none 0 0, .int .i64 9])))
theorem applyB {T IA IP OA OP F FC N : Option Addr} {R : Nat → List Row} {v : Value} {A : Option Addr} {c : Nat} {cs : List ChM} (W : World) (hs : ScOk (· < W.heap.size) W (bSc T IA IP OA OP F FC N)) (hi : InB R W v) (hR : BG R) (hel : Elems 4 ChM.cs W (· < W.heap.size) A cs) (hco : ∀ x ∈ cs, ChOk (· < W.heap.size) W x) (hf : ∀ x ∈ cs, FitB x) (hl : cs.length ≤ 24) :
    Calls Tryz.prog 11 #[.agg #[.slice T 2 2, .slice F 1 1, .slice N 1 1], v, .slice A cs.length c] W (ApAns R cs W) := by
  refine (rApplyB (bSc T IA IP OA OP F FC N) v A c cs R W hs ⟨IA, IP, OA, OP, rfl⟩ (fun W2 h2 => rValidateSchema _ W2 (hs.on h2) bSc_ref) hi hR hel hco hl hf).mono ?_
  rintro e w' ⟨hb, hcase⟩
  refine ⟨hb, ?_⟩
  rcases runN_runB cs R R hR (fun i _ => List.Perm.refl _) hf with ⟨h1, h2⟩ | ⟨R1, U1, h1, h2, hb1, hp⟩
  · rcases hcase with ⟨R', Rs, v', h3, -⟩ | ⟨-, rfl⟩
    · rw [h2] at h3; cases h3
    · exact .inr ⟨h1, rfl⟩
  · rcases hcase with ⟨R', Rs, v', h3, rfl, hin, hbs, hps⟩ | ⟨h3, -⟩
    · rw [h2] at h3
      injection h3 with h3
      subst h3
      have he : ∀ i, i < 2 → Rs i = R1 i := fun i hi => srt_eq (hbs.srt i hi) (hb1.srt i hi) ((hps i hi).trans (hp i hi).symm)
      refine .inl ⟨R1, v', h1, rfl, ?_, hb1⟩
      obtain ⟨A', c', A0, c0, k0, A1, c1, k1, rfl, hh, e0, e1⟩ := hin
      exact ⟨A', c', A0, c0, k0, A1, c1, k1, rfl, hh, by rw [e0, he 0 (by omega)], by rw [e1, he 1 (by omega)]⟩
    · rw [h2] at h3; cases h3
theorem bSc_bv {T IA IP OA OP F FC N : Option Addr} : BV (bSc T IA IP OA OP F FC N) := ⟨bSc_val, IA, IP, OA, OP, rfl⟩

/-- Expand at an instance of the base schema. -/
theorem expandB {trig : Bool} {ts : List Tr} (hT : Trg trig ts) {T IA IP OA OP F FC N : Option Addr} {R : Nat → List Row} {v : Value} {TA CA : Option Addr} {tc cc : Nat} {cs : List ChM} (Inv : Nat → List ChM → (Nat → List Row) → Prop) (W : World) (hs : ScOk (· < W.heap.size) W (bSc T IA IP OA OP F FC N)) (htg : TgOk (· < W.heap.size) W TA ts) (hi : InB R W v) (hR : BG R) (hel : Elems 4 ChM.cs W (· < W.heap.size) CA cs) (hco : ∀ x ∈ cs, ChOk (· < W.heap.size) W x) (hf : ∀ x ∈ cs, FitB x) (hl : cs.length ≤ 8)
    (h0 : Inv 0 [] R) (hstep : ∀ i qs R' ch' ds R2, (hi : i < cs.length) → Inv i qs R' → BG R' → ch'.d = cs[i].d → FitB ch' → stopN ch' R' = false → Casc (fires trig ch') ch' R' ds R2 → Inv (i + 1) (qs ++ ch' :: ds) R2) (hlen : ∀ i qs R', Inv i qs R' → qs.length ≤ 2 * i) :
    Calls Tryz.prog 12 #[.agg #[.slice T 2 2, .slice F 1 1, .slice N 1 1], v, .slice TA ts.length tc, .slice CA cs.length cc] W (ExpA Inv cs W) := by
  obtain ⟨A, c, A0, c0, k0, A1, c1, k1, rfl, hin, e0, e1⟩ := hi
  refine expandN hT (bSc T IA IP OA OP F FC N) TA A CA tc c cc [⟨nItem, A0, c0, k0⟩, ⟨nOrder, A1, c1, k1⟩] cs R Inv W bSc_bv hs htg (fun t ht => ?_) hin ?_ hR hel hco hf hl h0 hstep hlen
  · rcases hT with ⟨-, rfl⟩ | ⟨-, RA, RB, rfl⟩
    · cases ht
    · rw [List.mem_singleton.1 ht]; exact tDel_ok
  · show [(nItem, k0.map Key.row), (nOrder, k1.map Key.row)] = bD R
    rw [e0, e1]
    rfl
/-- A list of changes of the call's own, as Expand and ApplyChanges want it. -/
theorem CO.open_ {base : Nat} {w0 w : World} {A : Option Addr} {c : Nat} {cs : List ChM} (h : CO base w0 w (.slice A cs.length c) cs) : Elems 4 ChM.cs w (· < w.heap.size) A cs ∧ (∀ x ∈ cs, ChOk (· < w.heap.size) w x) ∧ ∀ x ∈ cs, FitB x :=
  ⟨(h.own.elems chmLay.len rfl).more fun g hg => (Own.lt h.own g hg).2, fun x hx => ⟨(h.part x hx).1.more fun _ hg => hg.2.1, (h.part x hx).2.more fun _ hg => hg.2.1⟩, h.fit⟩
/-- Without triggers: the changes as they came. -/
def Inv0 (cs : List ChM) (R : Nat → List Row) (i : Nat) (qs : List ChM) (R' : Nat → List Row) : Prop := runN (cs.take i) R = some R' ∧ qs.map ChM.d = (cs.take i).map ChM.d ∧ qs.length = i
theorem inv0_step {cs : List ChM} {R : Nat → List Row} (i : Nat) (qs : List ChM) (R' : Nat → List Row) (ch' : ChM) (ds : List ChM) (R2 : Nat → List Row) (hi : i < cs.length) (h : Inv0 cs R i qs R') (hd : ch'.d = cs[i].d) (hst : stopN ch' R' = false) (hc : Casc false ch' R' ds R2) : Inv0 cs R (i + 1) (qs ++ ch' :: ds) R2 := by
  obtain ⟨h1, h2, h3⟩ := h
  rcases hc with ⟨rfl, rfl, -⟩ | ⟨e, -⟩
  · refine ⟨?_, ?_, by rw [List.length_append, h3]; rfl⟩
    · rw [List.take_succ_eq_append_getElem hi, nextB_d hd]
      exact runN_snoc _ _ _ _ h1 (by rw [← stopN_d hd]; exact hst)
    · rw [List.take_succ_eq_append_getElem hi, List.map_append, List.map_append, h2]
      show _ ++ [ch'.d] = _ ++ [cs[i].d]
      rw [hd]
  · cases e
theorem inv0_stop {cs : List ChM} {R : Nat → List Row} {i : Nat} {qs : List ChM} {R' : Nat → List Row} (hi : i < cs.length) (h : Inv0 cs R i qs R') (hst : stopN cs[i] R' = true) : runN cs R = none := by
  have e : cs = cs.take i ++ cs[i] :: cs.drop (i + 1) := by rw [← List.drop_eq_getElem_cons hi, List.take_append_drop]
  rw [e]
  exact runN_stop _ _ _ _ _ h.1 hst
/-- What Expand answers without triggers. -/
def Ex0 (R : Nat → List Row) (cs : List ChM) (w : World) (e : Ending) (w' : World) : Prop :=
  Below w.heap.size w w' ∧ ((∃ R2 qs QA qc v, runN cs R = some R2 ∧ e = .returned (.tuple #[.slice QA cs.length qc, v, .int .i64 0]) ∧ qs.map ChM.d = cs.map ChM.d ∧ qs.length = cs.length ∧ BG R2 ∧ Elems 4 ChM.cs w' (· < w'.heap.size) QA qs ∧ (∀ q ∈ qs, ChOk (· < w'.heap.size) w' q) ∧ InB R2 w' v)
    ∨ (runN cs R = none ∧ e = .returned (.tuple #[.slice none 0 0, .slice none 0 0, .int .i64 9])))
theorem expand0 {T IA IP OA OP F FC N : Option Addr} {R : Nat → List Row} {v : Value} {CA : Option Addr} {cc : Nat} {cs : List ChM} (W : World) (hs : ScOk (· < W.heap.size) W (bSc T IA IP OA OP F FC N)) (hi : InB R W v) (hR : BG R) (hel : Elems 4 ChM.cs W (· < W.heap.size) CA cs) (hco : ∀ x ∈ cs, ChOk (· < W.heap.size) W x) (hf : ∀ x ∈ cs, FitB x) (hl : cs.length ≤ 8) :
    Calls Tryz.prog 12 #[.agg #[.slice T 2 2, .slice F 1 1, .slice N 1 1], v, .slice none 0 0, .slice CA cs.length cc] W (Ex0 R cs W) := by
  have htg : TgOk (· < W.heap.size) W none [] := ⟨((Own.nil (sz := 3) (cs := Tr.cs) (base := 0) (e := 60) W).elems trLay.len rfl).more (fun g hg => by cases hg), (fun t ht => by cases ht)⟩
  refine (expandB (trig := false) (ts := []) (.inl ⟨rfl, rfl⟩) (Inv0 cs R) W hs htg hi hR hel hco hf hl ⟨rfl, rfl, rfl⟩ (fun i qs R' ch' ds R2 hi h _ hd _ hst hc => inv0_step i qs R' ch' ds R2 hi h hd hst hc) (fun i qs R' h => by rw [h.2.2]; omega)).mono ?_
  rintro e w' (⟨qs, R2, QA, qc, v', rfl, ⟨h1, h2, h3⟩, hb2, hel2, hco2, hin2, hb⟩ | ⟨i, qs, R', hi, hinv, -, hst, rfl, hb⟩)
  · rw [List.take_length] at h1 h2
    rw [h3]
    exact ⟨hb, .inl ⟨R2, qs, QA, qc, v', h1, rfl, h2, h3, hb2, hel2, hco2, hin2⟩⟩
  · exact ⟨hb, .inr ⟨inv0_stop hi hinv hst, rfl⟩⟩

theorem ret_do {a b c : Value} {g : Nat} {w : World} (tmps : Array Value) (hp : tmps.getD 0 undef = .pointer (some ⟨g, 0, none⟩)) (hg : w.heap[g]? = some (.cells #[a, b, c] 44 (0, 0))) :
    (results Tryz.f15 tmps).run Tryz.prog w = .ok (.agg #[a, b, c]) w :=
  results_cell_row (P := Tryz.prog) Tryz.results15 tmps w g 44 _ (0, 0) _ hp hg Tryz.underlying44 rfl (by kernel_rfl)
set_option maxRecDepth 100000 in
theorem deleteOrderW (w : World) :
    Calls Tryz.prog 15 #[] w fun e w' => ∃ RA RB, e = .returned (.agg #[.int .i64 2, .string nItem, .slice RA 1 1]) ∧ TrOk (· < w'.heap.size) w' (tDel RA RB) ∧ Below w.heap.size w w' := by
  go_enter Tryz.func15, Tryz.ntmps15
  go_wp2_with fail
  obtain ⟨w1, hw1⟩ : ∃ w1, w1 = w.alloc (.cells #[.int .i64 2, .string ⟨#[105, 116, 101, 109]⟩, .slice (some ⟨w.heap.size + 1 + 1, 0, none⟩) 1 1] 44) := ⟨_, rfl⟩
  have hb1 : Below w.heap.size w w1 := by rw [hw1]; exact (Below.refl _ _).alloc (Nat.le_refl _) _
  have hs1 : w1.heap.size = w.heap.size + 1 := by rw [hw1]; simp
  have hg1 : w1.heap[w.heap.size]? = some (.cells #[.int .i64 2, .string ⟨#[105, 116, 101, 109]⟩, .slice (some ⟨w.heap.size + 1 + 1, 0, none⟩) 1 1] 44 (0, 0)) := by rw [hw1]; exact heap_alloc_new w _
  obtain ⟨w2, hw2⟩ : ∃ w2, w2 = w1.alloc (.cells #[.int .i64 0, .int .i64 0, .int .i64 0, .string ⟨#[]⟩] 102) := ⟨_, rfl⟩
  have hb2 : Below w1.heap.size w1 w2 := by rw [hw2]; exact (Below.refl _ _).alloc (Nat.le_refl _) _
  have hs2 : w2.heap.size = w.heap.size + 1 + 1 := by rw [hw2, ← hs1]; simp
  have hg2 : w2.heap[w.heap.size + 1]? = some (.cells #[.int .i64 0, .int .i64 0, .int .i64 0, .string ⟨#[]⟩] 102 (0, 0)) := by rw [hw2, ← hs1]; exact heap_alloc_new w1 _
  obtain ⟨w3, hw3⟩ : ∃ w3, w3 = w2.alloc (.cells #[.int .i64 2, .string ⟨#[111, 114, 100, 101, 114]⟩, .slice (some ⟨w.heap.size + 1, 0, none⟩) 1 1] 105) := ⟨_, rfl⟩
  have hb3 : Below w2.heap.size w2 w3 := by rw [hw3]; exact (Below.refl _ _).alloc (Nat.le_refl _) _
  have hs3 : w3.heap.size = w.heap.size + 1 + 1 + 1 := by rw [hw3, ← hs2]; simp
  have hg3 : w3.heap[w.heap.size + 1 + 1]? = some (.cells #[.int .i64 2, .string ⟨#[111, 114, 100, 101, 114]⟩, .slice (some ⟨w.heap.size + 1, 0, none⟩) 1 1] 105 (0, 0)) := by rw [hw3, ← hs2]; exact heap_alloc_new w2 _
  have hg13 : w3.heap[w.heap.size]? = _ := (hb3.block _ (by omega)).trans ((hb2.block _ (by omega)).trans hg1)
  have hg23 : w3.heap[w.heap.size + 1]? = _ := (hb3.block _ (by omega)).trans hg2
  rw [← hw1, ← hw2, ← hw3]
  refine bodyPost_ret (ret_do _ rfl hg13) rfl ⟨some ⟨w.heap.size + 1 + 1, 0, none⟩, some ⟨w.heap.size + 1, 0, none⟩, rfl, ⟨?_, fun a ha => ?_⟩, (hb1.trans (hb2.mono (by omega))).trans (hb3.mono (by omega))⟩
  · exact (elems_block acLay (xs := (tDel (some ⟨w.heap.size + 1 + 1, 0, none⟩) (some ⟨w.heap.size + 1, 0, none⟩)).acts) hg3 rfl (by show 1 ≤ maxLen; decide) rfl).more fun k hk => by
      have hk : k = _ := hk
      rw [hk]; omega
  · have ha : a = _ := List.mem_singleton.1 ha
    subst ha
    exact (elems_block opdLay (xs := [0]) hg23 rfl (by show 1 ≤ maxLen; decide) rfl).more fun k hk => by
      have hk : k = _ := hk
      rw [hk]; omega
end Go.Proofs.YtefifkleamiabaaGreatDoor

namespace Go.Proofs.YtefifkleamiabaaGreatDoor
open Go.RowKit Go.Sort

set_option maxRecDepth 100000 in
set_option maxHeartbeats 8000000 in
theorem tww_law (A B : Option Addr) (c d : Nat) (xs ys : List Int) (w : World) (hx : Elems 1 intCs w (· < w.heap.size) A xs) (hok : ∀ x ∈ xs, I64 x) (hxc : xs.length ≤ c) (hxs : xs.length * 8 ≤ reachBytes) (hy : Elems 1 intCs w (· < w.heap.size) B ys) (hoky : ∀ x ∈ ys, I64 x) (hys : ys.length * 8 ≤ reachBytes) :
    Calls Tryz.prog 3 #[.slice A xs.length c, .slice B ys.length d] w fun e w' => e = .returned (.bool true) ∧ Below w.heap.size w w' := by
  have hrb : reachBytes ≤ 140737488355320 := by decide
  have HX := Lib.hid hx
  have HY := Lib.hid hy
  have HOK := Lib.hid hok
  have HOKY : Hid (∀ n ∈ [9] ++ ys, I64 n) := Lib.hid fun n hn => by
    rcases List.mem_append.1 hn with h | h
    · rw [List.mem_singleton.1 h]; unfold I64; omega
    · exact hoky n h
  have HL : Hid ((xs.length : Int) ≤ 9223372036854775807 ∧ xs.length ≤ c) := Lib.hid ⟨by omega, hxc⟩
  obtain ⟨N, hN⟩ : ∃ N, xs.length = N := ⟨_, rfl⟩
  obtain ⟨M, hM⟩ : ∃ M, ys.length = M := ⟨_, rfl⟩
  have H1 : Hid ((([9] : List Int).length + ys.length) * 8 ≤ 140737488355328) := Lib.hid (by simp; omega)
  have H2 : Hid (([9] : List Int).length + ys.length ≤ maxLen) := Lib.hid (by unfold maxLen; simp; omega)
  have HBI := Lib.hid fun W (hW : Below w.heap.size w W) => baseInstanceW A c xs W (HX.out.on hW) HOK.out HL.out.1 HL.out.2
  rw [hN] at HBI
  rw [hN, hM]
  have HM : Hid (M = ys.length) := Lib.hid hM.symm
  clear hx hy hok hoky hxc hxs hys hN hM hrb
  go_enter Tryz.func3, Tryz.ntmps3
  go_wp2_with fail
  refine (baseSchemaW w).mono ?_
  rintro e w1 ⟨T, IA, IP, OA, OP, F, FC, N2, rfl, hs1, hb1⟩
  rw [show (bSc T IA IP OA OP F FC N2).v = .agg #[.slice T 2 2, .slice F 1 1, .slice N2 1 1] from rfl]
  have HS1 := Lib.hid (And.intro hs1 hb1)
  clear hs1 hb1
  go_wp2_with fail
  refine (HBI.out w1 HS1.out.2).mono ?_
  rintro e w2 ⟨R, v2, rfl, hbg, hin, hb2⟩
  obtain ⟨w3, hw3⟩ : ∃ w3, w3 = w2.alloc (.cells #[.slice T 2 2, .slice F 1 1, .slice N2 1 1] 27) := ⟨_, rfl⟩
  have hb3 : Below w2.heap.size w2 w3 := by rw [hw3]; exact (Below.refl _ _).alloc (Nat.le_refl _) _
  have hg3 : w3.heap[w2.heap.size]? = some (.cells #[.slice T 2 2, .slice F 1 1, .slice N2 1 1] 27 (0, 0)) := by rw [hw3]; exact heap_alloc_new w2 _
  have hs3 : w2.heap.size < w3.heap.size := by rw [hw3]; simp
  have hb13 := hb2.trans (hb3.mono hb2.size)
  have hb03 := HS1.out.2.trans (hb13.mono HS1.out.2.size)
  have HBX : Hid (∀ W, Below w3.heap.size w3 W → W.cell? ⟨w2.heap.size, 0, none⟩ = some (.slice T 2 2) ∧ W.cell? ⟨w2.heap.size, 1, none⟩ = some (.slice F 1 1) ∧ W.cell? ⟨w2.heap.size, 2, none⟩ = some (.slice N2 1 1)) := Lib.hid fun W hW => by
    have h := (hW.block _ hs3).trans hg3
    exact ⟨cell_of_row _ _ 0 _ _ _ h, cell_of_row _ _ 1 _ _ _ h, cell_of_row _ _ 2 _ _ _ h⟩
  have HSC : Hid (∀ W, Below w3.heap.size w3 W → ScOk (· < W.heap.size) W (bSc T IA IP OA OP F FC N2)) := Lib.hid fun W hW => (HS1.out.1.on hb13).on hW
  have HIN : Hid (∀ W, Below w3.heap.size w3 W → InB R W v2) := Lib.hid fun W hW => (hin.on hb3).on hW
  have HBG := Lib.hid hbg
  have HB3 := Lib.hid hb03
  have HW3 := Lib.hid hw3
  obtain ⟨wd, hwd⟩ : ∃ wd, wd = w3.drew.alloc (.cells #[.int .i64 9] 3) := ⟨_, rfl⟩
  have hbl : Below w3.heap.size w3 wd := by rw [hwd]; exact (Below.refl _ _).drew.alloc (Nat.le_refl _) _
  have HSA : Hid (∀ o, (w3.drew.alloc o).cell? ⟨w2.heap.size, 0, none⟩ = some (.slice T 2 2) ∧ (w3.drew.alloc o).cell? ⟨w2.heap.size, 1, none⟩ = some (.slice F 1 1) ∧ (w3.drew.alloc o).cell? ⟨w2.heap.size, 2, none⟩ = some (.slice N2 1 1)) := Lib.hid fun o => HBX.out _ ((Below.refl _ _).drew.alloc (Nat.le_refl _) _)
  have hy2 := HY.out.on (hb03.trans (hbl.mono hb03.size))
  have ho := one_own w3.drew 9
  have hbl2 : w3.heap.size ≤ wd.heap.size := hbl.size
  have HPU : Hid (∀ ty, ∃ v4 w4, (Builtin.append_ #[22, 22] ty #[.slice (some ⟨w3.heap.size, 0, none⟩) 1 1, .slice B M d]).run Tryz.prog (w3.drew.alloc (.cells #[.int .i64 9] 3)) = .ok v4 w4 ∧ (w4.cell? ⟨w2.heap.size, 0, none⟩ = some (.slice T 2 2) ∧ w4.cell? ⟨w2.heap.size, 1, none⟩ = some (.slice F 1 1) ∧ w4.cell? ⟨w2.heap.size, 2, none⟩ = some (.slice N2 1 1))
      ∧ Hid (Calls Tryz.prog 10 #[.agg #[.slice T 2 2, .slice F 1 1, .slice N2 1 1], v2, v4] w4 fun e w5 => ∃ LA lc n cs, e = .returned (.slice LA n lc) ∧ (w5.cell? ⟨w2.heap.size, 0, none⟩ = some (.slice T 2 2) ∧ w5.cell? ⟨w2.heap.size, 1, none⟩ = some (.slice F 1 1) ∧ w5.cell? ⟨w2.heap.size, 2, none⟩ = some (.slice N2 1 1))
        ∧ Hid (n = cs.length ∧ 0 < n ∧ n ≤ 5 ∧ Below w3.heap.size w3 w5 ∧ Elems 4 ChM.cs w5 (· < w5.heap.size) LA cs ∧ (∀ x ∈ cs, ChOk (· < w5.heap.size) w5 x) ∧ ∀ x ∈ cs, FitB x))) := Lib.hid fun ty => by
    rw [← hwd]
    rw [← hwd] at ho
    obtain ⟨v4, w4, hrun, ho4, hx4⟩ := run_pushs elem_ints intLay ty wd _ [9] ho hy2 HM.out H1.out H2.out hbl2
    obtain ⟨A4, c4, rfl, hl4, hm4⟩ := ho4.form
    have hb4 : Below w3.heap.size w3 w4 := hbl.trans (hx4.below (base := w3.heap.size) hbl2 (fun g hg => Nat.le_of_eq (Option.some.inj hg)))
    refine ⟨_, w4, hrun, HBX.out w4 hb4, Lib.hid ?_⟩
    refine (genChangesW T IA IP OA OP F FC N2 R HBG.out v2 A4 c4 ([9] ++ ys) w4 (HSC.out w4 hb4) (HIN.out w4 hb4) ((ho4.elems intLay.len rfl).more fun k hk => (ho4.lt k hk).2) HOKY.out hl4).mono ?_
    rintro e w5 ⟨LA, lc, cs, rfl, hcl, hco⟩
    obtain ⟨hel, hcok, hfit⟩ := hco.open_
    have hb35 := hb4.trans (hco.bel.mono hb4.size)
    have hpos : 0 < cs.length := by rw [hcl]; show 0 < min (ys.length + 1) 5; omega
    exact ⟨LA, lc, _, cs, rfl, HBX.out w5 hb35, Lib.hid ⟨rfl, hpos, by rw [hcl]; exact Nat.min_le_right _ _, hb35, hel, hcok, hfit⟩⟩
  clear hbg hin hb2 hw3 hb3 hg3 hs3 hb13 hb03 hbl HBI HY hy2 ho hbl2 hwd
  have s3 := HBX.out w3 (Below.refl _ _)
  go_upto_region 2 with fail
  rw [← HW3.out]
  go_cut [7] from 16 to 21 (fun v7 wx => ∃ LA lc n cs, v7 = .slice LA n lc ∧ Hid (n = cs.length ∧ 0 < n ∧ n ≤ 5 ∧ Below w3.heap.size w3 wx ∧ Elems 4 ChM.cs wx (· < wx.heap.size) LA cs ∧ (∀ x ∈ cs, ChOk (· < wx.heap.size) wx x) ∧ ∀ x ∈ cs, FitB x))
  case first =>
    go_region_held3 (fun W => W.cell? ⟨w2.heap.size, 0, none⟩ = some (.slice T 2 2) ∧ W.cell? ⟨w2.heap.size, 1, none⟩ = some (.slice F 1 1) ∧ W.cell? ⟨w2.heap.size, 2, none⟩ = some (.slice N2 1 1)) (first | exact s3 | exact HSA.out _ | exact s4 | exact s5)
      (first
      | (go_at_call 10; refine HGC.out.mono ?_; rintro e w5 ⟨LA, lc, n, cs, rfl, s5, HF⟩)
      | (refine step_app (by rfl) (.tmp 18) (.tmp 19) _ _ (by rfl) (by rfl) (by rfl) (HPU.out _) ?_; rintro v4 w4 ⟨s4, HGC⟩))
    all_goals
      clear s4 s5
      go_wp2_with fail
      go_meet
      exact ⟨LA, lc, n, cs, rfl, HF⟩
  case rest =>
  obtain ⟨LA, lc, n, cs, rfl, HF5⟩ := hcut
  obtain ⟨w5, rfl⟩ : ∃ w5, w5 = wc := ⟨_, rfl⟩
  obtain ⟨hcn, hpos, hl5, hb35, hel, hcok, hfit⟩ := HF5.out
  have HCS : Hid (∀ W, Below w5.heap.size w5 W → Elems 4 ChM.cs W (· < W.heap.size) LA cs ∧ ∀ x ∈ cs, ChOk (· < W.heap.size) W x) := Lib.hid fun W hW => ⟨hel.on hW, fun x hx => (hcok x hx).on hW⟩
  have HB5 := Lib.hid (And.intro hb35 (HB3.out.trans (hb35.mono HB3.out.size)))
  have HFT := Lib.hid (And.intro hfit (And.intro hpos (show cs.length ≤ 5 by omega)))
  clear HPU HSA s3 HF5
  have HAP : Hid (∀ W, Below w5.heap.size w5 W → Calls Tryz.prog 11 #[.agg #[.slice T 2 2, .slice F 1 1, .slice N2 1 1], v2, .slice LA cs.length lc] W (ApAns R cs W)) := Lib.hid fun W hW => applyB W (HSC.out W (HB5.out.1.trans (hW.mono HB5.out.1.size))) (HIN.out W (HB5.out.1.trans (hW.mono HB5.out.1.size))) HBG.out (HCS.out W hW).1 (HCS.out W hW).2 HFT.out.1 (by have := HFT.out.2.2; omega)
  have HEX : Hid (∀ W, Below w5.heap.size w5 W → Calls Tryz.prog 12 #[.agg #[.slice T 2 2, .slice F 1 1, .slice N2 1 1], v2, .slice none 0 0, .slice LA cs.length lc] W (Ex0 R cs W)) := Lib.hid fun W hW => expand0 W (HSC.out W (HB5.out.1.trans (hW.mono HB5.out.1.size))) (HIN.out W (HB5.out.1.trans (hW.mono HB5.out.1.size))) HBG.out (HCS.out W hW).1 (HCS.out W hW).2 HFT.out.1 (by have := HFT.out.2.2; omega)
  have HCE : Hid (∀ W qs QA qc, Below w5.heap.size w5 W → qs.map ChM.d = cs.map ChM.d → qs.length = cs.length → Elems 4 ChM.cs W (· < W.heap.size) QA qs → (∀ q ∈ qs, ChOk (· < W.heap.size) W q) → Calls Tryz.prog 13 #[.slice QA cs.length qc, .slice LA cs.length lc] W fun e w' => e = .returned (.bool true) ∧ Below W.heap.size W w') := Lib.hid fun W qs QA qc hW hd hl he hc => (changesEqualK QA LA qc lc cs.length qs cs W he (HCS.out W hW).1 hc (HCS.out W hW).2 hd hl.symm (by have := HFT.out.2.2; omega)).mono fun e w' ⟨h1, n, h2⟩ => ⟨h1, by rw [h2]; exact below_drewN (Below.refl _ _) n⟩
  have HCN := Lib.hid hcn
  rw [← hcn] at HAP HEX HCE
  clear hel hcok hfit hb35 hl5 hcn
  obtain ⟨x0, x1, x2⟩ := HBX.out w5 HB5.out.1
  go_wp2_with fail
  refine (HAP.out w5 (Below.refl _ _)).mono ?_
  rintro e w6 ⟨hb6, ⟨R2, v6, hrun, rfl, hin6, hbg6⟩ | ⟨hrun, rfl⟩⟩
  all_goals
    have HB6 := Lib.hid (And.intro hb6 (And.intro (HB5.out.1.trans (hb6.mono HB5.out.1.size)) (HB5.out.2.trans (hb6.mono HB5.out.2.size))))
    have HRUN := Lib.hid hrun
    clear hb6 hrun x0 x1 x2
    obtain ⟨x0, x1, x2⟩ := HBX.out w6 HB6.out.2.1
  · have HI6 := Lib.hid (And.intro hin6 hbg6)
    clear hin6 hbg6
    go_wp2_with fail
    refine (HEX.out w6 HB6.out.1).mono ?_
    rintro e w7 ⟨hb7, ⟨R3, qs, QA, qc, v7, hrun7, rfl, hd7, hl7, hbg7, hel7, hco7, hin7⟩ | ⟨hrun7, -⟩⟩
    · have he : R2 = R3 := Option.some.inj (HRUN.out.symm.trans hrun7)
      subst he
      rw [← HCN.out]
      have hb57 := HB6.out.1.trans (hb7.mono HB6.out.1.size)
      have HC7 := Lib.hid (HCE.out w7 qs QA qc hb57 hd7 (hl7.trans HCN.out.symm) hel7 hco7)
      have HIE : Hid (∀ W, Below w7.heap.size w7 W → Calls Tryz.prog 14 #[v7, v6] W fun e w' => e = .returned (.bool true) ∧ Below W.heap.size W w') := Lib.hid fun W hW => instEqB W (hin7.on hW) ((HI6.out.1.on hb7).on hW) hbg7 fun _ _ => rfl
      have HB7 := Lib.hid (HB6.out.2.2.trans (hb7.mono HB6.out.2.2.size))
      have hpos' : (0 : Int) < (n : Int) := by omega
      clear hb7 hrun7 hd7 hl7 hbg7 hel7 hco7 hin7 hb57
      go_wp2_with fail
      refine HC7.out.mono ?_
      rintro e w8 ⟨rfl, hb8⟩
      have HI8 := Lib.hid (HIE.out w8 hb8)
      have HB8 := Lib.hid (HB7.out.trans (hb8.mono HB7.out.size))
      clear hb8 HIE
      go_wp2_with fail
      refine HI8.out.mono ?_
      rintro e w9 ⟨rfl, hb9⟩
      have HF := Lib.hid (HB8.out.trans (hb9.mono HB8.out.size))
      clear hb9
      go_wp2_with fail
      go_ret
      exact ⟨rfl, HF.out⟩
    · have h := HRUN.out.symm.trans hrun7
      cases h
  · go_wp2_with fail
    refine (HEX.out w6 HB6.out.1).mono ?_
    rintro e w7 ⟨hb7, ⟨R3, qs, QA, qc, v7, hrun7, -⟩ | ⟨hrun7, rfl⟩⟩
    · have h := HRUN.out.symm.trans hrun7
      cases h
    · have HF := Lib.hid (HB6.out.2.2.trans (hb7.mono HB6.out.2.2.size))
      clear hb7 hrun7
      go_wp2_with fail
      go_ret
      exact ⟨rfl, HF.out⟩
end Go.Proofs.YtefifkleamiabaaGreatDoor

namespace Go.Proofs.YtefifkleamiabaaGreatDoor
open Go.RowKit

theorem bytes_int : Tryz.prog.bytesOf 3 = 8 := by kernel_rfl
/-- The form's reach bounds a slice of integers. -/
theorem sized_ints {H : Type} {enc : TypeId × Value → H} {w : World} {base : Nat} {spare : Nat → Bool} {held : Bool} {fuel : Nat} {t e : TypeId} (ht : Tryz.prog.underlying t = some (.slice e)) {cs : List Value} {x : DataW H × List MemPlace} (h : DataW.trod enc Tryz.prog w base spare held fuel t cs = some x)
    {A : Option Addr} {n c : Nat} (hcs : cs = [.slice A n c]) (hs : ∀ elems sp, x.1 = .slice elems sp → (elems.length + sp.length) * 8 ≤ reachBytes) : n * 8 ≤ reachBytes := by
  rcases Go.Deep.open_slice ht h with ⟨h1, _⟩ | ⟨a, len, cap, m, k, D, Pl, h1, _, _, _, _, hx, _⟩
  · rw [h1] at hcs
    injection hcs with hcs _
    injection hcs with _ h2 _
    subst h2
    omega
  · rw [h1] at hcs
    injection hcs with hcs _
    injection hcs with _ h2 _
    subst h2
    have := hs _ _ (by rw [hx])
    rw [List.length_map, List.length_range] at this
    omega
end Go.Proofs.YtefifkleamiabaaGreatDoor

namespace Go.Proofs.YtefifkleamiabaaGreatDoor
open Go.RowKit Go.Sort

/-- With deleteOrder: what was applied, one after the other. -/
def Inv1 (R : Nat → List Row) (i : Nat) (qs : List ChM) (R' : Nat → List Row) : Prop := runN qs R = some R' ∧ (∀ q ∈ qs, FitB q) ∧ i ≤ qs.length ∧ qs.length ≤ 2 * i
theorem inv1_step {R : Nat → List Row} {fire : Bool} (i : Nat) (qs : List ChM) (R' : Nat → List Row) (ch' : ChM) (ds : List ChM) (R2 : Nat → List Row) (h : Inv1 R i qs R') (hf : FitB ch') (hst : stopN ch' R' = false) (hc : Casc fire ch' R' ds R2) : Inv1 R (i + 1) (qs ++ ch' :: ds) R2 := by
  obtain ⟨h1, h2, h3, h4⟩ := h
  have h5 : runN (qs ++ [ch']) R = some (nextB ch' R') := runN_snoc _ _ _ _ h1 hst
  rcases hc with ⟨rfl, rfl, -⟩ | ⟨-, d, rfl, -, hfd, hsd, rfl⟩
  · refine ⟨h5, fun q hq => ?_, by rw [List.length_append]; show i + 1 ≤ _ + 1; omega, by rw [List.length_append]; show _ + 1 ≤ _; omega⟩
    rcases List.mem_append.1 hq with hq | hq
    · exact h2 q hq
    · rw [List.mem_singleton.1 hq]; exact hf
  · refine ⟨?_, fun q hq => ?_, by rw [List.length_append]; show i + 1 ≤ _ + 2; omega, by rw [List.length_append]; show _ + 2 ≤ _; omega⟩
    · have e : qs ++ [ch', d] = (qs ++ [ch']) ++ [d] := by rw [List.append_assoc]; rfl
      rw [e]
      exact runN_snoc _ _ _ _ h5 hsd
    · rcases List.mem_append.1 hq with hq | hq
      · exact h2 q hq
      · simp only [List.mem_cons, List.not_mem_nil, or_false] at hq
        rcases hq with rfl | rfl
        · exact hf
        · exact hfd
/-- What Expand answers with deleteOrder. -/
def Ex1 (R : Nat → List Row) (cl : Nat) (w : World) (e : Ending) (w' : World) : Prop :=
  (∃ R2 qs QA ql qc v, e = .returned (.tuple #[.slice QA ql qc, v, .int .i64 0]) ∧ Hid (Below w.heap.size w w' ∧ ql = qs.length ∧ cl ≤ ql ∧ ql ≤ 2 * cl ∧ runN qs R = some R2 ∧ BG R2 ∧ Elems 4 ChM.cs w' (· < w'.heap.size) QA qs ∧ (∀ q ∈ qs, ChOk (· < w'.heap.size) w' q) ∧ (∀ q ∈ qs, FitB q) ∧ InB R2 w' v))
    ∨ (e = .returned (.tuple #[.slice none 0 0, .slice none 0 0, .int .i64 9]) ∧ Below w.heap.size w w')
theorem expand1 {T IA IP OA OP F FC N : Option Addr} {R : Nat → List Row} {v : Value} {TA RA RB CA : Option Addr} {tc cc : Nat} {cs : List ChM} (W : World) (hs : ScOk (· < W.heap.size) W (bSc T IA IP OA OP F FC N)) (htg : TgOk (· < W.heap.size) W TA [tDel RA RB]) (hi : InB R W v) (hR : BG R) (hel : Elems 4 ChM.cs W (· < W.heap.size) CA cs) (hco : ∀ x ∈ cs, ChOk (· < W.heap.size) W x) (hf : ∀ x ∈ cs, FitB x) (hl : cs.length ≤ 8) :
    Calls Tryz.prog 12 #[.agg #[.slice T 2 2, .slice F 1 1, .slice N 1 1], v, .slice TA 1 tc, .slice CA cs.length cc] W (Ex1 R cs.length W) := by
  refine (expandB (trig := true) (ts := [tDel RA RB]) (.inr ⟨rfl, RA, RB, rfl⟩) (Inv1 R) W hs htg hi hR hel hco hf hl ⟨rfl, (fun q hq => by cases hq), Nat.le_refl _, Nat.le_refl _⟩ (fun i qs R' ch' ds R2 _ h _ _ hf hst hc => inv1_step i qs R' ch' ds R2 h hf hst hc) (fun i qs R' h => h.2.2.2)).mono ?_
  rintro e w' (⟨qs, R2, QA, qc, v', rfl, ⟨h1, h2, h3, h4⟩, hb2, hel2, hco2, hin2, hb⟩ | ⟨i, qs, R', hi, -, -, -, rfl, hb⟩)
  · exact .inl ⟨R2, qs, QA, _, qc, v', rfl, Lib.hid ⟨hb, rfl, h3, h4, h1, hb2, hel2, hco2, h2, hin2⟩⟩
  · exact .inr ⟨rfl, hb⟩
/-- Behind Expand: what the law keeps. -/
def Q38 (R : Nat → List Row) (cl : Nat) (w5 : World) (a b c : Value) (wx : World) : Prop :=
  (∃ R2 qs QA ql qc, a = .slice QA ql qc ∧ c = .int .i64 0 ∧ Below w5.heap.size w5 wx ∧ ql = qs.length ∧ cl ≤ ql ∧ ql ≤ 2 * cl ∧ runN qs R = some R2 ∧ BG R2 ∧ Elems 4 ChM.cs wx (· < wx.heap.size) QA qs ∧ (∀ q ∈ qs, ChOk (· < wx.heap.size) wx q) ∧ (∀ q ∈ qs, FitB q) ∧ InB R2 wx b)
    ∨ (a = .slice none 0 0 ∧ b = .slice none 0 0 ∧ c = .int .i64 9 ∧ Below w5.heap.size w5 wx)
theorem ex1_q {R : Nat → List Row} {cl : Nat} {w5 W w' : World} {e : Ending} (h : Ex1 R cl W e w') (hb : Below w5.heap.size w5 W) : ∃ a b c, e = .returned (.tuple #[a, b, c]) ∧ Below w5.heap.size w5 w' ∧ Q38 R cl w5 a b c w' := by
  rcases h with ⟨R2, qs, QA, ql, qc, v, rfl, h⟩ | ⟨rfl, hb2⟩
  · obtain ⟨h1, h2⟩ := h.out
    exact ⟨_, _, _, rfl, hb.trans (h1.mono hb.size), .inl ⟨R2, qs, QA, ql, qc, rfl, rfl, hb.trans (h1.mono hb.size), h2⟩⟩
  · exact ⟨_, _, _, rfl, hb.trans (hb2.mono hb.size), .inr ⟨rfl, rfl, rfl, hb.trans (hb2.mono hb.size)⟩⟩
/-- A list of one trigger, just laid. -/
theorem tgOk_one {W : World} {RA RB : Option Addr} (h : TrOk (· < W.heap.size) W (tDel RA RB)) : TgOk (· < (W.alloc (.cells #[.int .i64 2, .string nItem, .slice RA 1 1] 44)).heap.size) (W.alloc (.cells #[.int .i64 2, .string nItem, .slice RA 1 1] 44)) (some ⟨W.heap.size, 0, none⟩) [tDel RA RB] := by
  have ha : Below W.heap.size W (W.alloc (.cells #[.int .i64 2, .string nItem, .slice RA 1 1] 44)) := (Below.refl _ _).alloc (Nat.le_refl _) _
  refine ⟨(elems_block trLay (xs := [tDel RA RB]) (heap_alloc_new W _) rfl (by show 1 ≤ maxLen; decide) rfl).more fun g hg => ?_, fun t ht => ?_⟩
  · have hg : g = W.heap.size := hg
    rw [hg]; simp
  · rw [List.mem_singleton.1 ht]; exact h.on ha
end Go.Proofs.YtefifkleamiabaaGreatDoor

namespace Go.Proofs.YtefifkleamiabaaGreatDoor
open Go.RowKit Go.Sort

set_option maxRecDepth 100000 in
set_option maxHeartbeats 8000000 in
theorem ter_law (A B : Option Addr) (c d : Nat) (xs ys : List Int) (w : World) (hx : Elems 1 intCs w (· < w.heap.size) A xs) (hok : ∀ x ∈ xs, I64 x) (hxc : xs.length ≤ c) (hxs : xs.length * 8 ≤ reachBytes) (hy : Elems 1 intCs w (· < w.heap.size) B ys) (hoky : ∀ x ∈ ys, I64 x) (hys : ys.length * 8 ≤ reachBytes) :
    Calls Tryz.prog 4 #[.slice A xs.length c, .slice B ys.length d] w fun e w' => e = .returned (.bool true) ∧ Below w.heap.size w w' := by
  have hrb : reachBytes ≤ 140737488355320 := by decide
  have HX := Lib.hid hx
  have HY := Lib.hid hy
  have HOK := Lib.hid hok
  have HOKY : Hid (∀ n ∈ [9] ++ ys, I64 n) := Lib.hid fun n hn => by
    rcases List.mem_append.1 hn with h | h
    · rw [List.mem_singleton.1 h]; unfold I64; omega
    · exact hoky n h
  have HL : Hid ((xs.length : Int) ≤ 9223372036854775807 ∧ xs.length ≤ c) := Lib.hid ⟨by omega, hxc⟩
  obtain ⟨N, hN⟩ : ∃ N, xs.length = N := ⟨_, rfl⟩
  obtain ⟨M, hM⟩ : ∃ M, ys.length = M := ⟨_, rfl⟩
  have H1 : Hid ((([9] : List Int).length + ys.length) * 8 ≤ 140737488355328) := Lib.hid (by simp; omega)
  have H2 : Hid (([9] : List Int).length + ys.length ≤ maxLen) := Lib.hid (by unfold maxLen; simp; omega)
  have HBI := Lib.hid fun W (hW : Below w.heap.size w W) => baseInstanceW A c xs W (HX.out.on hW) HOK.out HL.out.1 HL.out.2
  rw [hN] at HBI
  rw [hN, hM]
  have HM : Hid (M = ys.length) := Lib.hid hM.symm
  clear hx hy hok hoky hxc hxs hys hN hM hrb
  go_enter Tryz.func4, Tryz.ntmps4
  go_wp2_with fail
  refine (baseSchemaW w).mono ?_
  rintro e w1 ⟨T, IA, IP, OA, OP, F, FC, N2, rfl, hs1, hb1⟩
  rw [show (bSc T IA IP OA OP F FC N2).v = .agg #[.slice T 2 2, .slice F 1 1, .slice N2 1 1] from rfl]
  have HS1 := Lib.hid (And.intro hs1 hb1)
  clear hs1 hb1
  go_wp2_with fail
  refine (HBI.out w1 HS1.out.2).mono ?_
  rintro e w2 ⟨R, v2, rfl, hbg, hin, hb2⟩
  obtain ⟨w3, hw3⟩ : ∃ w3, w3 = w2.alloc (.cells #[.slice T 2 2, .slice F 1 1, .slice N2 1 1] 27) := ⟨_, rfl⟩
  have hb3 : Below w2.heap.size w2 w3 := by rw [hw3]; exact (Below.refl _ _).alloc (Nat.le_refl _) _
  have hg3 : w3.heap[w2.heap.size]? = some (.cells #[.slice T 2 2, .slice F 1 1, .slice N2 1 1] 27 (0, 0)) := by rw [hw3]; exact heap_alloc_new w2 _
  have hs3 : w2.heap.size < w3.heap.size := by rw [hw3]; simp
  have hb13 := hb2.trans (hb3.mono hb2.size)
  have hb03 := HS1.out.2.trans (hb13.mono HS1.out.2.size)
  have HBX : Hid (∀ W, Below w3.heap.size w3 W → W.cell? ⟨w2.heap.size, 0, none⟩ = some (.slice T 2 2) ∧ W.cell? ⟨w2.heap.size, 1, none⟩ = some (.slice F 1 1) ∧ W.cell? ⟨w2.heap.size, 2, none⟩ = some (.slice N2 1 1)) := Lib.hid fun W hW => by
    have h := (hW.block _ hs3).trans hg3
    exact ⟨cell_of_row _ _ 0 _ _ _ h, cell_of_row _ _ 1 _ _ _ h, cell_of_row _ _ 2 _ _ _ h⟩
  have HSC : Hid (∀ W, Below w3.heap.size w3 W → ScOk (· < W.heap.size) W (bSc T IA IP OA OP F FC N2)) := Lib.hid fun W hW => (HS1.out.1.on hb13).on hW
  have HIN : Hid (∀ W, Below w3.heap.size w3 W → InB R W v2) := Lib.hid fun W hW => (hin.on hb3).on hW
  have HBG := Lib.hid hbg
  have HB3 := Lib.hid hb03
  have HW3 := Lib.hid hw3
  obtain ⟨wd, hwd⟩ : ∃ wd, wd = w3.drew.alloc (.cells #[.int .i64 9] 3) := ⟨_, rfl⟩
  have hbl : Below w3.heap.size w3 wd := by rw [hwd]; exact (Below.refl _ _).drew.alloc (Nat.le_refl _) _
  have HSA : Hid (∀ o, (w3.drew.alloc o).cell? ⟨w2.heap.size, 0, none⟩ = some (.slice T 2 2) ∧ (w3.drew.alloc o).cell? ⟨w2.heap.size, 1, none⟩ = some (.slice F 1 1) ∧ (w3.drew.alloc o).cell? ⟨w2.heap.size, 2, none⟩ = some (.slice N2 1 1)) := Lib.hid fun o => HBX.out _ ((Below.refl _ _).drew.alloc (Nat.le_refl _) _)
  have hy2 := HY.out.on (hb03.trans (hbl.mono hb03.size))
  have ho := one_own w3.drew 9
  have hbl2 : w3.heap.size ≤ wd.heap.size := hbl.size
  have HPU : Hid (∀ ty, ∃ v4 w4, (Builtin.append_ #[22, 22] ty #[.slice (some ⟨w3.heap.size, 0, none⟩) 1 1, .slice B M d]).run Tryz.prog (w3.drew.alloc (.cells #[.int .i64 9] 3)) = .ok v4 w4 ∧ (w4.cell? ⟨w2.heap.size, 0, none⟩ = some (.slice T 2 2) ∧ w4.cell? ⟨w2.heap.size, 1, none⟩ = some (.slice F 1 1) ∧ w4.cell? ⟨w2.heap.size, 2, none⟩ = some (.slice N2 1 1))
      ∧ Hid (Calls Tryz.prog 10 #[.agg #[.slice T 2 2, .slice F 1 1, .slice N2 1 1], v2, v4] w4 fun e w5 => ∃ LA lc n cs, e = .returned (.slice LA n lc) ∧ (w5.cell? ⟨w2.heap.size, 0, none⟩ = some (.slice T 2 2) ∧ w5.cell? ⟨w2.heap.size, 1, none⟩ = some (.slice F 1 1) ∧ w5.cell? ⟨w2.heap.size, 2, none⟩ = some (.slice N2 1 1))
        ∧ Hid (n = cs.length ∧ 0 < n ∧ n ≤ 5 ∧ Below w3.heap.size w3 w5 ∧ Elems 4 ChM.cs w5 (· < w5.heap.size) LA cs ∧ (∀ x ∈ cs, ChOk (· < w5.heap.size) w5 x) ∧ ∀ x ∈ cs, FitB x))) := Lib.hid fun ty => by
    rw [← hwd]
    rw [← hwd] at ho
    obtain ⟨v4, w4, hrun, ho4, hx4⟩ := run_pushs elem_ints intLay ty wd _ [9] ho hy2 HM.out H1.out H2.out hbl2
    obtain ⟨A4, c4, rfl, hl4, hm4⟩ := ho4.form
    have hb4 : Below w3.heap.size w3 w4 := hbl.trans (hx4.below (base := w3.heap.size) hbl2 (fun g hg => Nat.le_of_eq (Option.some.inj hg)))
    refine ⟨_, w4, hrun, HBX.out w4 hb4, Lib.hid ?_⟩
    refine (genChangesW T IA IP OA OP F FC N2 R HBG.out v2 A4 c4 ([9] ++ ys) w4 (HSC.out w4 hb4) (HIN.out w4 hb4) ((ho4.elems intLay.len rfl).more fun k hk => (ho4.lt k hk).2) HOKY.out hl4).mono ?_
    rintro e w5 ⟨LA, lc, cs, rfl, hcl, hco⟩
    obtain ⟨hel, hcok, hfit⟩ := hco.open_
    have hb35 := hb4.trans (hco.bel.mono hb4.size)
    have hpos : 0 < cs.length := by rw [hcl]; show 0 < min (ys.length + 1) 5; omega
    exact ⟨LA, lc, _, cs, rfl, HBX.out w5 hb35, Lib.hid ⟨rfl, hpos, by rw [hcl]; exact Nat.min_le_right _ _, hb35, hel, hcok, hfit⟩⟩
  clear hbg hin hb2 hw3 hb3 hg3 hs3 hb13 hb03 hbl HBI HY hy2 ho hbl2 hwd
  have s3 := HBX.out w3 (Below.refl _ _)
  go_upto_region 2 with fail
  rw [← HW3.out]
  go_cut [7] from 15 to 20 (fun v7 wx => ∃ LA lc n cs, v7 = .slice LA n lc ∧ Hid (n = cs.length ∧ 0 < n ∧ n ≤ 5 ∧ Below w3.heap.size w3 wx ∧ Elems 4 ChM.cs wx (· < wx.heap.size) LA cs ∧ (∀ x ∈ cs, ChOk (· < wx.heap.size) wx x) ∧ ∀ x ∈ cs, FitB x))
  case first =>
    go_region_held3 (fun W => W.cell? ⟨w2.heap.size, 0, none⟩ = some (.slice T 2 2) ∧ W.cell? ⟨w2.heap.size, 1, none⟩ = some (.slice F 1 1) ∧ W.cell? ⟨w2.heap.size, 2, none⟩ = some (.slice N2 1 1)) (first | exact s3 | exact HSA.out _ | exact s4 | exact s5)
      (first
      | (go_at_call 10; refine HGC.out.mono ?_; rintro e w5 ⟨LA, lc, n, cs, rfl, s5, HF⟩)
      | (refine step_app (by rfl) (.tmp 17) (.tmp 18) _ _ (by rfl) (by rfl) (by rfl) (HPU.out _) ?_; rintro v4 w4 ⟨s4, HGC⟩))
    all_goals
      clear s4 s5
      go_wp2_with fail
      go_meet
      exact ⟨LA, lc, n, cs, rfl, HF⟩
  case rest =>
  obtain ⟨LA, lc, n, cs, rfl, HF5⟩ := hcut
  obtain ⟨w5, rfl⟩ : ∃ w5, w5 = wc := ⟨_, rfl⟩
  obtain ⟨hcn, hpos, hl5, hb35, hel, hcok, hfit⟩ := HF5.out
  have HCS : Hid (∀ W, Below w5.heap.size w5 W → Elems 4 ChM.cs W (· < W.heap.size) LA cs ∧ ∀ x ∈ cs, ChOk (· < W.heap.size) W x) := Lib.hid fun W hW => ⟨hel.on hW, fun x hx => (hcok x hx).on hW⟩
  have HB5 := Lib.hid (And.intro hb35 (HB3.out.trans (hb35.mono HB3.out.size)))
  have HFT := Lib.hid (And.intro hfit (And.intro hpos (show cs.length ≤ 5 by omega)))
  clear HPU HSA s3 HF5
  have HSB : Hid (∀ W, Below w5.heap.size w5 W → (W.cell? ⟨w2.heap.size, 0, none⟩ = some (.slice T 2 2) ∧ W.cell? ⟨w2.heap.size, 1, none⟩ = some (.slice F 1 1) ∧ W.cell? ⟨w2.heap.size, 2, none⟩ = some (.slice N2 1 1))) := Lib.hid fun W hW => HBX.out W (HB5.out.1.trans (hW.mono HB5.out.1.size))
  clear hel hcok hfit hb35
  have HDO : Hid (∀ m, Calls Tryz.prog 15 #[] (w5.drewN m) fun e w6 => ∃ RA, e = .returned (.agg #[.int .i64 2, .string nItem, .slice RA 1 1]) ∧ (w6.cell? ⟨w2.heap.size, 0, none⟩ = some (.slice T 2 2) ∧ w6.cell? ⟨w2.heap.size, 1, none⟩ = some (.slice F 1 1) ∧ w6.cell? ⟨w2.heap.size, 2, none⟩ = some (.slice N2 1 1))
      ∧ Hid (∀ o, (w6.alloc o).cell? ⟨w2.heap.size, 0, none⟩ = some (.slice T 2 2) ∧ (w6.alloc o).cell? ⟨w2.heap.size, 1, none⟩ = some (.slice F 1 1) ∧ (w6.alloc o).cell? ⟨w2.heap.size, 2, none⟩ = some (.slice N2 1 1))
      ∧ Hid (Calls Tryz.prog 12 #[.agg #[.slice T 2 2, .slice F 1 1, .slice N2 1 1], v2, .slice (some ⟨w6.heap.size, 0, none⟩) 1 1, .slice LA n lc] (w6.alloc (.cells #[.int .i64 2, .string nItem, .slice RA 1 1] 44)) fun e w7 => ∃ a b c, e = .returned (.tuple #[a, b, c]) ∧ (w7.cell? ⟨w2.heap.size, 0, none⟩ = some (.slice T 2 2) ∧ w7.cell? ⟨w2.heap.size, 1, none⟩ = some (.slice F 1 1) ∧ w7.cell? ⟨w2.heap.size, 2, none⟩ = some (.slice N2 1 1)) ∧ Hid (Q38 R n w5 a b c w7))) := Lib.hid fun m => by
    have hd : Below w5.heap.size w5 (w5.drewN m) := below_drewN (Below.refl _ _) m
    refine (deleteOrderW (w5.drewN m)).mono ?_
    rintro e w6 ⟨RA, RB, rfl, htr, hb6⟩
    have hb56 := hd.trans (hb6.mono hd.size)
    refine ⟨RA, rfl, HSB.out w6 hb56, Lib.hid fun o => HSB.out _ (hb56.alloc hb56.size o), Lib.hid ?_⟩
    have hba : Below w5.heap.size w5 (w6.alloc (.cells #[.int .i64 2, .string nItem, .slice RA 1 1] 44)) := hb56.alloc hb56.size _
    have hb3a := HB5.out.1.trans (hba.mono HB5.out.1.size)
    rw [hcn]
    refine (expand1 _ (HSC.out _ hb3a) (tgOk_one htr) (HIN.out _ hb3a) HBG.out (HCS.out _ hba).1 (HCS.out _ hba).2 HFT.out.1 (by have := HFT.out.2.2; omega)).mono ?_
    intro e w7 h
    obtain ⟨a, b, c, he, hb7, hq⟩ := ex1_q h hba
    exact ⟨a, b, c, he, HSB.out w7 hb7, Lib.hid hq⟩
  have HCN := Lib.hid hcn
  have s5 := HSB.out w5 (Below.refl _ _)
  clear hcn
  go_upto_region 3 with fail
  go_cut [8, 9, 10] from 21 to 30 (fun v8 v9 v10 wx => Q38 R n w5 v8 v9 v10 wx)
  case first =>
    go_region_held3 (fun W => W.cell? ⟨w2.heap.size, 0, none⟩ = some (.slice T 2 2) ∧ W.cell? ⟨w2.heap.size, 1, none⟩ = some (.slice F 1 1) ∧ W.cell? ⟨w2.heap.size, 2, none⟩ = some (.slice N2 1 1)) (first | exact s5 | exact s6 | exact HSA.out _ | exact s7)
      (first
      | (go_at_call 12; refine HEX.out.mono ?_; rintro e w7 ⟨a, b, c, rfl, s7, HQ⟩)
      | (go_at_call 15; refine (HDO.out 1).mono ?_; rintro e w6 ⟨RA, rfl, s6, HSA, HEX⟩))
    all_goals
      clear s5 s6 s7
      go_wp2_with fail
      go_meet
      exact HQ.out
  case rest =>
  obtain ⟨w6, rfl⟩ : ∃ w6, w6 = wc := ⟨_, rfl⟩
  have hq : Q38 R n w5 u8 u9 u10 w6 := hcut
  clear s5 HDO
  rcases hq with ⟨R2, qs, QA, ql, qc, rfl, rfl, hb6, hql, hcl, hq2, hrun, hbg6, hel6, hco6, hfit6, hin6⟩ | ⟨rfl, rfl, rfl, hb6⟩
  · have HB6 := Lib.hid (And.intro hb6 (And.intro (HB5.out.1.trans (hb6.mono HB5.out.1.size)) (HB5.out.2.trans (hb6.mono HB5.out.2.size))))
    have HAP : Hid (Calls Tryz.prog 11 #[.agg #[.slice T 2 2, .slice F 1 1, .slice N2 1 1], v2, .slice QA ql qc] w6 (ApAns R qs w6)) := Lib.hid (by rw [hql]; exact applyB w6 (HSC.out w6 HB6.out.2.1) (HIN.out w6 HB6.out.2.1) HBG.out hel6 hco6 hfit6 (by have := HFT.out.2.2; have := HCN.out; omega))
    have HI6 := Lib.hid (And.intro hin6 (And.intro hbg6 hrun))
    have hge : (n : Int) ≤ (ql : Int) := by omega
    have hge2 : decide ((n : Int) ≤ (ql : Int)) = true := decide_eq_true hge
    obtain ⟨x0, x1, x2⟩ := HBX.out w6 HB6.out.2.1
    clear hb6 hql hcl hq2 hrun hbg6 hel6 hco6 hfit6 hin6
    go_wp2_with fail
    refine HAP.out.mono ?_
    rintro e w7 ⟨hb7, ⟨R3, v7, hrun7, rfl, hin7, hbg7⟩ | ⟨hrun7, -⟩⟩
    · have he : R2 = R3 := Option.some.inj (HI6.out.2.2.symm.trans hrun7)
      subst he
      have HIE := Lib.hid (instEqB w7 hin7 (HI6.out.1.on hb7) hbg7 fun _ _ => rfl)
      have HB7 := Lib.hid (HB6.out.2.2.trans (hb7.mono HB6.out.2.2.size))
      clear hb7 hrun7 hin7 hbg7
      go_wp2_with fail
      refine HIE.out.mono ?_
      rintro e w8 ⟨rfl, hb8⟩
      have HF := Lib.hid (HB7.out.trans (hb8.mono HB7.out.size))
      clear hb8
      go_wp2_with fail
      go_ret
      exact ⟨rfl, HF.out⟩
    · have h := HI6.out.2.2.symm.trans hrun7
      cases h
  · have HF := Lib.hid (HB5.out.2.trans (hb6.mono HB5.out.2.size))
    clear hb6
    go_wp2_with fail
    go_ret
    exact ⟨rfl, HF.out⟩
end Go.Proofs.YtefifkleamiabaaGreatDoor
