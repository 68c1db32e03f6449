/-
  The walk of the decoder's method row.
-/
import Derived.Test.YtjgghbmlbheknaaDecw
namespace Go.Proofs.Ytjgghbmlbheknaa
open Go.RowKit

theorem elem_val : ElemT Try.prog 23 55 3 32 := ⟨Try.underlying23, by
  have h : (Try.prog.info? 55).map (fun i => (i.zero, i.size, i.bytes)) = some (some (.agg #[.int .i64 0, .int .i64 0, .string ByteArray.empty]), 3, 32) := by kernel_rfl
  obtain ⟨i0, hi, hz0, hz1, hz2⟩ := info_parts h
  exact ⟨i0, _, hi, hz0, hz1, hz2, rfl⟩, by omega⟩
theorem valLay : Lay 3 Val.cs := ⟨fun _ => rfl, fun x c hc => by simp [Val.cs] at hc; rcases hc with rfl | rfl | rfl <;> rfl⟩

theorem Own.only {α : Type} {sz : Nat} {cs : α → List Value} {e : TypeId} {base g : Nat} {w w' : World} {v : Value} {xs : List α} (h : Own sz cs e base w v xs) (ho : Only w g w') (hg : g < base) : Own sz cs e base w' v xs := by
  refine h.kept ho ?_
  cases hv : v.ownBlock with
  | none => exact .inl rfl
  | some b => exact .inr (fun e => by injection e with e; have := (h.lt b hv).1; omega)

theorem Dec.alloc {w : World} {g : Nat} {S : Nat → Prop} {s : St} (h : Dec w g S s) (hS : ∀ k, S k → k < w.heap.size) (o : Obj) : Dec (w.alloc o) g S s := by
  obtain ⟨⟨A, c, hg, h1, h2, he⟩, hne⟩ := h
  have hlt : g < w.heap.size := (Array.getElem?_eq_some_iff.1 hg).1
  exact ⟨⟨A, c, (Below.heap_alloc w o g hlt).trans hg, h1, h2, he.keep fun k hk => Below.heap_alloc w o k (hS k hk)⟩, hne⟩
/-- The decoder is as it was where only new blocks have turned. -/
theorem Dec.keep {w w' : World} {g : Nat} {S : Nat → Prop} {s : St} (h : Dec w g S s) (hg : w'.heap[g]? = w.heap[g]?) (hk : Keeps S w w') : Dec w' g S s := by
  obtain ⟨⟨A, c, hh, h1, h2, he⟩, hne⟩ := h
  exact ⟨⟨A, c, hg.trans hh, h1, h2, he.keep hk⟩, hne⟩
theorem Dec.below {w w' : World} {g B : Nat} {S : Nat → Prop} {s : St} (h : Dec w g S s) (hb : Below B w w') (hg : g < B) (hS : ∀ k, S k → k < B) : Dec w' g S s :=
  h.keep (hb.block g hg) (Keeps.of_below hb hS)
theorem Dec.lt {w : World} {g : Nat} {S : Nat → Prop} {s : St} (h : Dec w g S s) : g < w.heap.size := by
  obtain ⟨⟨A, c, hh, _⟩, _⟩ := h
  exact (Array.getElem?_eq_some_iff.1 hh).1

theorem Dec.ext {w w' : World} {g base : Nat} {S : Nat → Prop} {s : St} {v v' : Value} (h : Dec w g S s) (hx : Ext w v w' v') (hB : base ≤ w.heap.size) (hv : ∀ b, v.ownBlock = some b → base ≤ b) (hg : g < base) (hS : ∀ k, S k → k < base) : Dec w' g S s :=
  h.below (hx.below hB hv) hg hS
theorem Dec.store {w : World} {g : Nat} {S : Nat → Prop} {s : St} (h : Dec w g S s) {p : Addr} (hg : g ≠ p.block) (hS : ∀ k, S k → k ≠ p.block) (u : Value) : Dec (w.setCell p u) g S s :=
  h.keep (Below.heap_setCell _ _ _ _ hg) fun k hk => Below.heap_setCell _ _ _ _ (hS k hk)

/-- The byte under a name of its own. -/
theorem dec_byte_at (g : Nat) (S : Nat → Prop) (s : St) (kb : Int) (hk : ((dByte s).1.toNat : Int) = kb) (w : World) (h : Dec w g S s) :
    Calls Try.prog 30 #[.pointer (some ⟨g, 0, none⟩)] w fun e w' => e = .returned (.int .u8 kb) ∧ Dec w' g S (dByte s).2 ∧ Only w g w' := by
  subst hk
  exact dec_byte g S s w h

theorem Only.alloc {a w : World} {g : Nat} (h : Only a g w) (o : Obj) : Only a g (w.alloc o) :=
  ⟨h.os, h.tape, h.output, Nat.le_trans h.size (by simp), fun i hi hne => (Below.heap_alloc w o i (Nat.lt_of_lt_of_le hi h.size)).trans (h.block i hi hne)⟩
theorem Only.store {a w : World} {g : Nat} (h : Only a g w) {p : Addr} (hp : a.heap.size ≤ p.block) (u : Value) : Only a g (w.setCell p u) :=
  ⟨h.os, h.tape, h.output, by simpa [World.setCell] using h.size, fun i hi hne => (Below.heap_setCell w p u i (by omega)).trans (h.block i hi hne)⟩
theorem Only.below {a w w' : World} {g : Nat} (h : Only a g w) {B : Nat} (hb : Below B w w') (hB : a.heap.size ≤ B) : Only a g w' :=
  ⟨hb.os.trans h.os, hb.tape.trans h.tape, hb.output.trans h.output, Nat.le_trans h.size hb.size, fun i hi hne => (hb.block i (by omega)).trans (h.block i hi hne)⟩
/-- Two steps, the second of which may turn another block that is new. -/
theorem Only.ext {a w w' : World} {g : Nat} {v v' : Value} (h : Only a g w) (hx : Ext w v w' v') (hv : ∀ b, v.ownBlock = some b → a.heap.size ≤ b) : Only a g w' :=
  h.below (hx.below h.size hv) (Nat.le_refl _)

theorem dVal_1 {s : St} (h : (dByte s).1.toNat = 1) : dVal s = (⟨1, unzig (dUv 10 0 0 (dByte s).2).1, ByteArray.empty⟩, (dUv 10 0 0 (dByte s).2).2) := by
  have e : (dByte s).1 = 1 := UInt8.toNat_inj.1 h
  unfold dVal
  simp only [e, if_true]
theorem dVal_2 {s : St} (h : (dByte s).1.toNat = 2) : dVal s = (⟨2, ((dByte (dByte s).2).1.toNat : Int), ByteArray.empty⟩, (dByte (dByte s).2).2) := by
  have e : (dByte s).1 = 2 := UInt8.toNat_inj.1 h
  have e1 : (2 : UInt8) ≠ 1 := by decide
  unfold dVal
  simp only [e, if_neg e1, if_true]
theorem dVal_3 {s : St} (h : (dByte s).1.toNat = 3) : dVal s = (⟨3, 0, ⟨(dStr (dByte (dByte s).2).1.toNat (dByte (dByte s).2).2).1.toArray⟩⟩, (dStr (dByte (dByte s).2).1.toNat (dByte (dByte s).2).2).2) := by
  have e : (dByte s).1 = 3 := UInt8.toNat_inj.1 h
  have e1 : (3 : UInt8) ≠ 1 := by decide
  have e2 : (3 : UInt8) ≠ 2 := by decide
  unfold dVal
  simp only [e, if_neg e1, if_neg e2, if_true]
theorem dVal_0 {s : St} (h1 : (dByte s).1.toNat ≠ 1) (h2 : (dByte s).1.toNat ≠ 2) (h3 : (dByte s).1.toNat ≠ 3) : dVal s = (⟨((dByte s).1.toNat : Int), 0, ByteArray.empty⟩, (dByte s).2) := by
  have e1 : (dByte s).1 ≠ 1 := fun e => h1 (by rw [e]; rfl)
  have e2 : (dByte s).1 ≠ 2 := fun e => h2 (by rw [e]; rfl)
  have e3 : (dByte s).1 ≠ 3 := fun e => h3 (by rw [e]; rfl)
  unfold dVal
  simp only [if_neg e1, if_neg e2, if_neg e3]

/-- What a round of row hands on. -/
theorem row_rel {w W w5 : World} {g k : Nat} {S : Nat → Prop} {u v : Value} {ys : List Val} {x : Val} {s t : St} {R : List Val} {T : St} (hw : Own 3 Val.cs 55 w.heap.size W u ys) (hd : Dec W g S t) (ho : Only w g W)
    (hx : Ext W u w5 v) (ho5 : Own 3 Val.cs 55 w.heap.size w5 v (ys ++ [x])) (hgw : g < w.heap.size) (hS : ∀ k, S k → k < w.heap.size) (hv : dVal s = (x, t))
    (h1 : ys ++ ((dVal s).1 :: (dVals k (dVal s).2).1) = R) (h2 : (dVals k (dVal s).2).2 = T) :
    Own 3 Val.cs 55 w.heap.size w5 v (ys ++ [x]) ∧ Dec w5 g S t ∧ Only w g w5 ∧ (ys ++ [x]) ++ (dVals k t).1 = R ∧ (dVals k t).2 = T := by
  rw [hv] at h1 h2
  exact ⟨ho5, hd.ext hx ho.size (fun b hb => (hw.lt b hb).1) hgw hS, ho.ext hx (fun b hb => (hw.lt b hb).1), by simpa using h1, h2⟩

set_option maxRecDepth 100000 in
set_option maxHeartbeats 1000000 in
theorem dec_row (g : Nat) (S : Nat → Prop) (s : St) (w : World) (h : Dec w g S s) (hS : ∀ k, S k → k < w.heap.size) :
    Calls Try.prog 26 #[.pointer (some ⟨g, 0, none⟩)] w fun e w' => ∃ v, e = .returned v ∧ Own 3 Val.cs 55 w.heap.size w' v (dRow s).1 ∧ Dec w' g S (dRow s).2 ∧ Only w g w' := by
  have hgw := h.lt
  have hn0 := (dByte s).1.toNat_lt
  have HR : Hid (dVals (dByte s).1.toNat (dByte s).2 = dRow s) := rfl
  go_enter Try.func26, Try.ntmps26
  go_wp2_with fail
  refine (dec_byte g S s w h).mono ?_
  rintro e w1 ⟨rfl, hd1, ho1⟩
  go_wp2_with fail
  go_loopw [3, 4] (fun r n wr => ∃ (k : Nat) (ys : List Val) (t : St), k + ys.length ≤ 255 ∧ n = .int .u8 k ∧ Own 3 Val.cs 55 w.heap.size wr r ys ∧ Dec wr g S t ∧ Only w g wr ∧ ys ++ (dVals k t).1 = (dRow s).1 ∧ (dVals k t).2 = (dRow s).2) (fun _ n _ => (intOf n).toNat)
  case atStart => exact ⟨_, [], _, by simp; omega, rfl, Own.nil _, hd1, ho1, by rw [HR.out]; rfl, by rw [HR.out]⟩
  case round =>
    obtain ⟨k, ys, t, hk, rfl, hown, hdec, hon, he1, he2⟩ := hrel
    clear hd1 ho1 h hn0
    by_cases hk0 : k = 0
    · subst hk0
      have H1 := Lib.hid he1
      have H2 := Lib.hid he2
      clear he1 he2
      go_wp2_with fail
      go_ret
      refine ⟨_, rfl, ?_, ?_, hon⟩
      · rw [← H1.out]; simpa [dVals] using hown
      · rw [← H2.out]; exact hdec
    · obtain ⟨k, rfl⟩ : ∃ j, k = j + 1 := ⟨k - 1, by omega⟩
      obtain ⟨xs, f⟩ := t
      obtain ⟨⟨A, c, hg, hlc, hcm, hel⟩, hne⟩ := id hdec
      have c1 := cells_of_blk hg 1
      clear hg hlc hcm hel hne
      simp only at c1
      cases f with
      | true =>
        have H1 := Lib.hid he1
        have H2 := Lib.hid he2
        clear he1 he2
        go_wp2_with fail
        go_ret
        refine ⟨_, rfl, ?_, ?_, hon⟩
        · rw [← H1.out]; simpa [dVals] using hown
        · rw [← H2.out]; exact hdec
      | false =>
        rw [dVals, if_neg (by simp)] at he1 he2
        have H1 := Lib.hid he1
        have H2 := Lib.hid he2
        have HK := Lib.hid hdec
        have HW := Lib.hid hown
        clear he1 he2 hdec hown
        have hbd : (ys.length + 1) * 32 ≤ 140737488355328 := by omega
        have hmx : ys.length + 1 ≤ maxLen := by unfold maxLen; omega
        have HY := Lib.hid hbd
        have HM := Lib.hid hmx
        clear hbd hmx
        by_cases hb1 : (dByte (xs, false)).1.toNat = 1
        · have HV := Lib.hid (dVal_1 hb1)
          go_wp2_with fail
          refine (dec_byte_at g S (xs, false) 1 (by rw [hb1]; rfl) wr HK.out).mono ?_
          rintro e w2 ⟨rfl, hd2, ho2⟩
          clear hb1 c1
          have hsz2 : w.heap.size ≤ w2.heap.size := Nat.le_trans hon.size ho2.size
          have hd3 := hd2.alloc (fun k hk => Nat.lt_of_lt_of_le (hS k hk) hsz2) (.cells #[.int .i64 1, .int .i64 0, .string ByteArray.empty] 55)
          go_wp2_with fail
          refine (dec_uvarint g S _ _ hd3).mono ?_
          rintro e w3 ⟨rfl, hd4, ho4⟩
          have hV : w3.heap[w2.heap.size]? = some (.cells #[.int .i64 1, .int .i64 0, .string ByteArray.empty] 55 (0, 0)) :=
            (ho4.block _ (by simp) (fun e => by injection e with e; omega)).trans (heap_alloc_new w2 _)
          have v0 := cells_of_blk hV 0
          have v1 := cells_of_blk hV 1
          have v2 := cells_of_blk hV 2
          have g1 := frozen_of_blk hV 1
          clear hV
          have hu := dUv_u64 10 0 0 (dByte (xs, false)).2 (by unfold IsU64; omega)
          have hsz3 : w2.heap.size + 1 ≤ w3.heap.size := by have := ho4.size; simpa using this
          have hw2 := HW.out.only ho2 hgw
          have hw3 := (hw2.alloc (.cells #[.int .i64 1, .int .i64 0, .string ByteArray.empty] 55)).only ho4 hgw
          have hnb : ∀ b, u3.ownBlock = some b → b ≠ w2.heap.size := fun b hb => by have := (hw2.lt b hb).2; omega
          have hw4 := hw3.setCell (p := ⟨w2.heap.size, 1, none⟩) hnb (.int .i64 (unzig (dUv 10 0 0 (dByte (xs, false)).2).1))
          have hd5 := hd4.store (p := ⟨w2.heap.size, 1, none⟩) (by show g ≠ w2.heap.size; omega) (fun k hk => by have := hS k hk; show k ≠ w2.heap.size; omega) (.int .i64 (unzig (dUv 10 0 0 (dByte (xs, false)).2).1))
          have ho5 := Only.store ((Only.alloc (hon.trans ho2) (.cells #[.int .i64 1, .int .i64 0, .string ByteArray.empty] 55)).trans ho4) (p := ⟨w2.heap.size, 1, none⟩) hsz2 (.int .i64 (unzig (dUv 10 0 0 (dByte (xs, false)).2).1))
          have hbs : w.heap.size ≤ (w3.setCell ⟨w2.heap.size, 1, none⟩ (.int .i64 (unzig (dUv 10 0 0 (dByte (xs, false)).2).1))).heap.size := by rw [sizeSet]; omega
          go_wp2_with (at_builtin; rw [unz_walk _ hu]; refine wpList_app rfl (.tmp 53) (.tmp 55) _ _ rfl rfl rfl (run_push elem_val valLay _ _ u3 ys ⟨1, unzig (dUv 10 0 0 (dByte (xs, false)).2).1, ByteArray.empty⟩ _ hw4 rfl HY.out HM.out hbs (sizeSet _ _ _)) ?_; rintro v4 w5 ⟨ho6, hx5⟩)
          go_roundw
          case rel => exact ⟨k, _, _, by simp; omega, by go_num, row_rel hw4 hd5 ho5 hx5 ho6 hgw hS HV.out H1.out H2.out⟩
          case measure => simp [intOf]
        by_cases hb2 : (dByte (xs, false)).1.toNat = 2
        · have HV := Lib.hid (dVal_2 hb2)
          go_wp2_with fail
          refine (dec_byte_at g S (xs, false) 2 (by rw [hb2]; rfl) wr HK.out).mono ?_
          rintro e w2 ⟨rfl, hd2, ho2⟩
          clear hb1 hb2 c1
          have hsz2 : w.heap.size ≤ w2.heap.size := Nat.le_trans hon.size ho2.size
          have hd3 := hd2.alloc (fun k hk => Nat.lt_of_lt_of_le (hS k hk) hsz2) (.cells #[.int .i64 2, .int .i64 0, .string ByteArray.empty] 55)
          go_wp2_with fail
          refine (dec_byte g S _ _ hd3).mono ?_
          rintro e w3 ⟨rfl, hd4, ho4⟩
          have hV : w3.heap[w2.heap.size]? = some (.cells #[.int .i64 2, .int .i64 0, .string ByteArray.empty] 55 (0, 0)) :=
            (ho4.block _ (by simp) (fun e => by injection e with e; omega)).trans (heap_alloc_new w2 _)
          have v0 := cells_of_blk hV 0
          have v1 := cells_of_blk hV 1
          have v2 := cells_of_blk hV 2
          have g1 := frozen_of_blk hV 1
          clear hV
          have hb256 := (dByte (dByte (xs, false)).2).1.toNat_lt
          have hsz3 : w2.heap.size + 1 ≤ w3.heap.size := by have := ho4.size; simpa using this
          have hw2 := HW.out.only ho2 hgw
          have hw3 := (hw2.alloc (.cells #[.int .i64 2, .int .i64 0, .string ByteArray.empty] 55)).only ho4 hgw
          have hnb : ∀ b, u3.ownBlock = some b → b ≠ w2.heap.size := fun b hb => by have := (hw2.lt b hb).2; omega
          have hw4 := hw3.setCell (p := ⟨w2.heap.size, 1, none⟩) hnb (.int .i64 ((dByte (dByte (xs, false)).2).1.toNat : Int))
          have hd5 := hd4.store (p := ⟨w2.heap.size, 1, none⟩) (by show g ≠ w2.heap.size; omega) (fun k hk => by have := hS k hk; show k ≠ w2.heap.size; omega) (.int .i64 ((dByte (dByte (xs, false)).2).1.toNat : Int))
          have ho5 := Only.store ((Only.alloc (hon.trans ho2) (.cells #[.int .i64 2, .int .i64 0, .string ByteArray.empty] 55)).trans ho4) (p := ⟨w2.heap.size, 1, none⟩) hsz2 (.int .i64 ((dByte (dByte (xs, false)).2).1.toNat : Int))
          have hbs : w.heap.size ≤ (w3.setCell ⟨w2.heap.size, 1, none⟩ (.int .i64 ((dByte (dByte (xs, false)).2).1.toNat : Int))).heap.size := by rw [sizeSet]; omega
          go_wp2_with (at_builtin; refine wpList_app rfl (.tmp 53) (.tmp 55) _ _ rfl rfl rfl (run_push elem_val valLay _ _ u3 ys ⟨2, ((dByte (dByte (xs, false)).2).1.toNat : Int), ByteArray.empty⟩ _ hw4 rfl HY.out HM.out hbs (sizeSet _ _ _)) ?_; rintro v4 w5 ⟨ho6, hx5⟩)
          go_roundw
          case rel => exact ⟨k, _, _, by simp; omega, by go_num, row_rel hw4 hd5 ho5 hx5 ho6 hgw hS HV.out H1.out H2.out⟩
          case measure => simp [intOf]
        by_cases hb3 : (dByte (xs, false)).1.toNat = 3
        · have HV := Lib.hid (dVal_3 hb3)
          go_wp2_with fail
          refine (dec_byte_at g S (xs, false) 3 (by rw [hb3]; rfl) wr HK.out).mono ?_
          rintro e w2 ⟨rfl, hd2, ho2⟩
          clear hb1 hb2 hb3 c1
          have hsz2 : w.heap.size ≤ w2.heap.size := Nat.le_trans hon.size ho2.size
          have hd3 := hd2.alloc (fun k hk => Nat.lt_of_lt_of_le (hS k hk) hsz2) (.cells #[.int .i64 3, .int .i64 0, .string ByteArray.empty] 55)
          go_wp2_with fail
          refine (dec_byte g S _ _ hd3).mono ?_
          rintro e w3 ⟨rfl, hd4, ho4⟩
          have hb256 := (dByte (dByte (xs, false)).2).1.toNat_lt
          go_wp2_with fail
          refine (dec_string g S _ _ _ hd4 (by omega)).mono ?_
          rintro e w3b ⟨rfl, hd4b, ho4b⟩
          have ho4c := ho4.trans ho4b
          have hV : w3b.heap[w2.heap.size]? = some (.cells #[.int .i64 3, .int .i64 0, .string ByteArray.empty] 55 (0, 0)) :=
            (ho4c.block _ (by simp) (fun e => by injection e with e; omega)).trans (heap_alloc_new w2 _)
          have v0 := cells_of_blk hV 0
          have v1 := cells_of_blk hV 1
          have v2 := cells_of_blk hV 2
          have g2 := frozen_of_blk hV 2
          clear hV
          have hsz3 : w2.heap.size + 1 ≤ w3b.heap.size := by have := ho4c.size; simpa using this
          have hw2 := HW.out.only ho2 hgw
          have hw3 := (hw2.alloc (.cells #[.int .i64 3, .int .i64 0, .string ByteArray.empty] 55)).only ho4c hgw
          have hnb : ∀ b, u3.ownBlock = some b → b ≠ w2.heap.size := fun b hb => by have := (hw2.lt b hb).2; omega
          generalize hS0 : (dStr (dByte (dByte (xs, false)).2).1.toNat (dByte (dByte (xs, false)).2).2) = sr at *
          have hw4 := hw3.setCell (p := ⟨w2.heap.size, 2, none⟩) hnb (.string ⟨sr.1.toArray⟩)
          have hd5 := hd4b.store (p := ⟨w2.heap.size, 2, none⟩) (by show g ≠ w2.heap.size; omega) (fun k hk => by have := hS k hk; show k ≠ w2.heap.size; omega) (.string ⟨sr.1.toArray⟩)
          have ho5 := Only.store ((Only.alloc (hon.trans ho2) (.cells #[.int .i64 3, .int .i64 0, .string ByteArray.empty] 55)).trans ho4c) (p := ⟨w2.heap.size, 2, none⟩) hsz2 (.string ⟨sr.1.toArray⟩)
          have hbs : w.heap.size ≤ (w3b.setCell ⟨w2.heap.size, 2, none⟩ (.string ⟨sr.1.toArray⟩)).heap.size := by rw [sizeSet]; omega
          clear hS0
          go_wp2_with (at_builtin; refine wpList_app rfl (.tmp 53) (.tmp 55) _ _ rfl rfl rfl (run_push elem_val valLay _ _ u3 ys ⟨3, 0, ⟨sr.1.toArray⟩⟩ _ hw4 rfl HY.out HM.out hbs (sizeSet _ _ _)) ?_; rintro v4 w5 ⟨ho6, hx5⟩)
          go_roundw
          case rel => exact ⟨k, _, _, by simp; omega, by go_num, row_rel hw4 hd5 ho5 hx5 ho6 hgw hS HV.out H1.out H2.out⟩
          case measure => simp [intOf]
        · have HV := Lib.hid (dVal_0 hb1 hb2 hb3)
          have hb256 := (dByte (xs, false)).1.toNat_lt
          go_wp2_with fail
          refine (dec_byte g S (xs, false) wr HK.out).mono ?_
          rintro e w2 ⟨rfl, hd2, ho2⟩
          clear c1
          have hsz2 : w.heap.size ≤ w2.heap.size := Nat.le_trans hon.size ho2.size
          generalize (dByte (xs, false)).1.toNat = kb at *
          have hd3 := hd2.alloc (fun k hk => Nat.lt_of_lt_of_le (hS k hk) hsz2) (.cells #[.int .i64 (kb : Int), .int .i64 0, .string ByteArray.empty] 55)
          have hw2 := HW.out.only ho2 hgw
          have hw3 := hw2.alloc (.cells #[.int .i64 (kb : Int), .int .i64 0, .string ByteArray.empty] 55)
          have ho5 := Only.alloc (hon.trans ho2) (.cells #[.int .i64 (kb : Int), .int .i64 0, .string ByteArray.empty] 55)
          have hbs : w.heap.size ≤ (w2.alloc (.cells #[.int .i64 (kb : Int), .int .i64 0, .string ByteArray.empty] 55)).heap.size := by simp; omega
          go_wp2_with (at_builtin; refine wpList_app rfl (.tmp 53) (.tmp 55) _ _ rfl rfl rfl (run_push elem_val valLay _ _ u3 ys ⟨(kb : Int), 0, ByteArray.empty⟩ _ hw3 rfl HY.out HM.out hbs (size1 _ _)) ?_; rintro v4 w5 ⟨ho6, hx5⟩)
          go_roundw
          case rel => exact ⟨k, _, _, by simp; omega, by go_num, row_rel hw3 hd3 ho5 hx5 ho6 hgw hS HV.out H1.out H2.out⟩
          case measure => simp [intOf]

end Go.Proofs.Ytjgghbmlbheknaa
