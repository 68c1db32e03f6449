/-
  The walks of Mod, slices.Clone over bytes, and of the law EncodingIsPrefixFree.
-/
import Derived.Test.YtjgghbmlbheknaaDecr
import Derived.Lib.SliceRun
namespace Go.Proofs.Ytjgghbmlbheknaa
open Go.RowKit

set_option maxRecDepth 100000 in
set_option maxHeartbeats 400000 in
theorem mod_any (k n : Int) (w : World) (hk : -9223372036854775808 ≤ k ∧ k ≤ 9223372036854775807) (h0 : 0 < n) (hn : n ≤ 9223372036854775807) :
    Calls Try.prog 14 #[.int .i64 k, .int .i64 n] w fun e w' => ∃ m : Nat, e = .returned (.int .i64 m) ∧ (m : Int) < n ∧ w = w' := by
  obtain ⟨hk1, hk2⟩ := hk
  by_cases hneg : k < 0
  · have hp : 0 ≤ -(k + 1) := by omega
    have hlt := Int.emod_lt_of_pos (-(k + 1)) h0
    have hge := Int.emod_nonneg (-(k + 1)) (b := n) (by omega)
    obtain ⟨m, hm⟩ := Int.eq_ofNat_of_zero_le hge
    have HM := Lib.hid hm
    clear hm
    go_enter Try.func14, Try.ntmps14
    go_wp2_with fail
    go_ret
    refine ⟨m, ?_, by have := HM.out; omega, rfl⟩
    exact ret_int (by rw [← Int.neg_tmod, Int.tmod_eq_emod_of_nonneg hp]; exact HM.out)
  · have hp : 0 ≤ k := by omega
    have hlt := Int.emod_lt_of_pos k h0
    have hge := Int.emod_nonneg k (b := n) (by omega)
    obtain ⟨m, hm⟩ := Int.eq_ofNat_of_zero_le hge
    have HM := Lib.hid hm
    clear hm
    go_enter Try.func14, Try.ntmps14
    go_wp2_with fail
    go_ret
    refine ⟨m, ?_, by have := HM.out; omega, rfl⟩
    exact ret_int HM.out

/-- An empty slice literal's block. -/
theorem Own.lit0 {α : Type} {sz : Nat} {cs : α → List Value} {e : TypeId} (w : World) : Own sz cs e w.heap.size (w.alloc (.cells #[] e)) (.slice (some ⟨w.heap.size, 0, none⟩) 0 0) ([] : List α) :=
  World.ownsRow_lit w #[] 0 (Nat.le_refl _) (by unfold maxLen; omega) (by simp)

set_option maxRecDepth 100000 in
set_option maxHeartbeats 400000 in
theorem clone_bytes (A : Option Addr) (c : Nat) (xs : List UInt8) (w : World) (S : Nat → Prop) (hx : Elems 1 byteCs w S A xs) (hS : ∀ k, S k → k < w.heap.size) (hs : Small xs.length) :
    Calls Try.prog 15 #[.slice A xs.length c] w fun e w' => ∃ v, e = .returned v ∧ Buf w.heap.size w' v xs ∧ Below w.heap.size w w' := by
  have hnil := fun W => Lib.run_eql_slice_nil (P := Try.prog) W 24 5 A xs.length c 0 0 Try.underlying24
  cases A with
  | none =>
    have h0 : xs = [] := by
      rcases Nat.eq_zero_or_pos xs.length with h | h
      · exact List.eq_nil_of_length_eq_zero h
      · obtain ⟨_, _, h', _⟩ := hx h; cases h'
    subst h0
    simp only [Option.isNone_none, List.length_nil] at hnil
    go_enter Try.func15, Try.ntmps15
    go_wp2_with fail
    go_ret
    exact ⟨_, rfl, Own.nil _, Below.refl _ _⟩
  | some a =>
    simp only [Option.isNone_some] at hnil
    have hb := hs.bytes
    have HX := Lib.hid (hx.keep (w' := w.alloc (.cells #[] 5)) fun k hk => Below.heap_alloc _ _ _ (hS k hk))
    have hB : w.heap.size ≤ (w.alloc (.cells #[] 5)).heap.size := by simp
    have h1 : (([] : List UInt8).length + xs.length) * 1 ≤ 140737488355328 := by simpa using hb
    have h2 : ([] : List UInt8).length + xs.length ≤ maxLen := by simpa using hs.maxLen
    have H1 := Lib.hid h1
    have H2 := Lib.hid h2
    clear hb h1 h2 hx hs
    go_enter Try.func15, Try.ntmps15
    go_wp2_with (at_builtin; refine wpList_app rfl (.tmp 5) (.tmp 6) _ _ rfl rfl rfl (run_pushs elem_u8 byteLay _ (w.alloc (.cells #[] 5)) _ ([] : List UInt8) (Own.lit0 w) HX.out rfl H1.out H2.out hB) ?_; rintro v1 w1 ⟨ho1, hx1⟩)
    go_ret
    exact ⟨_, rfl, by simpa using ho1, ((Below.refl _ _).alloc (Nat.le_refl _) _).trans (hx1.below (base := w.heap.size) (by simp) (fun g hg => Nat.le_of_eq (Option.some.inj hg)))⟩

theorem not_acc_take {r : List Val} (h : rErr r = 0) {m : Nat} (hm : m < (encR r).length) : ¬ Acc ((encR r).take m) := by
  rintro ⟨_, h2, h3⟩
  have := encR_prefix h2 h (rest := (encR r).drop m) (by rw [h3]; exact List.take_append_drop m _)
  have hl := congrArg List.length this
  simp at hl
  omega
theorem not_acc_ext {r : List Val} (h : rErr r = 0) (b : UInt8) : ¬ Acc (encR r ++ [b]) := by
  rintro ⟨_, h2, h3⟩
  have := encR_prefix h h2 (rest := [b]) h3.symm
  cases this

theorem byte_ofInt (x : Int) (h : 0 ≤ x ∧ x ≤ 255) : (#[Value.int .u8 x] : Array Value).toList = byteCs (UInt8.ofNat x.toNat) := by
  have e : (UInt8.ofNat x.toNat).toNat = x.toNat := by rw [UInt8.toNat_ofNat']; exact Nat.mod_eq_of_lt (by omega)
  unfold byteCs
  rw [e]
  show [Value.int .u8 x] = _
  congr 2
  omega

set_option maxRecDepth 100000 in
set_option maxHeartbeats 400000 in
theorem prefix_law (A : Option Addr) (c : Nat) (xs : List Val) (n x : Int) (w : World) (hx : Elems 3 Val.cs w (· < w.heap.size) A xs) (hlc : xs.length ≤ c) (hc : c ≤ maxLen) (hn : -9223372036854775808 ≤ n ∧ n ≤ 9223372036854775807) (hb : 0 ≤ x ∧ x ≤ 255) :
    Calls Try.prog 5 #[.slice A xs.length c, .int .i64 n, .int .u8 x] w fun e w' => e = .returned (.bool true) ∧ Below w.heap.size w w' := by
  have hl := Nat.le_trans hlc hc
  by_cases he : rErr xs = 0
  · have hpos : 0 < (encR xs).length := by simp [encR]
    have hle := encR_len he
    have HE := Lib.hid he
    have HN := Lib.hid hn
    have HX := Lib.hid hb
    clear he hn hlc hc hb
    go_enter Try.func5, Try.ntmps5
    go_wp2_with fail
    refine (encodeRow_ok A c xs w hx hl HE.out).mono ?_
    rintro e w1 ⟨v1, rfl, ho1, hb1⟩
    obtain ⟨A1, c1, rfl, hc1, hm1⟩ := ho1.form
    have hle1 : (encR xs).length ≤ c1 := hc1
    have hmax : c1 ≤ 9223372036854775807 := by unfold maxLen at hm1; omega
    have hel := (ho1.elems byteLay.len rfl).more (S' := (· < w1.heap.size)) fun k hk => (ho1.lt k hk).2
    have HC1 := Lib.hid hc1
    have HM1 := Lib.hid hm1
    clear hc1 hm1
    go_wp2_with fail
    refine (mod_any n _ w1 HN.out (by omega) (by omega)).mono ?_
    rintro e w2 ⟨m, rfl, hm, rfl⟩
    go_wp2_with fail
    have hlen : ((encR xs).take m).length = m := by rw [List.length_take]; omega
    have HNA := Lib.hid (not_acc_take HE.out (m := m) (by omega))
    have hdec := decodeRow_any A1 c1 _ w1 (hel.take m) (by rw [hlen]; omega) HM1.out (by rw [hlen]; omega)
    rw [hlen] at hdec
    refine hdec.mono ?_
    rintro e w2 ⟨_, hno⟩
    obtain ⟨rfl, hb2⟩ := hno HNA.out
    clear hno hdec hlen
    have hel2 := hel.keep (Keeps.of_below hb2 fun _ h => h)
    have hsm : Small (encR xs).length := by unfold Small; omega
    go_wp2_with fail
    refine (clone_bytes A1 c1 _ w2 _ hel2 (fun k hk => Nat.lt_of_lt_of_le hk hb2.size) hsm).mono ?_
    rintro e w3 ⟨v3, rfl, ho3, hb3⟩
    have hs1 : Small ((encR xs).length + 1) := by unfold Small; omega
    have H1 := Lib.hid hs1.bytes
    have H2 := Lib.hid hs1.maxLen
    clear hsm hs1
    go_wp2_with (at_builtin; refine wpList_app rfl (.tmp 35) (.tmp 37) _ _ rfl rfl rfl (run_push elem_u8 byteLay _ w3 v3 (encR xs) (UInt8.ofNat x.toNat) _ ho3 (byte_ofInt x HX.out) H1.out H2.out hb3.size rfl) ?_; rintro v4 w4 ⟨ho4, hx4⟩)
    obtain ⟨A4, c4, rfl, hc4, hm4⟩ := ho4.form
    refine (decodeRow_any A4 c4 _ w4 ((ho4.elems byteLay.len rfl).more fun k hk => (ho4.lt k hk).2) hc4 hm4 (by simp; omega)).mono ?_
    rintro e w5 ⟨_, hno⟩
    obtain ⟨rfl, hb5⟩ := hno (not_acc_ext HE.out _)
    clear hno
    have hb4 : Below w2.heap.size w3 w4 := hx4.below hb3.size (fun g hg => (ho3.lt g hg).1)
    go_wp2_with fail
    go_ret
    have hs2 := hb1.size
    have hs3 := hb2.size
    have hs4 := hb3.size
    have hs5 := hb4.size
    exact ⟨rfl, (((hb1.trans (hb2.mono hs2)).trans (hb3.mono (by omega))).trans (hb4.mono (by omega))).trans (hb5.mono (by omega))⟩
  · have hz : (rErr xs != 0) = true := by simp [he]
    have HE := Lib.hid he
    clear he
    go_enter Try.func5, Try.ntmps5
    go_wp2_with fail
    refine (encodeRow_no A c xs w hx hl HE.out).mono ?_
    rintro e w1 ⟨rfl, hb1⟩
    go_wp2_with fail
    go_ret
    exact ⟨rfl, hb1⟩

end Go.Proofs.Ytjgghbmlbheknaa
