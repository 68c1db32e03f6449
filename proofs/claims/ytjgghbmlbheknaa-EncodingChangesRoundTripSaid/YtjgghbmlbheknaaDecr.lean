/-
  The walks of bytes.Equal, the decoder's canonical, and DecodeRow.
-/
import Derived.Test.YtjgghbmlbheknaaRow
import Derived.Test.YtjgghbmlbheknaaEncr
namespace Go.Proofs.Ytjgghbmlbheknaa
open Go.RowKit

set_option maxRecDepth 100000 in
set_option maxHeartbeats 400000 in
theorem bytes_Equal (A B : Option Addr) (c d : Nat) (xs ys : List UInt8) (w : World) (S T : Nat → Prop) (hx : Elems 1 byteCs w S A xs) (hy : Elems 1 byteCs w T B ys) :
    Calls Try.prog 35 #[.slice A xs.length c, .slice B ys.length d] w fun e w' => e = .returned (.bool (decide (xs = ys))) ∧ w' = w := by
  have h1 := conv_bytes c hx
  have h2 := conv_bytes d hy
  clear hx hy
  go_enter Try.func35, Try.ntmps35
  go_wp2_with fail
  go_ret
  exact ⟨ret_bool (by by_cases h : xs = ys <;> simp [h]), rfl⟩

/-- What canonical answers. -/
def canonB (f : Bool) (rest : List UInt8) (er : Int) (inp enc : List UInt8) : Bool := !f && (rest.isEmpty && (er == 0 && decide (inp = enc)))

set_option maxRecDepth 100000 in
set_option maxHeartbeats 400000 in
theorem dec_canonical (g : Nat) (S T U : Nat → Prop) (s : St) (A B : Option Addr) (c d : Nat) (xs ys : List UInt8) (er : Int) (w : World) (h : Dec w g S s) (hx : Elems 1 byteCs w T A xs) (hy : Elems 1 byteCs w U B ys) :
    Calls Try.prog 27 #[.pointer (some ⟨g, 0, none⟩), .slice A xs.length c, .slice B ys.length d, .int .i64 er] w fun e w' => e = .returned (.bool (canonB s.2 s.1 er xs ys)) ∧ w' = w := by
  obtain ⟨⟨A0, c0, hg, hlc, hcm, hel⟩, hne⟩ := h
  obtain ⟨rest, f⟩ := s
  have d0 := cells_of_blk hg 0
  have d1 := cells_of_blk hg 1
  clear hg hlc hcm hel hne
  cases f with
  | true =>
    go_enter Try.func27, Try.ntmps27
    go_wp2_with fail
    go_ret
    exact ⟨ret_bool rfl, rfl⟩
  | false =>
    cases rest with
    | cons x rest =>
      have hl : (((x :: rest).length : Int) == 0) = false := by rw [beq_eq_false_iff_ne]; simp only [List.length_cons]; omega
      go_enter Try.func27, Try.ntmps27
      go_wp2_with fail
      go_ret
      exact ⟨ret_bool rfl, rfl⟩
    | nil =>
      by_cases he : er = 0
      · subst he
        go_enter Try.func27, Try.ntmps27
        go_wp2_with (go_at_call 35; refine (bytes_Equal A B c d xs ys w T U hx hy).mono ?_; rintro e w' ⟨rfl, rfl⟩)
        go_ret
        exact ⟨ret_bool rfl, rfl⟩
      · have hb : (er == 0) = false := by simp [he]
        have HE := Lib.hid he
        clear he
        go_enter Try.func27, Try.ntmps27
        go_wp2_with fail
        go_ret
        exact ⟨ret_bool (by simp [canonB, HE.out]), rfl⟩

/-- DecodeRow accepts. -/
def Acc (inp : List UInt8) : Prop := (dRow (inp, false)).2 = ([], false) ∧ rErr (dRow (inp, false)).1 = 0 ∧ encR (dRow (inp, false)).1 = inp
/-- What DecodeRow leaves where it accepts. -/
def DecPost (w : World) (r : List Val) (e : Ending) (w' : World) : Prop :=
  ∃ v, e = .returned (.tuple #[v, .int .i64 0]) ∧ Own 3 Val.cs 55 w.heap.size w' v r ∧ Below w.heap.size w w'

theorem dVals_len : ∀ (n : Nat) (s : St), (dVals n s).1.length ≤ n
  | 0, _ => by simp [dVals]
  | n + 1, s => by
    rw [dVals]
    split
    · simp
    · have := dVals_len n (dVal s).2
      simp
      omega
theorem dRow_len (s : St) : (dRow s).1.length ≤ maxLen := by
  have h1 := dVals_len (dByte s).1.toNat (dByte s).2
  have h2 := (dByte s).1.toNat_lt
  unfold maxLen
  show (dVals _ _).1.length ≤ _
  omega

set_option maxRecDepth 100000 in
set_option maxHeartbeats 400000 in
theorem decodeRow_long (A : Option Addr) (c : Nat) (xs : List UInt8) (w : World) (hl : xs.length ≤ maxLen) (h : 65536 < xs.length) :
    Calls Try.prog 13 #[.slice A xs.length c] w fun e w' => e = .returned (.tuple #[.slice none 0 0, .int .i64 2]) ∧ Below w.heap.size w w' := by
  unfold maxLen at hl
  have h' : (65536 : Int) < (xs.length : Int) := by omega
  go_enter Try.func13, Try.ntmps13
  go_wp2_with fail
  go_ret2
  exact ⟨rfl, Below.refl _ _⟩

set_option maxRecDepth 100000 in
set_option maxHeartbeats 400000 in
theorem decodeRow_any (A : Option Addr) (c : Nat) (xs : List UInt8) (w : World) (hx : Elems 1 byteCs w (· < w.heap.size) A xs) (hlc : xs.length ≤ c) (hc : c ≤ maxLen) (h : xs.length ≤ 65536) :
    Calls Try.prog 13 #[.slice A xs.length c] w fun e w' => (Acc xs → DecPost w (dRow (xs, false)).1 e w') ∧ (¬ Acc xs → e = .returned (.tuple #[.slice none 0 0, .int .i64 3]) ∧ Below w.heap.size w w') := by
  have h' : ¬ (65536 : Int) < (xs.length : Int) := by omega
  have hD : Dec (w.alloc (.cells #[.slice A xs.length c, .bool false] 59)) w.heap.size (· < w.heap.size) (xs, false) :=
    ⟨⟨A, c, heap_alloc_new w _, hlc, hc, hx.keep fun k hk => Below.heap_alloc w _ k hk⟩, fun k hk => by omega⟩
  have hS : ∀ k, k < w.heap.size → k < (w.alloc (.cells #[.slice A xs.length c, .bool false] 59)).heap.size := fun k hk => by simp; omega
  have HA : Hid (Acc xs ↔ (dRow (xs, false)).2 = ([], false) ∧ rErr (dRow (xs, false)).1 = 0 ∧ encR (dRow (xs, false)).1 = xs) := Iff.rfl
  have hrl := dRow_len (xs, false)
  go_enter Try.func13, Try.ntmps13
  go_wp2_with fail
  refine (dec_row _ _ _ _ hD hS).mono ?_
  rintro e w1 ⟨v, rfl, how, hd1, ho1⟩
  generalize hR : dRow (xs, false) = R at *
  obtain ⟨r, rest, f⟩ := R
  have HR := Lib.hid hR
  clear hR
  obtain ⟨A1, c1, rfl, _, _⟩ := how.form
  have hb1 : Below w.heap.size w w1 := ((Below.refl _ _).alloc (Nat.le_refl _) _).trans ⟨ho1.os, ho1.tape, ho1.output, ho1.size, fun k hk => ho1.block k (by simp; omega) (fun e => by injection e with e; omega)⟩
  have hs1 : w.heap.size + 1 ≤ w1.heap.size := by have := ho1.size; simpa using this
  have hel := (how.elems valLay.len rfl).more (S' := (· < w1.heap.size)) fun k hk => (how.lt k hk).2
  simp only at hrl hd1 HA hel
  go_wp2_with fail
  by_cases he : rErr r = 0
  · refine (encodeRow_ok A1 c1 r w1 hel hrl he).mono ?_
    rintro e w2 ⟨v2, rfl, ho2, hb2⟩
    obtain ⟨A2, c2, rfl, _, _⟩ := ho2.form
    have hd2 := hd1.below hb2 (by omega) (fun k hk => by omega)
    have hx2 := hx.keep (Keeps.of_below (hb1.trans (hb2.mono hb1.size)) fun _ h => h)
    have hcan := dec_canonical w.heap.size _ _ _ (rest, f) A A2 c c2 xs (encR r) 0 w2 hd2 hx2 (ho2.elems byteLay.len rfl)
    have HC := Lib.hid hcan
    have hw2 := how.below hb2
    have HW := Lib.hid hw2
    have HE := Lib.hid he
    clear hcan hw2 he hd1 hd2 hel how ho2 hx2 hx hD
    by_cases hcb : canonB f rest 0 xs (encR r) = true
    · simp only [hcb] at HC
      go_wp2_with fail
      refine HC.out.mono ?_
      rintro e w3 ⟨rfl, rfl⟩
      go_wp2_with fail
      go_ret2
      have hacc : Acc xs := by
        rw [HA.out]
        cases f <;> cases rest <;> simp_all [canonB, HE.out]
      rw [HR.out]
      exact ⟨fun _ => ⟨_, rfl, HW.out.mono (by simp), hb1.trans (hb2.mono hb1.size)⟩, fun h => absurd hacc h⟩
    · have hcf : canonB f rest 0 xs (encR r) = false := by simpa using hcb
      simp only [hcf] at HC
      go_wp2_with fail
      refine HC.out.mono ?_
      rintro e w3 ⟨rfl, rfl⟩
      go_wp2_with fail
      go_ret2
      have hacc : ¬ Acc xs := by
        rw [HA.out]
        rintro ⟨h1, _, h3⟩
        injection h1 with h4 h5
        subst h4 h5
        simp [canonB, h3] at hcb
      exact ⟨fun h => absurd h hacc, fun _ => ⟨rfl, hb1.trans (hb2.mono hb1.size)⟩⟩
  · refine (encodeRow_no A1 c1 r w1 hel hrl he).mono ?_
    rintro e w2 ⟨rfl, hb2⟩
    have hd2 := hd1.below hb2 (by omega) (fun k hk => by omega)
    have hx2 := hx.keep (Keeps.of_below (hb1.trans (hb2.mono hb1.size)) fun _ h => h)
    have hcan := dec_canonical w.heap.size _ _ (fun _ => True) (rest, f) A none c 0 xs [] (rErr r) w2 hd2 hx2 (Elems.nil _ _ _)
    have hcf : canonB f rest (rErr r) xs [] = false := by
      have : (rErr r == 0) = false := by simp [he]
      simp [canonB, this]
    simp only [hcf] at hcan
    have HC := Lib.hid hcan
    have HE := Lib.hid he
    clear hcan hcf he hd1 hd2 hel how hx2 hx hD
    go_wp2_with fail
    refine HC.out.mono ?_
    rintro e w3 ⟨rfl, rfl⟩
    go_wp2_with fail
    go_ret2
    have hacc : ¬ Acc xs := fun h => HE.out (HA.out.1 h).2.1
    exact ⟨fun h => absurd h hacc, fun _ => ⟨rfl, hb1.trans (hb2.mono hb1.size)⟩⟩

end Go.Proofs.Ytjgghbmlbheknaa
