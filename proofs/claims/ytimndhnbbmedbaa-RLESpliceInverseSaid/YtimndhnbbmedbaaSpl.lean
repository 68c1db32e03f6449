/-
  The walk of rle.Splice.
-/
import Derived.Test.YtimndhnbbmedbaaCut
import Derived.Test.YtimndhnbbmedbaaRlew
namespace Go.Proofs.Ytimndhnbbmedbaa
open Go.RowKit

theorem mem_n_le {rs : List Run} {r : Run} (h : r ∈ rs) : r.n ≤ (decRuns rs).length := by
  induction rs with
  | nil => cases h
  | cons x rs ih =>
    rw [decRuns_cons, List.length_append, List.length_replicate]
    rcases List.mem_cons.1 h with rfl | h
    · omega
    · have := ih h; omega

theorem enc_dec_succ {rs : List Run} (h : ∀ r ∈ rs, 1 ≤ r.n) {k : Nat} (hk : k < rs.length) : encRuns (decRuns (rs.take (k + 1))) = appRun (encRuns (decRuns (rs.take k))) rs[k] := by
  rw [← enc_runs fun r hr => h r (List.mem_of_mem_take hr), ← enc_runs fun r hr => h r (List.mem_of_mem_take hr), List.take_succ_eq_append_getElem hk, List.foldl_append]
  rfl

theorem decRuns_take_len (rs : List Run) (k : Nat) : (decRuns (rs.take k)).length ≤ (decRuns rs).length := tot_le rs k

/-- What Splice leaves. -/
def SplicePost (w : World) (vs : List Val) (e : Ending) (w' : World) : Prop := ∃ v, e = .returned (.tuple #[v, .int .i64 0]) ∧ Runs w.heap.size w' v (encRuns vs) ∧ Below w.heap.size w w'

set_option maxRecDepth 100000 in
set_option maxHeartbeats 1000000 in
/-- The last part: the runs one after another. -/
theorem concat3 (W : World) {g : Nat} (hg : W.heap.size = g) (h1 h2 h3 : Hdr) (l1 l2 l3 : Nat) (e1 : l1 = h1.xs.length) (e2 : l2 = h2.xs.length) (e3 : l3 = h3.xs.length)
    (hx1 : Elems 4 Run.cs W (· < W.heap.size) h1.A h1.xs) (hx2 : Elems 4 Run.cs W (· < W.heap.size) h2.A h2.xs) (hx3 : Elems 4 Run.cs W (· < W.heap.size) h3.A h3.xs) (ht : (h1.xs ++ h2.xs ++ h3.xs).length ≤ 2000) :
    Calls Try.prog 24 #[.slice (some ⟨g, 0, none⟩) 3 3] (W.alloc (.cells #[.slice h1.A l1 h1.c, .slice h2.A l2 h2.c, .slice h3.A l3 h3.c] 27))
      fun e w' => ∃ v, e = .returned v ∧ Runs W.heap.size w' v (h1.xs ++ h2.xs ++ h3.xs) ∧ Below W.heap.size W w' := by
  subst hg e1 e2 e3
  have hB : Below W.heap.size W (W.alloc (.cells #[.slice h1.A h1.xs.length h1.c, .slice h2.A h2.xs.length h2.c, .slice h3.A h3.xs.length h3.c] 27)) := (Below.refl _ _).alloc (Nat.le_refl _) _
  have hH := heap_alloc_new W (.cells #[.slice h1.A h1.xs.length h1.c, .slice h2.A h2.xs.length h2.c, .slice h3.A h3.xs.length h3.c] 27)
  have hz := size1 W (.cells #[.slice h1.A h1.xs.length h1.c, .slice h2.A h2.xs.length h2.c, .slice h3.A h3.xs.length h3.c] 27)
  generalize (W.alloc (.cells #[.slice h1.A h1.xs.length h1.c, .slice h2.A h2.xs.length h2.c, .slice h3.A h3.xs.length h3.c] 27)) = w at *
  refine (concat (some ⟨W.heap.size, 0, none⟩) 3 [h1, h2, h3] w ?_ ?_ (by simp) ?_).mono ?_
  · intro _
    refine ⟨_, _, rfl, by omega, fun i h hi j u hu => ?_⟩
    have hj : j < 1 := (List.getElem?_eq_some_iff.1 hu).1
    have hj0 : j = 0 := by omega
    subst hj0
    rw [cell_of_row _ W.heap.size _ _ _ (0, 0) hH]
    match i, hi with
    | 0, hi => simp at hi; subst hi; simpa [Hdr.cs] using hu
    | 1, hi => simp at hi; subst hi; simpa [Hdr.cs] using hu
    | 2, hi => simp at hi; subst hi; simpa [Hdr.cs] using hu
    | i + 3, hi => simp at hi
  · have hk : ∀ {A : Option Addr} {xs : List Run}, Elems 4 Run.cs W (· < W.heap.size) A xs → Elems 4 Run.cs w (· < w.heap.size) A xs := fun h => (h.keep (Keeps.of_below hB fun _ h => h)).more fun k hk => by omega
    intro h hh
    simp at hh
    rcases hh with rfl | rfl | rfl
    · exact hk hx1
    · exact hk hx2
    · exact hk hx3
  · simp [Hdr.all] at ht ⊢; omega
  · rintro e w' ⟨v, rfl, ho, hb⟩
    refine ⟨v, rfl, ?_, hB.trans (hb.mono hB.size)⟩
    have := ho.mono (base' := W.heap.size) (by omega)
    simpa [Hdr.all] using this

set_option maxRecDepth 100000 in
set_option maxHeartbeats 1000000 in
theorem splice (A A2 : Option Addr) (c c2 : Nat) (rs us : List Run) (i n : Nat) (w : World) (hx : Elems 4 Run.cs w (· < w.heap.size) A rs) (hy : Elems 4 Run.cs w (· < w.heap.size) A2 us) (hc : Canon rs) (hc2 : Canon us) (hlc : rs.length ≤ c) (hcm : c ≤ maxLen)
    (hin : i + n ≤ (decRuns rs).length) (hbig : (decRuns rs).length + (decRuns us).length ≤ 400) :
    Calls Try.prog 15 #[.slice A rs.length c, .int .i64 i, .int .i64 n, .slice A2 us.length c2] w (SplicePost w ((decRuns rs).take i ++ decRuns us ++ (decRuns rs).drop (i + n))) := by
  have HC := Lib.hid hc
  have HC2 := Lib.hid hc2
  have HCM := Lib.hid hcm
  clear hc hc2 hcm
  go_enter Try.func15, Try.ntmps15
  go_wp2_with fail
  refine (rleLen A c rs w hx HC.out).mono ?_
  rintro e w1 ⟨rfl, hb1⟩
  have hx1 := (hx.keep (Keeps.of_below hb1 fun _ h => h)).more (S' := (· < w1.heap.size)) fun k hk => Nat.lt_of_lt_of_le hk hb1.size
  have hy1 := (hy.keep (Keeps.of_below hb1 fun _ h => h)).more (S' := (· < w1.heap.size)) fun k hk => Nat.lt_of_lt_of_le hk hb1.size
  go_wp2_with fail
  refine (rleLen A2 c2 us w1 hy1 HC2.out).mono ?_
  rintro e w2 ⟨rfl, hb2⟩
  have hx2 := (hx1.keep (Keeps.of_below hb2 fun _ h => h)).more (S' := (· < w2.heap.size)) fun k hk => Nat.lt_of_lt_of_le hk hb2.size
  have hy2 := (hy1.keep (Keeps.of_below hb2 fun _ h => h)).more (S' := (· < w2.heap.size)) fun k hk => Nat.lt_of_lt_of_le hk hb2.size
  have hb02 : Below w.heap.size w w2 := hb1.trans (hb2.mono hb1.size)
  have hpos : ∀ r ∈ rs, 1 ≤ r.n := fun r hr => (HC.out.nice.1 r hr).2
  have hlen : rs.length ≤ 400 := HC.out.len
  have hns : ∀ r ∈ rs, r.n ≤ 100000 := fun r hr => Nat.le_trans (mem_n_le hr) HC.out.tot
  have HPos := Lib.hid hpos
  have HNs := Lib.hid hns
  have HIN := Lib.hid hin
  have HBIG := Lib.hid hbig
  clear hx hy hx1 hy1 hb1 hb2 hpos hns
  have HCUT := fun W (hW : Elems 4 Run.cs W (· < W.heap.size) A rs) => cut A c rs i W hW hlc HCM.out hlen HPos.out (by have := HC.out.tot; have := HIN.out; omega) HNs.out
  have HLC := Lib.hid hlc
  generalize hL1 : (decRuns rs).length = L1 at *
  generalize hL2 : (decRuns us).length = L2 at *
  have g1 : ¬ ((L1 : Int) < (i : Int)) := by omega
  have g2 : ¬ ((L1 : Int) - (i : Int) < (n : Int)) := by omega
  have g3 : ¬ ((100000 : Int) < (L1 : Int) - (n : Int) + (L2 : Int)) := by omega
  go_wp2_with fail
  refine (HCUT w2 hx2).mono ?_
  rintro e w3 ⟨vh, vt, hs, ts, rfl, hoh, hot, hcut, hb3⟩
  obtain ⟨Ah, ch, rfl, _, _⟩ := hoh.form
  obtain ⟨At, ct, rfl, hct, hctm⟩ := hot.form
  have hxt := (hot.elems runLay.len rfl).more (S' := (· < w3.heap.size)) fun k hk => (hot.lt k hk).2
  have htlen : ts.length ≤ 400 := Nat.le_trans hcut.tlen HC.out.len
  have htot : (decRuns ts).length ≤ L1 := by rw [hcut.tail, List.length_drop, hL1]; omega
  have HT1 := HC.out.tot
  have htn : ∀ r ∈ ts, r.n ≤ 100000 := fun r hr => by have := mem_n_le hr; omega
  have HCUT2 := Lib.hid (cut At ct ts n w3 hxt hct hctm htlen hcut.tpos (by omega) htn)
  have HK := Lib.hid hcut
  clear hcut HT1 htn hctm hxt HCUT htot
  go_wp2_with fail
  refine HCUT2.out.mono ?_
  rintro e w4 ⟨vh2, vt2, hs2, ts2, rfl, hoh2, hot2, hcut2, hb4⟩
  obtain ⟨At2, ct2, rfl, _, _⟩ := hot2.form
  have hx4 := hoh.below hb4 |>.elems runLay.len rfl |>.more (S' := (· < w4.heap.size)) fun k hk => Nat.lt_of_lt_of_le (hoh.lt k hk).2 hb4.size
  have hy4 := ((hy2.keep (Keeps.of_below hb3 fun _ h => h)).more (S' := (· < w3.heap.size)) fun k hk => Nat.lt_of_lt_of_le hk hb3.size).keep (Keeps.of_below hb4 fun _ h => h) |>.more (S' := (· < w4.heap.size)) fun k hk => Nat.lt_of_lt_of_le hk hb4.size
  have hz4 := (hot2.elems runLay.len rfl).more (S' := (· < w4.heap.size)) fun k hk => (hot2.lt k hk).2
  have hall : decRuns (hs ++ us ++ ts2) = (decRuns rs).take i ++ decRuns us ++ (decRuns rs).drop (i + n) := by
    rw [decRuns_append, decRuns_append, HK.out.head, hcut2.tail, HK.out.tail, List.drop_drop]
  have hapos : ∀ r ∈ hs ++ us ++ ts2, 1 ≤ r.n := by
    intro r hr
    rcases List.mem_append.1 hr with hr | hr
    · rcases List.mem_append.1 hr with hr | hr
      · exact HK.out.hpos r hr
      · exact (HC2.out.nice.1 r hr).2
    · exact hcut2.tpos r hr
  have halen : (decRuns (hs ++ us ++ ts2)).length ≤ 400 := by
    rw [hall]
    simp only [List.length_append, List.length_take, List.length_drop, hL1, hL2]
    have := HBIG.out
    have := HIN.out
    omega
  have hal2 : (hs ++ us ++ ts2).length ≤ 400 := Nat.le_trans (decRuns_len_le hapos) halen
  have HALL := Lib.hid hall
  have HCC := Lib.hid (concat3 w4 rfl ⟨Ah, ch, hs⟩ ⟨A2, c2, us⟩ ⟨At2, ct2, ts2⟩ _ _ _ rfl rfl rfl hx4 hy4 hz4 (Nat.le_trans hal2 (by omega)))
  have hb04 : Below w.heap.size w w4 := (hb02.trans (hb3.mono hb02.size)).trans (hb4.mono (by have := hb02.size; have := hb3.size; omega))
  clear hx4 hy4 hz4 hy2 hx2 HCUT2 hall hot hoh hot2 hoh2 hb02 hb3 hb4 HK hcut2
  generalize hs ++ us ++ ts2 = al at *
  have HAP := Lib.hid hapos
  have HAL := Lib.hid halen
  clear hapos halen
  go_wp2_with fail
  refine HCC.out.mono ?_
  rintro e w5 ⟨v5, rfl, ho5, hb5⟩
  obtain ⟨A5, c5, rfl, _, _⟩ := ho5.form
  have hx5 := (ho5.elems runLay.len rfl).more (S' := (· < w5.heap.size)) fun k hk => (ho5.lt k hk).2
  have HX5 := Lib.hid hx5
  clear hx5 ho5 HCC
  have hb05 : Below w.heap.size w w5 := hb04.trans (hb5.mono hb04.size)
  clear hb04 hb5
  go_wp2_with fail
  go_loopw [17, 78] (fun o i' wr => ∃ k : Nat, k ≤ al.length ∧ i' = .int .i64 k ∧ Runs w5.heap.size wr o (encRuns (decRuns (al.take k))) ∧ Below w5.heap.size w5 wr) (fun _ i' _ => al.length - (intOf i').toNat)
  case atStart => exact ⟨0, by omega, rfl, Own.nil _, Below.refl _ _⟩
  case round =>
    obtain ⟨k, hk, rfl, ho, hb⟩ := hrel
    by_cases hlt : k < al.length
    · obtain ⟨b, off, rfl, hbs, c0, c1, c2', c3⟩ := (HX5.out.keep (Keeps.of_below hb fun _ h => h)).run hlt
      have HS := Lib.hid (enc_dec_succ HAP.out hlt)
      have hp := HAP.out _ (List.getElem_mem hlt)
      have hn := mem_n_le (List.getElem_mem hlt)
      have hn1 := encRuns_n (decRuns (al.take k))
      have hn2 := len_enc (decRuns (al.take k))
      have hn3 := decRuns_take_len al k
      have hn4 := HAL.out
      have HN1 : Hid (∀ r ∈ encRuns (decRuns (al.take k)), r.n ≤ 1000000) := Lib.hid fun r hr => by have := hn1 r hr; omega
      have HN2 : Hid ((encRuns (decRuns (al.take k))).length ≤ 1000000) := Lib.hid (by omega)
      have hxn : al[k].n ≤ 1000000 := by omega
      clear hn1 hn2 hn3 hn4 hn
      generalize encRuns (decRuns (al.take k)) = d at *
      generalize al[k] = x at *
      have HO := Lib.hid ho
      clear ho
      go_wp2_with fail
      refine (appendRun w5.heap.size _ d x.v x.n _ (HO.out.alloc _) (le_size1 hb.size _) hp hxn HN1.out HN2.out).mono ?_
      rintro e w6 ⟨v6, rfl, ho6, hx6⟩
      go_wp2_with fail
      go_roundw
      case rel => exact ⟨k + 1, by omega, by go_num, by rw [HS.out]; exact ho6, hb.trans (((Below.refl _ _).alloc hb.size _).trans (hx6.below (le_size1 hb.size _) (fun g hg => (HO.out.lt g hg).1)))⟩
      case measure => simp [intOf]; omega
    · have hkl : k = al.length := by omega
      subst hkl
      rw [List.take_of_length_le (Nat.le_refl _)] at ho
      obtain ⟨A6, c6, rfl, _, _⟩ := ho.form
      have hfin : (encRuns (decRuns al)).length ≤ 400 := Nat.le_trans (len_enc _) HAL.out
      have HO := Lib.hid ho
      clear ho
      go_wp2_with fail
      refine (bounded _ _ _ _ hfin).mono ?_
      rintro e w7 ⟨rfl, rfl⟩
      go_wp2_with fail
      go_ret2
      exact ⟨_, rfl, by rw [← HALL.out]; exact HO.out.mono hb05.size, hb05.trans (hb.mono hb05.size)⟩

end Go.Proofs.Ytimndhnbbmedbaa
