/-
  The walk of split at any node, in terms of trees.
-/
import Derived.Test.YtlgjkhdpinnccaaTw3
namespace Go.Proofs.Ytlgjkhdpinnccaa
open Go.RowKit Go.Sort

/-- A node is split: l stays at a, r lies at b, the key k parts them. -/
def SplitPost (w : World) (M : Nodes) (O : Own') (d a : Nat) (t : T d) (fp : List Nat) (e : Ending) (w' : World) : Prop :=
  ∃ (b : Nat) (k : Key) (M' : Nodes) (O' : Own') (l r : T d) (fl fr : List Nat), e = .returned (.tuple #[ptr b, .slice k.A k.row.length k.c]) ∧ Spl d t l k r ∧ St w O w' M' O'
    ∧ Rep M' d a l fl ∧ Rep M' d b r fr ∧ Chg w.heap.size M M' fp (fl ++ fr) ∧ KOk (fun k => O' k = .row) w' k

theorem Rep.lt {w : World} {M : Nodes} {O : Own'} (hs : Store w M O) {d a : Nat} {t : T d} {fp : List Nat} (h : Rep M d a t fp) : ∀ x ∈ fp, x < w.heap.size := fun x hx => by
  obtain ⟨n, hn⟩ := h.some x hx
  exact hs.lt hn

theorem splitW {m o d a : Nat} {t : T d} {fp : List Nat} (w : World) (M : Nodes) (O : Own') (hs : Store w M O) (hr : Rep M d a t fp) (hn : fp.Nodup) (hok : Ok m o d t) (h4 : 4 ≤ fill d t) (hl : fill d t ≤ 40) :
    Calls Try.prog 32 #[ptr a] w (SplitPost w M O d a t fp) := by
  have hlt := hr.lt hs
  cases d with
  | zero =>
    obtain ⟨es, rfl, hm, rfl⟩ := hr
    have h4 : 4 ≤ es.length := h4
    have hl : es.length ≤ 40 := hl
    refine (splitLeafW a es w M O hs hm (by omega) hl).mono ?_
    rintro e w' ⟨b, x, M', O', rfl, hx, hS, ha, hb, hout, hbl, hko⟩
    have hal := hlt a List.mem_cons_self
    refine ⟨b, x.key, M', O', es.take (es.length / 2), es.drop (es.length / 2), [a], [b], rfl, ⟨es, rfl, rfl, rfl, x, hx, rfl⟩, hS, ⟨_, rfl, ha, rfl⟩, ⟨_, rfl, hb, rfl⟩, ⟨?_, fun x hx hlt => ?_, fun x hx => ?_⟩, hko⟩
    · simp; omega
    · simp at hx
      exact hout x hx (by omega)
    · simp at hx
      rcases hx with rfl | rfl
      · exact .inl List.mem_cons_self
      · exact .inr hbl
  | succ d =>
    obtain ⟨cs, fps, hm, hz, rfl⟩ := hr
    obtain ⟨ks, ts⟩ := t
    have hlen := hz.len
    simp only at hm hz hlen
    have h4 : 4 ≤ ts.length := h4
    have hl : ts.length ≤ 40 := hl
    have hkl : ks.length + 1 = ts.length := hok.1.1
    refine (splitInnerW a ks cs w M O hs hm (by omega) (by omega) (by omega)).mono ?_
    rintro e w' ⟨b, k, M', O', rfl, hk, hS, ha, hb, hout, hbl, hko⟩
    have hal := hlt a List.mem_cons_self
    obtain ⟨n1, n2⟩ := List.nodup_cons.1 hn
    rw [hlen.1] at hk ha hb
    have hfr : ∀ x ∈ fps.flatten, M' x = M x := fun x hx => hout x (fun e => n1 (e ▸ hx)) (fun e => by have := hlt x (List.mem_cons_of_mem _ hx); omega)
    have hsub1 : ∀ f ∈ fps.take (ts.length / 2), ∀ x ∈ f, x ∈ fps.flatten := fun f hf x hx => List.mem_flatten.2 ⟨f, List.mem_of_mem_take hf, hx⟩
    have hsub2 : ∀ f ∈ fps.drop (ts.length / 2), ∀ x ∈ f, x ∈ fps.flatten := fun f hf x hx => List.mem_flatten.2 ⟨f, List.mem_of_mem_drop hf, hx⟩
    have hfl : fps.flatten = (fps.take (ts.length / 2)).flatten ++ (fps.drop (ts.length / 2)).flatten := by rw [← List.flatten_append, List.take_append_drop]
    refine ⟨b, k, M', O', (ks.take (ts.length / 2 - 1), ts.take (ts.length / 2)), (ks.drop (ts.length / 2), ts.drop (ts.length / 2)), a :: (fps.take (ts.length / 2)).flatten, b :: (fps.drop (ts.length / 2)).flatten, rfl, ⟨rfl, rfl, hk⟩, hS,
      ⟨cs.take (ts.length / 2), fps.take (ts.length / 2), ha, (hz.take _).mono fun x y f hf hr => hr.frame fun z hz => hfr z (hsub1 f hf z hz), rfl⟩,
      ⟨cs.drop (ts.length / 2), fps.drop (ts.length / 2), hb, (hz.drop _).mono fun x y f hf hr => hr.frame fun z hz => hfr z (hsub2 f hf z hz), rfl⟩, ⟨?_, fun x hx hlt => ?_, fun x hx => ?_⟩, hko⟩
    · have hb1 : b ∉ a :: fps.flatten := fun h => by have := hlt b h; omega
      rw [hfl] at hn hb1
      rw [List.cons_append]
      have : (a :: ((fps.take (ts.length / 2)).flatten ++ (fps.drop (ts.length / 2)).flatten)) = (a :: (fps.take (ts.length / 2)).flatten) ++ (fps.drop (ts.length / 2)).flatten := rfl
      rw [this] at hn hb1
      rw [← List.cons_append]
      obtain ⟨q1, q2, q3⟩ := List.nodup_append.1 hn
      refine List.nodup_append.2 ⟨q1, List.nodup_cons.2 ⟨fun h => hb1 (List.mem_append_right _ h), q2⟩, fun x hx y hy e => ?_⟩
      rcases List.mem_cons.1 hy with rfl | hy
      · exact hb1 (List.mem_append_left _ (e ▸ hx))
      · exact q3 x hx y hy e
    · refine hout x (fun e => hx (e ▸ List.mem_cons_self)) (fun e => by omega)
    · rcases List.mem_append.1 hx with hx | hx
      · rcases List.mem_cons.1 hx with rfl | hx
        · exact .inl List.mem_cons_self
        · refine .inl (List.mem_cons_of_mem _ ?_)
          rw [hfl]
          exact List.mem_append_left _ hx
      · rcases List.mem_cons.1 hx with rfl | hx
        · exact .inr hbl
        · refine .inl (List.mem_cons_of_mem _ ?_)
          rw [hfl]
          exact List.mem_append_right _ hx
end Go.Proofs.Ytlgjkhdpinnccaa
