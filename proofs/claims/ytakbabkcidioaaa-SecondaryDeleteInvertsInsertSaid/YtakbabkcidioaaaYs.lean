/-
  slices.SortFunc over keys, by the shelf's contract.
-/
import Derived.Test.YtakbabkcidioaaaYd1
import Derived.Test.YtakbabkcidioaaaSm
import Derived.Test.YtakbabkcidioaaaYsl
import Derived.Shelf.SlSortCmp.NoneTotal
namespace Go.Proofs.Ytakbabkcidioaaa
open Go.RowKit Go.Sort Go.Shelf

section
variable {g : Nat} {w : World}
/-- The keys whose rows lie beside the block g. -/
abbrev KIn (g : Nat) (w : World) := {k : Key // KOk (fun b => b < w.heap.size ∧ b ≠ g) w k}
instance : Inhabited (KIn g w) := ⟨⟨⟨none, 0, []⟩, ⟨Elems.nil _ _ _, Nat.zero_le _⟩⟩⟩
def kEnc (k : KIn g w) : Value := .slice k.1.A k.1.row.length k.1.c
def kCf (a b : KIn g w) : Int := cmpR a.1.row b.1.row
theorem kSwo : SWO (ltOf (kCf (g := g) (w := w))) where
  irrefl x := by
    unfold ltOf kCf
    rw [cmpR_refl]
    rfl
  trans x y z h1 h2 := by
    unfold ltOf kCf at *
    rw [decide_eq_true_iff] at *
    exact rl_trans (a := x.1.row) (b := y.1.row) h1 h2
  ntrans x y z h1 h2 := by
    unfold ltOf kCf at *
    rw [decide_eq_false_iff_not] at *
    exact rl_le_trans (a := z.1.row) (b := y.1.row) h2 h1

theorem heap_sortWorld {α : Type} [Inhabited α] (enc : α → Value) (w : World) (blk off m : Nat) (dk : Array α) (os : Array Obj) {k : Nat} (hk : k < w.heap.size) (hne : k ≠ blk) : (sortWorld enc w blk off m dk os).heap[k]? = w.heap[k]? := by
  unfold sortWorld
  rw [heap_grow_old _ _ (by rw [size_putRow]; exact hk)]
  show ((mapBlock (Sort.ahead w m) blk (putCells enc off dk)).heap)[k]? = _
  unfold mapBlock
  simp only [Array.getElem?_modify]
  rw [if_neg (fun e => hne e.symm)]
  rfl
theorem size_sortWorld {α : Type} [Inhabited α] (enc : α → Value) (w : World) (blk off m : Nat) (dk : Array α) (os : Array Obj) : w.heap.size ≤ (sortWorld enc w blk off m dk os).heap.size := by
  unfold sortWorld
  rw [size_grow, size_putRow]
  exact Nat.le_add_right _ _
theorem below_sortWorld {α : Type} [Inhabited α] (enc : α → Value) (w : World) (blk off m : Nat) (dk : Array α) (os : Array Obj) {base : Nat} (hb : base ≤ blk) (hB : base ≤ w.heap.size) : Below base w (sortWorld enc w blk off m dk os) :=
  ⟨rfl, rfl, rfl, size_sortWorld enc w blk off m dk os, fun k hk => heap_sortWorld enc w blk off m dk os (by omega) (by omega)⟩
theorem holds_sortWorld {α : Type} [Inhabited α] (enc : α → Value) (w : World) (blk off m : Nat) (d dk : Array α) (os : Array Obj) (hb : blk < w.heap.size) (h : Holds enc w blk off d) (hs : dk.size = d.size) : Holds enc (sortWorld enc w blk off m dk os) blk off dk := by
  unfold sortWorld
  exact holds_grow enc _ os blk off dk (by rw [size_putRow]; exact hb) (holds_putRow enc (Sort.ahead w m) blk off d dk (holds_ahead enc w m blk off d h) hs)

theorem kLays (off size : Nat) : CmpLays1 Try.prog 26 #[] (kEnc (g := g) (w := w)) kCf g off size w := by
  intro m os dk _ x y
  have hof : ∀ i, (i < w.heap.size ∧ i ≠ g) → (sortWorld kEnc w g off m dk os).heap[i]? = w.heap[i]? ∧ i < (sortWorld kEnc w g off m dk os).heap.size := fun i hi => ⟨heap_sortWorld _ w g off m dk os hi.1 hi.2, Nat.lt_of_lt_of_le hi.1 (size_sortWorld _ w g off m dk os)⟩
  have hx := x.2.of hof
  have hy := y.2.of hof
  refine (cmpRows x.1.A y.1.A x.1.c y.1.c x.1.row y.1.row _ _ _ hx.el hy.el (fun _ h => h) (fun _ h => h) (by have := hx.len; omega)).mono ?_
  rintro e w' ⟨rfl, p, hp⟩
  exact ⟨rfl, p.n, p.os, hp⟩
end

/-- What the sort leaves. -/
def SoPost (base g : Nat) (keys : List Key) (w : World) (e : Ending) (w' : World) : Prop := e = .returned (.tuple #[]) ∧ ∃ keys' : List Key, keys'.Perm keys ∧ Elems 1 Key.cs w' (· < w'.heap.size) (some ⟨g, 0, none⟩) keys' ∧ (∀ k ∈ keys', KOk (· < w'.heap.size) w' k) ∧ Below base w w'

set_option maxRecDepth 100000 in
set_option maxHeartbeats 1000000 in
theorem sortKeysW {g n c base : Nat} {keys : List Key} {w : World} (ho : Own 1 Key.cs 37 base w (.slice (some ⟨g, 0, none⟩) n c) keys) (hB : base ≤ w.heap.size) (hn : n = keys.length) (hl : n ≤ 100000) (hk : ∀ k ∈ keys, KOk (fun b => b < w.heap.size ∧ b ≠ g) w k) :
    Calls Try.prog 42 #[.slice (some ⟨g, 0, none⟩) n c, .func (.func 26) #[] #[]] w (SoPost base g keys w) := by
  obtain ⟨hbg, hgl⟩ := Own.lt ho g rfl
  obtain ⟨d, hd⟩ : ∃ d : Array (KIn g w), d = (keys.attach.map fun k => (⟨k.1, hk k.1 k.2⟩ : KIn g w)).toArray := ⟨_, rfl⟩
  have hdl : d.toList.map Subtype.val = keys := by
    rw [hd]
    simp only [List.map_map]
    exact keys.attach_map_subtype_val
  have hds : d.size = n := by rw [hd, hn]; simp
  have hel := ho.elems keyLay.len rfl
  have hH : Holds kEnc w g 0 d := fun j hj => by
    have hjk : j < keys.length := by omega
    obtain ⟨b, off, e, hb, hc⟩ := hel.at_ hjk
    injection e with e
    injection e with e1 e2
    subst e1 e2
    have h0 := hc 0 _ rfl
    have hdj : (d[j]!).1 = keys[j] := by
      have h := congrArg (fun l => l[j]?) hdl
      simp only [List.getElem?_map] at h
      rw [getElem!_pos d j hj]
      rw [List.getElem?_eq_getElem hjk, Array.getElem?_toList, Array.getElem?_eq_getElem hj] at h
      exact Option.some.inj h
    obtain ⟨g', c', cur, hv, -, hg, -, -, -, -⟩ := ho.open_ (by omega)
    injection hv with hv1 _ _
    injection hv1 with hv1
    injection hv1 with hv1
    subst hv1
    refine ⟨?_, frozen_of_row _ _ _ _ _ hg⟩
    unfold kEnc
    rw [hdj]
    simpa using h0
  have eg : ∀ args w, (callFunc 26 args).run Try.prog w = .ok (.enter 26 args) w := fun args w => by kernel_rfl
  have hcon := Any.slices_SortFunc Try.sortK (kEnc (g := g) (w := w)) (fun _ => rfl) kCf kSwo 26 #[] g 0 c d w eg (kLays 0 d.size) hH hgl (by omega)
  rw [hds] at hcon
  change Calls Try.prog 42 _ _ _ at hcon
  refine hcon.mono ?_
  rintro e w' ⟨rfl, d', m, os, ⟨hs', -, hp⟩, -, rfl⟩
  have hs2 : d'.size = d.size := hs'
  refine ⟨rfl, d'.toList.map Subtype.val, ?_, fun _ => ⟨g, 0, rfl, Nat.lt_of_lt_of_le hgl (size_sortWorld _ _ _ _ _ _ _), fun i x hx j u hu => ?_⟩, fun k hk' => ?_, below_sortWorld _ _ _ _ _ _ _ hbg hB⟩
  · rw [← hdl]
    refine List.Perm.map _ ?_
    have e1 : d'.extract 0 n = d' := by rw [← hds, ← hs2]; exact Array.extract_size
    have e2 : d.extract 0 n = d := by rw [← hds]; exact Array.extract_size
    rw [e1, e2] at hp
    exact hp
  · have hH' := holds_sortWorld kEnc w g 0 m d d' os hgl hH hs2
    rw [List.getElem?_map] at hx
    have hi : i < d'.size := by
      rcases Nat.lt_or_ge i d'.size with h | h
      · exact h
      · rw [Array.getElem?_toList, Array.getElem?_eq_none h] at hx; cases hx
    rw [Array.getElem?_toList, Array.getElem?_eq_getElem hi] at hx
    simp at hx
    subst hx
    have hj : j = 0 := by
      have := (List.getElem?_eq_some_iff.1 hu).1
      simp [Key.cs] at this
      exact this
    subst hj
    simp [Key.cs] at hu
    subst hu
    have h := (hH' i hi).1
    rw [getElem!_pos d' i hi] at h
    simpa [kEnc] using h
  · obtain ⟨x, hx, rfl⟩ := List.mem_map.1 hk'
    exact x.2.of fun i hi => ⟨heap_sortWorld _ w g 0 m d' os hi.1 hi.2, Nat.lt_of_lt_of_le hi.1 (size_sortWorld _ w g 0 m d' os)⟩

/-- What the sort leaves, whatever the slice. -/
def SoAll (base : Nat) (A : Option Addr) (keys : List Key) (w : World) (e : Ending) (w' : World) : Prop := e = .returned (.tuple #[]) ∧ ∃ keys' : List Key, keys'.Perm keys ∧ Elems 1 Key.cs w' (· < w'.heap.size) A keys' ∧ (∀ k ∈ keys', KOk (· < w'.heap.size) w' k) ∧ Below base w w'
theorem sortAllW {A : Option Addr} {c base : Nat} {keys : List Key} {w : World} (ho : Own 1 Key.cs 37 base w (.slice A keys.length c) keys) (hB : base ≤ w.heap.size) (hl : keys.length ≤ 100000) (hk : ∀ k ∈ keys, KOk (fun b => b < w.heap.size ∧ (Value.slice A keys.length c).ownBlock ≠ some b) w k) :
    Calls Try.prog 42 #[.slice A keys.length c, .func (.func 26) #[] #[]] w (SoAll base A keys w) := by
  rcases Nat.eq_zero_or_pos keys.length with h0 | h0
  · have hnil : keys = [] := List.eq_nil_of_length_eq_zero h0
    subst hnil
    have hcon := AnyF.slices_SortFunc_none (P := Try.prog) (ρ := Try.sortK_ren) { Try.sortK with } A c (.func (.func 26) #[] #[]) w
    change Calls Try.prog 42 _ _ _ at hcon
    refine hcon.mono ?_
    rintro e w' ⟨rfl, rfl⟩
    exact ⟨rfl, [], List.Perm.refl _, Elems.nil _ _ _, (fun k hk => by cases hk), Below.refl _ _⟩
  · obtain ⟨g, c', cur, hv, -, -, -, -, -, -⟩ := ho.open_ h0
    injection hv with h1 _ h3
    subst h1 h3
    refine (sortKeysW ho hB rfl hl fun k hk' => (hk k hk').of fun i hi => ⟨rfl, hi.1, fun e => hi.2 (by rw [e]; rfl)⟩).mono ?_
    rintro e w' ⟨rfl, keys', h1, h2, h3, h4⟩
    exact ⟨rfl, keys', h1, h2, h3, h4⟩
end Go.Proofs.Ytakbabkcidioaaa
