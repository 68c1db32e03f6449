/-
  The walks of leaf, fill, search, childIndex.
  Trees in memory: which nodes make a tree, what a change leaves of it. No program's walk.
  The walk of split at a leaf.
  The walk of split at an inner node.
  The walk of split at any node, in terms of trees.
-/
import Derived.Test.YtjdcnkbkbcfhfaaHm06
import Derived.Test.YtjdcnkbkbcfhfaaHm07
import Derived.Deep.QuietTactic
import Derived.BigQuiet
import Derived.Deep.RegionHeld3
import Derived.Deep.Cut
import Derived.Deep.CutRange
import Derived.Deep.RegionLaw
namespace Go.Proofs.Ytjdcnkbkbcfhfaa
open Go.RowKit Go.Sort

abbrev ptr (a : Nat) : Value := .pointer (some ⟨a, 0, none⟩)

set_option maxRecDepth 100000 in
theorem leafW (a : Nat) (w : World) (A2 : Option Addr) (n2 c2 : Nat) (h2 : w.cell? ⟨a, 2, none⟩ = some (.slice A2 n2 c2)) :
    Calls Try.prog 37 #[ptr a] w fun e w' => e = .returned (.bool (n2 == 0)) ∧ w = w' := by
  have e : (n2 == 0) = ((n2 : Int) == 0) := by
    rcases Nat.eq_zero_or_pos n2 with h | h
    · subst h; rfl
    · rw [beq_false_of_ne (by omega), beq_false_of_ne (by omega)]
  rw [e]
  go_enter Try.func37, Try.ntmps37
  go_wp2_with fail
  go_ret
  exact ⟨rfl, rfl⟩

set_option maxRecDepth 100000 in
theorem fillW (a : Nat) (w : World) (A0 A2 : Option Addr) (n0 c0 n2 c2 : Nat) (h0 : w.cell? ⟨a, 0, none⟩ = some (.slice A0 n0 c0)) (h2 : w.cell? ⟨a, 2, none⟩ = some (.slice A2 n2 c2)) :
    Calls Try.prog 41 #[ptr a] w fun e w' => e = .returned (.int .i64 (if n2 = 0 then n0 else n2 : Nat)) ∧ w = w' := by
  have HL := Lib.hid (leafW a w A2 n2 c2 h2)
  by_cases hn : n2 = 0
  · have hb : (n2 == 0) = true := by simp [hn]
    rw [if_pos hn]
    clear hn
    go_enter Try.func41, Try.ntmps41
    go_wp2_with fail
    refine HL.out.mono ?_
    rintro e w' ⟨rfl, rfl⟩
    go_wp2_with fail
    go_ret
    exact ⟨rfl, rfl⟩
  · have hb : (n2 == 0) = false := by simp [hn]
    rw [if_neg hn]
    clear hn
    go_enter Try.func41, Try.ntmps41
    go_wp2_with fail
    refine HL.out.mono ?_
    rintro e w' ⟨rfl, rfl⟩
    go_wp2_with fail
    go_ret
    exact ⟨rfl, rfl⟩

set_option maxRecDepth 100000 in
theorem searchW (a : Nat) (w : World) (A0 : Option Addr) (c0 : Nat) (xs : List Ent) (B : Option Addr) (d : Nat) (t : Row) (K R : Nat → Prop) (h0 : w.cell? ⟨a, 0, none⟩ = some (.slice A0 xs.length c0))
    (hx : Elems 2 Ent.cs w (· < w.heap.size) A0 xs) (hK : ∀ k, K k → k < w.heap.size) (hR : ∀ k, R k → k < w.heap.size) (hk : ∀ x ∈ xs, KOk K w x.key) (hs : Ord xs) (hy : Elems 3 Val.cs w R B t) (hl : xs.length ≤ 1000) :
    Calls Try.prog 39 #[ptr a, .slice B t.length d] w (BsPost w er xs t) := by
  have HB := Lib.hid (bsEnts A0 c0 xs B d t w K R hx hK hR hk hs hy hl)
  clear hx hK hR hk hs hy
  go_enter Try.func39, Try.ntmps39
  go_wp2_with fail
  refine HB.out.mono ?_
  rintro e w' ⟨i, f, rfl, hA, hb⟩
  have HA := Lib.hid hA
  clear hA
  go_wp2_with fail
  go_ret2
  exact ⟨i, f, rfl, HA.out, hb⟩

set_option maxRecDepth 100000 in
theorem childIdxW (a : Nat) (w : World) (A1 : Option Addr) (c1 : Nat) (ks : List Key) (B : Option Addr) (d : Nat) (t : Row) (K R : Nat → Prop) (h1 : w.cell? ⟨a, 1, none⟩ = some (.slice A1 ks.length c1))
    (hx : Elems 1 Key.cs w (· < w.heap.size) A1 ks) (hK : ∀ k, K k → k < w.heap.size) (hR : ∀ k, R k → k < w.heap.size) (hk : ∀ x ∈ ks, KOk K w x) (hs : ks.Pairwise fun a b => rl a.row b.row) (hy : Elems 3 Val.cs w R B t) (hl : ks.length ≤ 1000) :
    Calls Try.prog 38 #[ptr a, .slice B t.length d] w fun e w' => ∃ j : Nat, e = .returned (.int .i64 j) ∧ Cov ks t j ∧ Below w.heap.size w w' := by
  have HB := Lib.hid (bsKeys A1 c1 ks B d t w K R hx hK hR hk hs hy hl)
  have HS := Lib.hid hs
  clear hx hK hR hk hs hy
  go_enter Try.func38, Try.ntmps38
  go_wp2_with fail
  refine HB.out.mono ?_
  rintro e w' ⟨i, f, rfl, hA, hb⟩
  have hle := hA.le
  have HA := Lib.hid (cov_of HS.out hA)
  clear hA
  cases f
  · go_wp2_with fail
    go_ret
    exact ⟨i, rfl, by simpa using HA.out, hb⟩
  · go_wp2_with fail
    go_ret
    exact ⟨i + 1, ret_int (by omega), by simpa using HA.out, hb⟩
end Go.Proofs.Ytjdcnkbkbcfhfaa

namespace Go.Proofs.Ytjdcnkbkbcfhfaa

/-- Three lists hand in hand. -/
inductive Z3 {α β γ : Type} (R : α → β → γ → Prop) : List α → List β → List γ → Prop
  | nil : Z3 R [] [] []
  | cons {a : α} {b : β} {c : γ} {us : List α} {bs : List β} {cs : List γ} : R a b c → Z3 R us bs cs → Z3 R (a :: us) (b :: bs) (c :: cs)

section
variable {α β γ : Type} {R R' : α → β → γ → Prop}
theorem Z3.len {us : List α} {bs : List β} {cs : List γ} (h : Z3 R us bs cs) : us.length = bs.length ∧ cs.length = bs.length := by
  induction h with
  | nil => exact ⟨rfl, rfl⟩
  | cons _ _ ih => simp [ih.1, ih.2]
theorem Z3.mono {us : List α} {bs : List β} {cs : List γ} (h : Z3 R us bs cs) : (∀ a b c, c ∈ cs → R a b c → R' a b c) → Z3 R' us bs cs := by
  induction h with
  | nil => exact fun _ => .nil
  | cons h _ ih => exact fun k => .cons (k _ _ _ List.mem_cons_self h) (ih fun a b c hc => k a b c (List.mem_cons_of_mem _ hc))
theorem Z3.append {us us2 : List α} {bs bs' : List β} {cs cs' : List γ} (h : Z3 R us bs cs) (k : Z3 R us2 bs' cs') : Z3 R (us ++ us2) (bs ++ bs') (cs ++ cs') := by
  induction h with
  | nil => exact k
  | cons h _ ih => exact .cons h ih
theorem Z3.take {us : List α} {bs : List β} {cs : List γ} (h : Z3 R us bs cs) : ∀ n, Z3 R (us.take n) (bs.take n) (cs.take n) := by
  induction h with
  | nil => intro n; simp; exact .nil
  | cons h _ ih =>
    intro n
    cases n with
    | zero => exact .nil
    | succ n => exact .cons h (ih n)
theorem Z3.drop {us : List α} {bs : List β} {cs : List γ} (h : Z3 R us bs cs) : ∀ n, Z3 R (us.drop n) (bs.drop n) (cs.drop n) := by
  induction h with
  | nil => intro n; simp; exact .nil
  | cons h t ih =>
    intro n
    cases n with
    | zero => exact .cons h t
    | succ n => exact ih n
theorem Z3.at_ {us : List α} {bs : List β} {cs : List γ} (h : Z3 R us bs cs) : ∀ {i : Nat} {b : β}, bs[i]? = some b → ∃ a c, us[i]? = some a ∧ cs[i]? = some c ∧ R a b c := by
  induction h with
  | nil => intro i b hb; simp at hb
  | cons h _ ih =>
    intro i b hb
    cases i with
    | zero =>
      simp at hb
      subst hb
      exact ⟨_, _, rfl, rfl, h⟩
    | succ i => exact ih hb
theorem Z3.mem {us : List α} {bs : List β} {cs : List γ} (h : Z3 R us bs cs) : ∀ {c : γ}, c ∈ cs → ∃ a b, b ∈ bs ∧ R a b c := by
  induction h with
  | nil => intro c hc; cases hc
  | cons h _ ih =>
    intro c hc
    rcases List.mem_cons.1 hc with rfl | hc
    · exact ⟨_, _, List.mem_cons_self, h⟩
    · obtain ⟨a, b, hb, hr⟩ := ih hc
      exact ⟨a, b, List.mem_cons_of_mem _ hb, hr⟩
theorem Z3.one {a : α} {b : β} {c : γ} (h : R a b c) : Z3 R [a] [b] [c] := .cons h .nil
theorem Z3.two {a a' : α} {b b' : β} {c c' : γ} (h : R a b c) (h' : R a' b' c') : Z3 R [a, a'] [b, b'] [c, c'] := .cons h (.one h')
end

/-- The node a is the top of the tree t; its nodes are fp. -/
def Rep (M : Nodes) : (d : Nat) → Nat → T d → List Nat → Prop
  | 0, a, t, fp => ∃ es : List Ent, es = t ∧ M a = some ⟨es, [], []⟩ ∧ fp = [a]
  | d + 1, a, t, fp => ∃ cs fps, M a = some ⟨[], t.1, cs⟩ ∧ Z3 (Rep M d) cs t.2 fps ∧ fp = a :: fps.flatten

theorem Rep.frame {M M' : Nodes} : ∀ {d a : Nat} {t : T d} {fp : List Nat}, Rep M d a t fp → (∀ x ∈ fp, M' x = M x) → Rep M' d a t fp
  | 0, a, t, fp, h, hk => by
    obtain ⟨es, e, hm, rfl⟩ := h
    exact ⟨es, e, (hk a List.mem_cons_self).trans hm, rfl⟩
  | d + 1, a, t, fp, h, hk => by
    obtain ⟨cs, fps, hm, hz, rfl⟩ := h
    exact ⟨cs, fps, (hk a List.mem_cons_self).trans hm, hz.mono fun b c f hf hr => hr.frame fun x hx => hk x (List.mem_cons_of_mem _ (List.mem_flatten.2 ⟨f, hf, hx⟩)), rfl⟩
theorem Rep.top {M : Nodes} : ∀ {d a : Nat} {t : T d} {fp : List Nat}, Rep M d a t fp → a ∈ fp
  | 0, _, _, _, ⟨_, _, _, h⟩ => by rw [h]; exact List.mem_cons_self
  | _ + 1, _, _, _, ⟨_, _, _, _, h⟩ => by rw [h]; exact List.mem_cons_self
theorem Rep.some {M : Nodes} : ∀ {d a : Nat} {t : T d} {fp : List Nat}, Rep M d a t fp → ∀ x ∈ fp, ∃ n, M x = some n
  | 0, a, t, fp, ⟨es, _, hm, h⟩, x, hx => by
    rw [h] at hx
    rw [List.mem_singleton.1 hx]
    exact ⟨_, hm⟩
  | d + 1, a, t, fp, ⟨cs, fps, hm, hz, h⟩, x, hx => by
    rw [h] at hx
    rcases List.mem_cons.1 hx with rfl | hx
    · exact ⟨_, hm⟩
    · obtain ⟨f, hf, hx⟩ := List.mem_flatten.1 hx
      obtain ⟨_, _, _, hr⟩ := hz.mem hf
      exact hr.some x hx
/-- What M holds at the top. -/
def NCof (d : Nat) (t : T d) (cs : List Nat) (n : NC) : Prop := match d with
  | 0 => ∃ es : List Ent, es = t ∧ n = ⟨es, [], []⟩ ∧ cs = []
  | _ + 1 => n = ⟨[], t.1, cs⟩ ∧ cs.length = t.2.length
theorem Rep.node {M : Nodes} : ∀ {d a : Nat} {t : T d} {fp : List Nat}, Rep M d a t fp → ∃ n cs, M a = Option.some n ∧ NCof d t cs n
  | 0, _, _, _, ⟨es, e, hm, _⟩ => ⟨_, [], hm, es, e, rfl, rfl⟩
  | _ + 1, _, _, _, ⟨cs, _, hm, hz, _⟩ => ⟨_, cs, hm, rfl, hz.len.1⟩
/-- The number that fill tells. -/
theorem NCof.fill {d : Nat} {t : T d} {cs : List Nat} {n : NC} (h : NCof d t cs n) (hf : 1 ≤ fill d t) : (if n.cs.length = 0 then n.es.length else n.cs.length) = fill d t := by
  cases d with
  | zero =>
    obtain ⟨es, rfl, rfl, rfl⟩ := h
    rfl
  | succ d =>
    obtain ⟨rfl, hl⟩ := h
    have hf : 1 ≤ t.2.length := hf
    show (if cs.length = 0 then 0 else cs.length) = t.2.length
    rw [if_neg (by omega), hl]
theorem NCof.fill0 {d : Nat} {t : T d} {cs : List Nat} {n : NC} (h : NCof d t cs n) (hd : d = 0 ∨ 1 ≤ Go.Proofs.Ytjdcnkbkbcfhfaa.fill d t) : (if n.cs.length = 0 then n.es.length else n.cs.length) = Go.Proofs.Ytjdcnkbkbcfhfaa.fill d t := by
  rcases hd with rfl | hd
  · obtain ⟨es, rfl, rfl, rfl⟩ := h
    rfl
  · exact h.fill hd

/-- From M (H blocks were there) to M': the tree's nodes fp are now fp'. -/
structure Chg (H : Nat) (M M' : Nodes) (fp fp' : List Nat) : Prop where
  nd : fp'.Nodup
  out : ∀ x, x ∉ fp → x < H → M' x = M x
  sub : ∀ x ∈ fp', x ∈ fp ∨ H ≤ x
theorem Chg.trans {H H1 : Nat} {M M1 M2 : Nodes} {fp fp1 fp2 : List Nat} (h : Chg H M M1 fp fp1) (k : Chg H1 M1 M2 fp1 fp2) (hH : H ≤ H1) : Chg H M M2 fp fp2 := by
  refine ⟨k.nd, fun x hx hlt => ?_, fun x hx => ?_⟩
  · refine (k.out x (fun hm => ?_) (Nat.lt_of_lt_of_le hlt hH)).trans (h.out x hx hlt)
    rcases h.sub x hm with h1 | h1
    · exact hx h1
    · omega
  · rcases k.sub x hx with h1 | h1
    · exact h.sub x h1
    · exact .inr (Nat.le_trans hH h1)
theorem Chg.refl {H : Nat} {M : Nodes} {fp : List Nat} (h : fp.Nodup) : Chg H M M fp fp := ⟨h, fun _ _ _ => rfl, fun _ hx => .inl hx⟩
theorem Chg.same {H : Nat} {M M' : Nodes} {fp : List Nat} (h : fp.Nodup) (hm : ∀ x, x ∉ fp → M' x = M x) : Chg H M M' fp fp := ⟨h, fun x hx _ => hm x hx, fun _ hx => .inl hx⟩

theorem nodup_mid {a : Nat} {F1 Fm F2 G : List Nat} {H : Nat} (hn : (a :: (F1 ++ Fm ++ F2)).Nodup) (hH : ∀ x ∈ a :: (F1 ++ Fm ++ F2), x < H) (hG : G.Nodup) (hs : ∀ x ∈ G, x ∈ Fm ∨ H ≤ x) : (a :: (F1 ++ G ++ F2)).Nodup := by
  obtain ⟨h1, h2⟩ := List.nodup_cons.1 hn
  obtain ⟨h3, h4, h5⟩ := List.nodup_append.1 h2
  obtain ⟨h6, _, h8⟩ := List.nodup_append.1 h3
  have hlt : ∀ x, x = a ∨ x ∈ F1 ∨ x ∈ F2 → x < H := fun x hx => hH x (by
    rcases hx with rfl | hx | hx
    · exact List.mem_cons_self
    · exact List.mem_cons_of_mem _ (List.mem_append_left _ (List.mem_append_left _ hx))
    · exact List.mem_cons_of_mem _ (List.mem_append_right _ hx))
  refine List.nodup_cons.2 ⟨fun hm => ?_, List.nodup_append.2 ⟨List.nodup_append.2 ⟨h6, hG, fun x hx y hy e => ?_⟩, h4, fun x hx y hy e => ?_⟩⟩
  · rcases List.mem_append.1 hm with hm | hm
    · rcases List.mem_append.1 hm with hm | hm
      · exact h1 (List.mem_append_left _ (List.mem_append_left _ hm))
      · rcases hs _ hm with hm | hm
        · exact h1 (List.mem_append_left _ (List.mem_append_right _ hm))
        · have := hlt a (.inl rfl); omega
    · exact h1 (List.mem_append_right _ hm)
  · subst e
    rcases hs _ hy with hm | hm
    · exact h8 x hx x hm rfl
    · have := hlt x (.inr (.inl hx)); omega
  · subst e
    rcases List.mem_append.1 hx with hx | hx
    · exact h5 x (List.mem_append_left _ hx) x hy rfl
    · rcases hs _ hx with hm | hm
      · exact h5 x (List.mem_append_right _ hm) x hy rfl
      · have := hlt x (.inr (.inr hy)); omega

/-- The children from i to j are laid anew. -/
theorem z3_mid {M M' : Nodes} {H d a i j : Nat} {cs : List Nat} {ts : List (T d)} {fps : List (List Nat)} (hz : Z3 (Rep M d) cs ts fps) (hij : i ≤ j) (_hj : j ≤ ts.length) (hn : (a :: fps.flatten).Nodup) (hH : ∀ x ∈ a :: fps.flatten, x < H)
    {cm : List Nat} {tm : List (T d)} {fm : List (List Nat)} (hz' : Z3 (Rep M' d) cm tm fm) (hg : fm.flatten.Nodup) (hs : ∀ x ∈ fm.flatten, x ∈ ((fps.drop i).take (j - i)).flatten ∨ H ≤ x)
    (hout : ∀ x, x ∉ ((fps.drop i).take (j - i)).flatten → x ≠ a → x < H → M' x = M x) :
    Z3 (Rep M' d) (cs.take i ++ cm ++ cs.drop j) (ts.take i ++ tm ++ ts.drop j) (fps.take i ++ fm ++ fps.drop j) ∧ (a :: (fps.take i ++ fm ++ fps.drop j).flatten).Nodup ∧ ∀ x ∈ a :: (fps.take i ++ fm ++ fps.drop j).flatten, x ∈ a :: fps.flatten ∨ H ≤ x := by
  have hsplit : fps = fps.take i ++ (fps.drop i).take (j - i) ++ fps.drop j := by
    rw [List.append_assoc]
    conv => lhs; rw [← List.take_append_drop i fps, ← List.take_append_drop (j - i) (fps.drop i)]
    rw [List.drop_drop, show i + (j - i) = j from by omega]
  have hfl : fps.flatten = (fps.take i).flatten ++ ((fps.drop i).take (j - i)).flatten ++ (fps.drop j).flatten := by
    conv => lhs; rw [hsplit]
    rw [List.flatten_append, List.flatten_append]
  have hfl' : (fps.take i ++ fm ++ fps.drop j).flatten = (fps.take i).flatten ++ fm.flatten ++ (fps.drop j).flatten := by
    rw [List.flatten_append, List.flatten_append]
  rw [hfl] at hn hH
  have hn' := hn
  obtain ⟨n1, n2⟩ := List.nodup_cons.1 hn'
  obtain ⟨n3, n4, n5⟩ := List.nodup_append.1 n2
  obtain ⟨n6, n7, n8⟩ := List.nodup_append.1 n3
  have k1 : ∀ x ∈ (fps.take i).flatten, M' x = M x := fun x hx => hout x (fun h => n8 x hx x h rfl) (fun e => n1 (e ▸ List.mem_append_left _ (List.mem_append_left _ hx))) (hH x (List.mem_cons_of_mem _ (List.mem_append_left _ (List.mem_append_left _ hx))))
  have k2 : ∀ x ∈ (fps.drop j).flatten, M' x = M x := fun x hx => hout x (fun h => n5 x (List.mem_append_right _ h) x hx rfl) (fun e => n1 (e ▸ List.mem_append_right _ hx)) (hH x (List.mem_cons_of_mem _ (List.mem_append_right _ hx)))
  refine ⟨(((hz.take i).mono fun b c f hf hr => hr.frame fun x hx => k1 x (List.mem_flatten.2 ⟨f, hf, hx⟩)).append hz').append ((hz.drop j).mono fun b c f hf hr => hr.frame fun x hx => k2 x (List.mem_flatten.2 ⟨f, hf, hx⟩)), ?_, fun x hx => ?_⟩
  · rw [hfl']
    exact nodup_mid hn hH hg hs
  · rw [hfl'] at hx
    rw [hfl]
    rcases List.mem_cons.1 hx with rfl | hx
    · exact .inl List.mem_cons_self
    · rcases List.mem_append.1 hx with hx | hx
      · rcases List.mem_append.1 hx with hx | hx
        · exact .inl (List.mem_cons_of_mem _ (List.mem_append_left _ (List.mem_append_left _ hx)))
        · rcases hs x hx with hx | hx
          · exact .inl (List.mem_cons_of_mem _ (List.mem_append_left _ (List.mem_append_right _ hx)))
          · exact .inr hx
      · exact .inl (List.mem_cons_of_mem _ (List.mem_append_right _ hx))

/-- One child. -/
theorem mid_one {γ : Type} {fps : List γ} {i : Nat} {f : γ} (h : fps[i]? = some f) : (fps.drop i).take (i + 1 - i) = [f] := by
  obtain ⟨h1, h2⟩ := List.getElem?_eq_some_iff.1 h
  rw [show i + 1 - i = 1 from by omega, List.drop_eq_getElem_cons h1, h2]
  rfl
theorem mid_two {γ : Type} {fps : List γ} {i : Nat} {f g : γ} (h : fps[i]? = some f) (k : fps[i + 1]? = some g) : (fps.drop i).take (i + 2 - i) = [f, g] := by
  obtain ⟨h1, h2⟩ := List.getElem?_eq_some_iff.1 h
  obtain ⟨k1, k2⟩ := List.getElem?_eq_some_iff.1 k
  rw [show i + 2 - i = 2 from by omega, List.drop_eq_getElem_cons h1, h2, List.drop_eq_getElem_cons k1, k2]
  rfl
theorem set_eq {γ : Type} {xs : List γ} {i : Nat} (h : i < xs.length) (y : γ) : xs.set i y = xs.take i ++ [y] ++ xs.drop (i + 1) := by
  rw [List.set_eq_take_append_cons_drop, if_pos h, List.append_assoc]
  rfl

/-- One child is changed by a callee. -/
theorem Rep.set_child {M M' : Nodes} {H d a i : Nat} {t : T (d + 1)} {fp : List Nat} {cs : List Nat} {fps : List (List Nat)} (hm : M a = Option.some ⟨[], t.1, cs⟩) (hz : Z3 (Rep M d) cs t.2 fps) (hfp : fp = a :: fps.flatten) (hn : fp.Nodup) (hH : ∀ x ∈ fp, x < H)
    {b : Nat} {f f' : List Nat} {c' : T d} (hb : cs[i]? = Option.some b) (hf : fps[i]? = Option.some f) (hr : Rep M' d b c' f') (hc : Chg H M M' f f') :
    ∃ fps', M' a = Option.some ⟨[], t.1, cs⟩ ∧ Z3 (Rep M' d) cs (t.2.set i c') fps' ∧ Chg H M M' fp (a :: fps'.flatten) ∧ fps'[i]? = Option.some f' := by
  subst hfp
  have hil : i < fps.length := (List.getElem?_eq_some_iff.1 hf).1
  have hlen := hz.len
  have hmid : ((fps.drop i).take (i + 1 - i)).flatten = f := by rw [mid_one hf]; simp
  have haf : a ∉ f := fun h => (List.nodup_cons.1 hn).1 (List.mem_flatten.2 ⟨f, List.mem_of_getElem? hf, h⟩)
  obtain ⟨z1, z2, z3⟩ := z3_mid (M' := M') (H := H) (a := a) (i := i) (j := i + 1) hz (Nat.le_succ _) (by omega) hn hH (Z3.one hr) (by simpa using hc.nd) (by rw [hmid]; simpa using hc.sub) (by rw [hmid]; exact fun x h1 _ h3 => hc.out x h1 h3)
  refine ⟨fps.take i ++ [f'] ++ fps.drop (i + 1), (hc.out a haf (hH a List.mem_cons_self)).trans hm, ?_, ⟨z2, fun x hx hlt => hc.out x (fun h => hx (List.mem_cons_of_mem _ (List.mem_flatten.2 ⟨f, List.mem_of_getElem? hf, h⟩))) hlt, z3⟩, ?_⟩
  · rw [set_eq (by omega)]
    have : cs.take i ++ [b] ++ cs.drop (i + 1) = cs := by
      obtain ⟨q1, q2⟩ := List.getElem?_eq_some_iff.1 hb
      rw [List.append_assoc, List.singleton_append, ← q2, ← List.drop_eq_getElem_cons q1, List.take_append_drop]
    rw [this] at z1
    exact z1
  · rw [← set_eq hil, List.getElem?_set]
    simp [hil]

end Go.Proofs.Ytjdcnkbkbcfhfaa

namespace Go.Proofs.Ytjdcnkbkbcfhfaa
open Go.RowKit Go.Sort

theorem nodeNil (w : World) (i : Nat) : Fld i ⟨[], [], []⟩ w (.slice none 0 0) := by
  rcases i with _ | _ | i <;> exact Own.nil w

/-- The part behind m of an own slice, as elements. -/
theorem own_drop {α : Type} {sz : Nat} {cs : α → List Value} {e : TypeId} {w : World} {g n c m : Nat} {xs : List α} (L : Lay sz cs) (h : Own sz cs e 0 w (.slice (some ⟨g, 0, none⟩) n c) xs) (hm : m < n) (hn : n = xs.length) (hc : n ≤ c) :
    Elems sz cs w (· < w.heap.size) (some ⟨g, m * sz, none⟩) (xs.drop m) := by
  have h1 := (h.elems L.len rfl).cut (k := m) (c := c) (by omega) (by omega)
  rw [if_neg (by omega)] at h1
  have e1 : (some (⟨g, 0, none⟩ : Addr)).map (·.add (m * sz)) = some ⟨g, m * sz, none⟩ := by
    show some (Addr.add ⟨g, 0, none⟩ (m * sz)) = _
    rw [Addr.add_lit, Nat.zero_add]
  rw [e1] at h1
  exact h1.more fun k hk => (Own.lt h k hk).2

theorem same0 {xs ys : List Ent} {ks : List Key} {cs : List Nat} : ∀ j, j < 3 → j ≠ 0 → ∀ w v, Fld j ⟨xs, ks, cs⟩ w v → Fld j ⟨ys, ks, cs⟩ w v := fun j _ hj w v h => by
  rcases j with _ | _ | j
  · exact absurd rfl hj
  · exact h
  · exact h
theorem same1 {xs : List Ent} {ks ks' : List Key} {cs : List Nat} : ∀ j, j < 3 → j ≠ 1 → ∀ w v, Fld j ⟨xs, ks, cs⟩ w v → Fld j ⟨xs, ks', cs⟩ w v := fun j _ hj w v h => by
  rcases j with _ | _ | j
  · exact h
  · exact absurd rfl hj
  · exact h
theorem same2 {xs : List Ent} {ks : List Key} {cs cs' : List Nat} : ∀ j, j < 3 → j ≠ 2 → ∀ w v, Fld j ⟨xs, ks, cs⟩ w v → Fld j ⟨xs, ks, cs'⟩ w v := fun j hj hj' w v h => by
  rcases j with _ | _ | _ | j
  · exact h
  · exact h
  · exact absurd rfl hj'
  · omega

/-- A leaf is split: the new node b, the entry x whose key parts them. -/
def SplitLeaf (w : World) (M : Nodes) (O : Own') (a : Nat) (es : List Ent) (e : Ending) (w' : World) : Prop :=
  ∃ (b : Nat) (x : Ent) (M' : Nodes) (O' : Own'), e = .returned (.tuple #[ptr b, .slice x.key.A x.key.row.length x.key.c]) ∧ es[es.length / 2]? = some x ∧ St w O w' M' O'
    ∧ M' a = some ⟨es.take (es.length / 2), [], []⟩ ∧ M' b = some ⟨es.drop (es.length / 2), [], []⟩ ∧ (∀ y, y ≠ a → y ≠ b → M' y = M y) ∧ w.heap.size ≤ b ∧ KOk (fun k => O' k = .row) w' x.key

set_option maxRecDepth 100000 in
set_option maxHeartbeats 2000000 in
theorem splitLeafW (a : Nat) (es : List Ent) (w : World) (M : Nodes) (O : Own') (hs : Store w M O) (ha : M a = some ⟨es, [], []⟩) (h2 : 2 ≤ es.length) (hl : es.length ≤ 40) :
    Calls Try.prog 42 #[ptr a] w (SplitLeaf w M O a es) := by
  obtain ⟨V, hV⟩ := hs.at_ a _ ha
  obtain ⟨A0, c0, A1, c1, A2, c2, e0, e1, e2, h0, h1, hc2, hfr, o0, o1, o2⟩ := hV.cells
  obtain ⟨g, c, cur, hv, -, hg, hcl, hcm, -, -⟩ := o0.open_ (by show 0 < es.length; omega)
  injection hv with hv1 _ hv2
  subst hv1 hv2
  simp only at h0 hc2 o0 hcl
  obtain ⟨m, hm⟩ : ∃ m, m = es.length / 2 := ⟨_, rfl⟩
  obtain ⟨n, hn⟩ : ∃ n, n = es.length := ⟨_, rfl⟩
  rw [← hn] at h0 o0 hcl
  have hmn : 1 ≤ m ∧ m < n := by omega
  have hdiv : (n : Int) / 2 = (m : Int) := by omega
  have hal := hs.lt ha
  -- the new node
  obtain ⟨b, hb⟩ : ∃ b, b = w.heap.size := ⟨_, rfl⟩
  obtain ⟨w1, hw1⟩ : ∃ w1, w1 = w.alloc (.cells #[.slice none 0 0, .slice none 0 0, .slice none 0 0] 85) := ⟨_, rfl⟩
  have hS1 : St w O w1 M O := by rw [hw1]; exact (St.refl hs).alloc _
  have hb1 : w1.heap[b]? = some (.cells #[.slice none 0 0, .slice none 0 0, .slice none 0 0] 85 (0, 0)) := by rw [hw1, hb]; exact heap_alloc_new w _
  obtain ⟨O1, hS1, hNb, -, hO1, -⟩ := hS1.fresh (a := b) (n := ⟨[], [], []⟩) (V := fun _ => .slice none 0 0) hb1 ⟨hs.free b (by omega), by omega⟩ (fun i _ => nodeNil _ _) (fun i _ g hg => by cases hg) (fun i j g _ _ hg _ => by cases hg) (fun e he => by cases he) (fun k hk => by cases hk)
  subst hb
  have hba : ¬ w.heap.size = a := by omega
  have hab : ¬ a = w.heap.size := by omega
  have hNa : NodeAt w1 O1 a ⟨es, [], []⟩ V := hV.below hs.free (by rw [hw1]; exact (Below.refl _ _).alloc (Nat.le_refl _) _) hO1
  have c10 := hNa.cell (i := 0) (by omega) e0
  have c12 := hNa.cell (i := 2) (by omega) e2
  have o10 : Own 2 Ent.cs 81 0 w1 (.slice (some ⟨g, 0, none⟩) n c0) es := by
    have := hNa.fld 0 (by omega)
    rw [e0, ← hn] at this
    exact this
  simp only [← hn] at c10
  simp only [List.length_nil] at c12 hc2
  have HFL := Lib.hid (fillW a w _ A2 n c0 0 c2 h0 hc2)
  have HLF := Lib.hid (leafW a w1 A2 0 c2 c12)
  have HC1 := Lib.hid (cloneEnt (some ⟨g, m * 2, none⟩) (n - m) (c0 - m) (es.drop m) w1 (· < w1.heap.size) (own_drop entLay o10 hmn.2 hn hcl) (fun _ h => h) (by rw [List.length_drop, hn]) (by rw [List.length_drop]; omega))
  have HW1 := Lib.hid hw1
  have hcm0 : ¬ (c0 = m) := by omega
  have hmc : (m : Int) ≤ (n : Int) := by omega
  have hmc2 : (m : Int) ≤ (c0 : Int) := by omega
  have hnl : n ≤ 40 := by omega
  have hml : m ≤ 40 := by omega
  have HN := Lib.hid hn
  have HM := Lib.hid hm
  clear hw1 hn hm
  go_enter Try.func42, Try.ntmps42
  go_wp2_with fail
  refine HFL.out.mono ?_
  rintro e w' ⟨rfl, rfl⟩
  go_wp2_with fail
  rw [← HW1.out]
  refine HLF.out.mono ?_
  rintro e w' ⟨rfl, rfl⟩
  go_wp2_with fail
  refine HC1.out.mono ?_
  rintro e w2 ⟨v1, rfl, ho2, hb2⟩
  obtain ⟨g1, k1, cur1, rfl, hg1b, hg1, hk1, hk1m, hs1, ht1⟩ := ho2.open_ (by rw [List.length_drop, ← HN.out]; omega)
  have hlen1 : (es.drop m).length = n - m := by rw [List.length_drop, HN.out]
  rw [hlen1] at ho2 hk1
  have hal1 : a < w1.heap.size := hS1.store.lt ((upd_ne hab).trans ha)
  have hbl1 : w.heap.size < w1.heap.size := hS1.store.lt (upd_same _ _ _)
  have c2a := (hb2.cell (p := ⟨a, 0, none⟩) hal1).trans c10
  have c2b : w2.cell? ⟨w.heap.size, 0, none⟩ = some (.slice none 0 0) := (hb2.cell (p := ⟨w.heap.size, 0, none⟩) hbl1).trans (hNb.cell (i := 0) (by omega) rfl)
  have f2b := (hb2.frozen (p := ⟨w.heap.size, 0, none⟩) hbl1).trans (hNb.frozen 0)
  have hl1 : ∀ k, (Value.slice (some ⟨g1, 0, none⟩) (n - m) k1).ownBlock = some k → w1.heap.size ≤ k := fun k hk => (Own.lt ho2 k hk).1
  obtain ⟨hS3, hNb3⟩ := hS1.field_new (n' := ⟨es.drop m, [], []⟩) (upd_same _ _ _) hNb (i := 0) (by omega) hb2 (ho2.mono (Nat.zero_le _)) hl1 same0 (fun e he => hNa.rowe e (List.mem_of_mem_drop he)) (fun k hk => by cases hk)
  have hNa3 := hNb.other_new hNa hab hS1.store.free (i := 0) hb2 hl1
  have o30 : Own 2 Ent.cs 81 0 (w2.setCell ⟨w.heap.size, 0, none⟩ (.slice (some ⟨g1, 0, none⟩) (n - m) k1)) (.slice (some ⟨g, 0, none⟩) n c0) es := by
    have := hNa3.fld 0 (by omega)
    rw [e0] at this
    simp only [← HN.out] at this
    exact this
  have HC2 := Lib.hid (cloneEnt (some ⟨g, 0, none⟩) m c0 (es.take m) _ _ (((o30.elems entLay.len rfl).take m).more fun k hk => (Own.lt o30 k hk).2) (fun _ h => h) (by rw [List.length_take, HM.out]; omega) (by rw [List.length_take]; omega))
  clear HC1 HLF HFL HW1
  go_wp2_with fail
  refine HC2.out.mono ?_
  rintro e w4 ⟨v2, rfl, ho4, hb4⟩
  have hlen2 : (es.take m).length = m := by rw [List.length_take, ← HN.out]; omega
  obtain ⟨g2, k2, cur2, rfl, hg2b, hg2, hk2, hk2m, hs2, ht2⟩ := ho4.open_ (by omega)
  rw [hlen2] at ho4 hk2
  have hl2 : ∀ k, (Value.slice (some ⟨g2, 0, none⟩) m k2).ownBlock = some k → _ ≤ k := fun k hk => (Own.lt ho4 k hk).1
  obtain ⟨hS5, hNa5⟩ := hS3.field_new (n' := ⟨es.take m, [], []⟩) ((upd_ne hab).trans ((upd_ne hab).trans ha)) hNa3 (i := 0) (by omega) hb4 (ho4.mono (Nat.zero_le _)) hl2 same0 (fun e he => hNa3.rowe e (List.mem_of_mem_take he)) (fun k hk => by cases hk)
  have hNb5 := hNa3.other_new hNb3 hba hS3.store.free (i := 0) hb4 hl2
  -- the key that parts them
  obtain ⟨x, hx⟩ : ∃ x, es[m]? = some x := ⟨_, List.getElem?_eq_getElem (by rw [← HN.out]; exact hmn.2)⟩
  have hxd : (es.drop m)[0]? = some x := by rw [List.getElem?_drop]; exact hx
  have hxl : 0 < (es.drop m).length := by omega
  have f4a := (hb4.frozen (p := ⟨a, 0, none⟩) (hS3.store.lt ((upd_ne hab).trans ((upd_ne hab).trans ha)))).trans (hNa3.frozen 0)
  have c4a := (hb4.cell (p := ⟨a, 0, none⟩) (hS3.store.lt ((upd_ne hab).trans ((upd_ne hab).trans ha)))).trans (hNa3.cell (i := 0) (by omega) e0)
  have HS5 := Lib.hid hS5
  have HNa5 := Lib.hid hNa5
  have HNb5 := Lib.hid hNb5
  clear hS5 hNa5 hNb5 hNa3 hNb3 HC2 hS3 o30 hNa hNb hS1 o10 hV ho2 ho4 hg1 hg2 ht1 ht2 hs1 hs2 hb2 hl2 hl1 ha hs o0 o1 o2 hg h0 h1 hc2 hfr
  go_wp2_with fail
  obtain ⟨w5, hw5⟩ : ∃ w5, w5 = w4.setCell ⟨a, 0, none⟩ (.slice (some ⟨g2, 0, none⟩) m k2) := ⟨_, rfl⟩
  have HS5 := HS5.out
  have HNa5 := HNa5.out
  have HNb5 := HNb5.out
  rw [← hw5] at HS5 HNa5 HNb5 ⊢
  have cb : w5.cell? ⟨w.heap.size, 0, none⟩ = some (.slice (some ⟨g1, 0, none⟩) (n - m) k1) := HNb5.cell (i := 0) (by omega) rfl
  have hob : Own 2 Ent.cs 81 0 w5 (.slice (some ⟨g1, 0, none⟩) (n - m) k1) (es.drop m) := HNb5.fld 0 (by omega)
  obtain ⟨b', o', he, -, hc0, -⟩ := (hob.elems entLay.len rfl).ent hxl
  injection he with he
  injection he with he1 he2
  subst he1 he2
  have hx0 : (es.drop m)[0] = x := by rw [List.getElem?_eq_getElem hxl] at hxd; exact Option.some.inj hxd
  rw [hx0] at hc0
  have HE : Hid (∀ k, SplitLeaf w M O a es (.returned (.tuple #[ptr w.heap.size, .slice x.key.A x.key.row.length x.key.c])) (w5.drewN k)) := Lib.hid fun k => by
    unfold SplitLeaf
    rw [← HM.out]
    exact ⟨w.heap.size, x, _, _, rfl, hx, HS5.drewN k, upd_same _ _ _, (upd_ne hba).trans (upd_same _ _ _), fun y h1 h2 => (upd_ne h1).trans ((upd_ne h2).trans (upd_ne h2)), Nat.le_refl _, (HNb5.rowe x (List.mem_of_getElem? hxd)).keep fun k _ => rfl⟩
  clear HS5 HNa5 HNb5 hob
  obtain ⟨p, hp⟩ : ∃ p, p = n - m := ⟨_, rfl⟩
  rw [← hp] at cb
  have hp1 : (0 : Int) < (p : Int) := by omega
  have hp2 : 0 < p := by omega
  clear hp
  clear hw5

  go_quiet (fail)
  go_wp2_with fail
  go_ret2
  exact HE.out _
end Go.Proofs.Ytjdcnkbkbcfhfaa

namespace Go.Proofs.Ytjdcnkbkbcfhfaa
open Go.RowKit Go.Sort

/-- An inner node is split: the new node b, the key k that parts them. -/
def SplitInner (w : World) (M : Nodes) (O : Own') (a : Nat) (ks : List Key) (cs : List Nat) (e : Ending) (w' : World) : Prop :=
  ∃ (b : Nat) (k : Key) (M' : Nodes) (O' : Own'), e = .returned (.tuple #[ptr b, .slice k.A k.row.length k.c]) ∧ ks[cs.length / 2 - 1]? = some k ∧ St w O w' M' O'
    ∧ M' a = some ⟨[], ks.take (cs.length / 2 - 1), cs.take (cs.length / 2)⟩ ∧ M' b = some ⟨[], ks.drop (cs.length / 2), cs.drop (cs.length / 2)⟩ ∧ (∀ y, y ≠ a → y ≠ b → M' y = M y) ∧ w.heap.size ≤ b ∧ KOk (fun k => O' k = .row) w' k

/-- Two fields of a node are laid anew, their values in blocks made since. -/
theorem St.two_new {w0 w w2 : World} {O0 O : Own'} {M : Nodes} (h : St w0 O0 w M O) {a b : Nat} {n nb : NC} {ks : List Key} {cs : List Nat} {V Vb : Nat → Value} (ha : M a = some n) (hV : NodeAt w O a n V) {v1 v2 : Value}
    (hb : Below w.heap.size w w2) (h1 : Own 1 Key.cs 35 w.heap.size w2 v1 ks) (h2 : Own 1 Nid.cs 82 w.heap.size w2 v2 cs) (hne : ∀ g, v1.ownBlock = some g → v2.ownBlock ≠ some g) (hes : n.es = [])
    (hrk : ∀ k ∈ ks, KOk (fun k => O k = .row) w k) (hnb : NodeAt w O b nb Vb) (hab : b ≠ a) :
    ∃ O', St w0 O0 ((w2.setCell ⟨a, 2, none⟩ v2).setCell ⟨a, 1, none⟩ v1) (upd M a (some ⟨[], ks, cs⟩)) O' ∧ NodeAt ((w2.setCell ⟨a, 2, none⟩ v2).setCell ⟨a, 1, none⟩ v1) O' a ⟨[], ks, cs⟩ (fun j => if j = 1 then v1 else if j = 2 then v2 else V j)
      ∧ NodeAt ((w2.setCell ⟨a, 2, none⟩ v2).setCell ⟨a, 1, none⟩ v1) O' b nb Vb := by
  obtain ⟨es, ks0, cs0⟩ := n
  simp only at hes
  subst hes
  obtain ⟨s1, n1⟩ := h.field_new (n' := ⟨[], ks0, cs⟩) ha hV (i := 2) (by omega) hb (h2.mono (Nat.zero_le _)) (fun g hg => (Own.lt h2 g hg).1) same2 (fun e he => by cases he) hV.rowk
  have nb1 := hV.other_new hnb hab h.store.free (i := 2) hb fun g hg => (Own.lt h2 g hg).1
  have hf : ∀ g, v1.ownBlock = some g → ownBy O v2 (.fld 2 a) g = .free ∧ w0.heap.size ≤ g := fun g hg => by
    have hl := (Own.lt h1 g hg).1
    exact ⟨(ownBy_ne (hne g hg)).trans (h.store.free g hl), Nat.le_trans h.size hl⟩
  have h1' : Own 1 Key.cs 35 0 (w2.setCell ⟨a, 2, none⟩ v2) v1 ks := (h1.mono (Nat.zero_le _)).of_block fun g hg => heap_setCell_off (fun e => by
    have := (Own.lt h1 g hg).1
    have h3 := h.store.lt ha
    omega) v2
  have hrk' : ∀ k ∈ ks, KOk (fun k => ownBy O v2 (.fld 2 a) k = .row) (w2.setCell ⟨a, 2, none⟩ v2) k := fun k hk => (hrk k hk).of fun i hi => by
    have hlt := h.store.lt' (k := i) (by rw [hi]; simp)
    refine ⟨?_, ?_⟩
    · rw [heap_setCell_off (fun e => by have := hV.own; rw [← e, hi] at this; cases this)]
      exact hb.block i hlt
    · rw [ownBy_ne fun e => ?_]
      · exact hi
      · have := (Own.lt h2 i e).1
        omega
  obtain ⟨s2, n2⟩ := s1.field (n' := ⟨[], ks, cs⟩) (upd_same _ _ _) n1 (i := 1) (by omega) (World.grownBy.refl _ _) h1' (fun g hg => .inr (hf g hg)) same1 (fun e he => by cases he) hrk'
  refine ⟨_, ?_, n2, n1.other nb1 hab s1.store.free (i := 1) (by omega) (World.grownBy.refl _ _) fun g hg => .inr (hf g hg).1⟩
  have : upd (upd M a (some ⟨[], ks0, cs⟩)) a (some ⟨[], ks, cs⟩) = upd M a (some ⟨[], ks, cs⟩) := by
    funext k
    unfold upd
    split <;> rfl
  rw [this] at s2
  exact s2

/-- A row stays. -/
theorem St.kok {w0 w : World} {O0 O : Own'} {M0 M : Nodes} {k : Key} (h : St w0 O0 w M O) (hs : Store w0 M0 O0) (hk : KOk (fun k => O0 k = .row) w0 k) : KOk (fun k => O k = .row) w k :=
  hk.of fun i hi => by
    have hl := hs.lt' (k := i) (by rw [hi]; simp)
    exact ⟨h.keep i hl (by rw [hi]; exact fun h => h), (h.own i hl).trans hi⟩

set_option maxRecDepth 100000 in
set_option maxHeartbeats 4000000 in
theorem splitInnerW (a : Nat) (ks : List Key) (cs : List Nat) (w : World) (M : Nodes) (O : Own') (hs : Store w M O) (ha : M a = some ⟨[], ks, cs⟩) (hk : ks.length + 1 = cs.length) (h4 : 4 ≤ cs.length) (hl : cs.length ≤ 40) :
    Calls Try.prog 42 #[ptr a] w (SplitInner w M O a ks cs) := by
  obtain ⟨V, hV⟩ := hs.at_ a _ ha
  obtain ⟨A0, c0, A1, c1, A2, c2, e0, e1, e2, h0, h1, hc2, hfr, o0, o1, o2⟩ := hV.cells
  obtain ⟨g1, c, cur, hv, -, hg, hcl1, hcm1, -, -⟩ := o1.open_ (by show 0 < ks.length; omega)
  injection hv with hv1 _ hv2
  subst hv1 hv2
  obtain ⟨g2, c, cur2, hv, -, hg2, hcl2, hcm2, -, -⟩ := o2.open_ (by show 0 < cs.length; omega)
  injection hv with hv1 _ hv2
  subst hv1 hv2
  obtain ⟨m, hm⟩ : ∃ m, m = cs.length / 2 := ⟨_, rfl⟩
  obtain ⟨n, hn⟩ : ∃ n, n = cs.length := ⟨_, rfl⟩
  obtain ⟨n1, hn1⟩ : ∃ n1, n1 = ks.length := ⟨_, rfl⟩
  obtain ⟨k, hkk⟩ : ∃ k, ks[m - 1]? = some k := ⟨_, List.getElem?_eq_getElem (by omega)⟩
  simp only [← hn, ← hn1, List.length_nil] at h0 h1 hc2 o0 o1 o2 hcl1 hcl2 e0 e1 e2
  have hmn : 2 ≤ m ∧ m < n ∧ m < n1 ∧ n1 ≤ 40 ∧ n ≤ 40 ∧ m ≤ 40 := by omega
  have hdiv : (n : Int) / 2 = (m : Int) := by omega
  obtain ⟨b, hb⟩ : ∃ b, b = w.heap.size := ⟨_, rfl⟩
  obtain ⟨w1, hw1⟩ : ∃ w1, w1 = w.alloc (.cells #[.slice none 0 0, .slice none 0 0, .slice none 0 0] 85) := ⟨_, rfl⟩
  have hS1 : St w O w1 M O := by rw [hw1]; exact (St.refl hs).alloc _
  have hb1 : w1.heap[b]? = some (.cells #[.slice none 0 0, .slice none 0 0, .slice none 0 0] 85 (0, 0)) := by rw [hw1, hb]; exact heap_alloc_new w _
  have hal := hs.lt ha
  obtain ⟨O1, hS1, hNb, -, hO1, -⟩ := hS1.fresh (a := b) (n := ⟨[], [], []⟩) (V := fun _ => .slice none 0 0) hb1 ⟨hs.free b (by omega), by omega⟩ (fun i _ => nodeNil _ _) (fun i _ g hg => by cases hg) (fun i j g _ _ hg _ => by cases hg) (fun e he => by cases he) (fun k hk => by cases hk)
  subst hb
  have hba : ¬ w.heap.size = a := by omega
  have hab : ¬ a = w.heap.size := by omega
  have hNa : NodeAt w1 O1 a ⟨[], ks, cs⟩ V := hV.below hs.free (by rw [hw1]; exact (Below.refl _ _).alloc (Nat.le_refl _) _) hO1
  have c10 := hNa.cell (i := 0) (by omega) e0
  have c11 := hNa.cell (i := 1) (by omega) e1
  have c12 := hNa.cell (i := 2) (by omega) e2
  have o11 : Own 1 Key.cs 35 0 w1 (.slice (some ⟨g1, 0, none⟩) n1 c1) ks := by
    have := hNa.fld 1 (by omega)
    rw [e1] at this
    exact this
  have o12 : Own 1 Nid.cs 82 0 w1 (.slice (some ⟨g2, 0, none⟩) n c2) cs := by
    have := hNa.fld 2 (by omega)
    rw [e2] at this
    exact this
  obtain ⟨b', o', he, -, hck⟩ := (o11.elems keyLay.len rfl).key (k := m - 1) (by omega)
  injection he with he
  injection he with he1 he2
  subst he1 he2
  have hkk' : ks[m - 1] = k := by rw [List.getElem?_eq_getElem (by omega)] at hkk; exact Option.some.inj hkk
  rw [hkk', Nat.zero_add] at hck
  have HCc : Hid (∀ W, Below w1.heap.size w1 W → Calls Try.prog 67 #[.slice (some ⟨g2, m, none⟩) (n - m) (c2 - m)] W fun e w' => ∃ A p c, e = .returned (.slice A p c) ∧ Own 1 Nid.cs 82 W.heap.size w' (.slice A p c) (cs.drop m) ∧ Below W.heap.size W w' ∧ Below w1.heap.size w1 w') := Lib.hid fun W hW => by
    have := own_drop nidLay (o12.below hW) (m := m) (by omega) hn (by omega)
    rw [Nat.mul_one] at this
    refine (cloneNid _ _ _ _ W _ this (fun _ h => h) (by rw [List.length_drop, hn]) (by rw [List.length_drop]; omega)).mono ?_
    rintro e w' ⟨v, rfl, h1, h2⟩
    obtain ⟨A, c, rfl, -, -⟩ := h1.form
    exact ⟨_, _, _, rfl, h1, h2, hW.trans (h2.mono hW.size)⟩
  have HCk : Hid (∀ W, Below w1.heap.size w1 W → Calls Try.prog 68 #[.slice (some ⟨g1, m, none⟩) (n1 - m) (c1 - m)] W fun e w' => ∃ A p c, e = .returned (.slice A p c) ∧ Own 1 Key.cs 35 W.heap.size w' (.slice A p c) (ks.drop m) ∧ Below W.heap.size W w' ∧ Below w1.heap.size w1 w') := Lib.hid fun W hW => by
    have := own_drop keyLay (o11.below hW) (m := m) (by omega) hn1 (by omega)
    rw [Nat.mul_one] at this
    refine (cloneKey _ _ _ _ W _ this (fun _ h => h) (by rw [List.length_drop, hn1]) (by rw [List.length_drop]; omega)).mono ?_
    rintro e w' ⟨v, rfl, h1, h2⟩
    obtain ⟨A, c, rfl, -, -⟩ := h1.form
    exact ⟨_, _, _, rfl, h1, h2, hW.trans (h2.mono hW.size)⟩
  have hcm1 : ¬ c1 = m := by omega
  have hcm2 : ¬ c2 = m := by omega
  have hle1 : (m : Int) ≤ (n : Int) := by omega
  have hle2 : (m : Int) ≤ (n1 : Int) := by omega
  have HST := Lib.hid hs
  have HKO : Hid (KOk (fun k => O k = .row) w k) := Lib.hid (hV.rowk k (List.mem_of_getElem? hkk))
  have HS1 := Lib.hid hS1
  have HNa := Lib.hid hNa
  have HNb := Lib.hid hNb
  have HFL := Lib.hid (fillW a w _ _ 0 c0 n c2 h0 hc2)
  have HLF := Lib.hid (leafW a w1 _ n c2 c12)
  have HW1 := Lib.hid hw1
  have HN := Lib.hid hn
  have HA := Lib.hid ha
  have HN1 := Lib.hid hn1
  have HM := Lib.hid hm
  have HK := Lib.hid hkk
  have hnz : ¬ n = 0 := by omega
  have hn0 : (n == 0) = false := by simp [hnz]
  obtain ⟨m1, hm1⟩ : ∃ m1, m1 = m - 1 := ⟨_, rfl⟩
  rw [← hm1] at hck
  have hi1 : (m : Int) - 1 = (m1 : Int) := by omega
  have hi2 : (m1 : Int) < (n1 : Int) := by omega
  have hi3 : (0 : Int) ≤ (m1 : Int) := by omega
  have HM1 := Lib.hid hm1
  clear hw1 hn hm hn1 hkk hkk' hm1
  rw [if_neg hnz] at HFL
  go_enter Try.func42, Try.ntmps42
  go_wp2_with fail
  refine HFL.out.mono ?_
  rintro e w' ⟨rfl, rfl⟩
  go_wp2_with fail
  rw [← HW1.out]
  refine HLF.out.mono ?_
  rintro e w' ⟨rfl, rfl⟩
  go_upto_region 8 with fail
  clear o11 o12 hV hg hg2 ha hs o0 o1 o2 h0 h1 hc2 hfr hO1 hNa hNb hS1 hb1 c10
  have hbl1 := HS1.out.store.lt (upd_same _ _ _)
  have hal1 := HS1.out.store.lt ((upd_ne hab).trans HA.out)
  have d1 : w1.cell? ⟨w.heap.size, 1, none⟩ = some (.slice none 0 0) := HNb.out.cell (i := 1) (by omega) rfl
  have d2 : w1.cell? ⟨w.heap.size, 2, none⟩ = some (.slice none 0 0) := HNb.out.cell (i := 2) (by omega) rfl
  have d1f := HNb.out.frozen 1
  have d2f := HNb.out.frozen 2
  go_cut [6] from 50 to 69 (fun v wx => v = .slice k.A k.row.length k.c ∧ ∃ O2 Vb, St w O wx (upd (upd M w.heap.size (some ⟨[], [], []⟩)) w.heap.size (some ⟨[], ks.drop m, cs.drop m⟩)) O2 ∧ NodeAt wx O2 w.heap.size ⟨[], ks.drop m, cs.drop m⟩ Vb ∧ NodeAt wx O2 a ⟨[], ks, cs⟩ V)
  case first =>
    have hB0 : Below w1.heap.size w1 w1.drew := (Below.refl _ _).drew
    have HB0 := Lib.hid hB0
    have HKP : Hid (∀ W, Below w1.heap.size w1 W → W.cell? ⟨a, 1, none⟩ = some (.slice (some ⟨g1, 0, none⟩) n1 c1) ∧ W.cell? ⟨a, 2, none⟩ = some (.slice (some ⟨g2, 0, none⟩) n c2)) := Lib.hid fun W hb4 => ⟨(hb4.cell hal1).trans c11, (hb4.cell hal1).trans c12⟩
    have HKB : Hid (∀ W, Below w1.heap.size w1 W → W.cell? ⟨w.heap.size, 1, none⟩ = some (.slice none 0 0) ∧ W.cell? ⟨w.heap.size, 2, none⟩ = some (.slice none 0 0) ∧ W.frozen? ⟨w.heap.size, 1, none⟩ = false ∧ W.frozen? ⟨w.heap.size, 2, none⟩ = false) := Lib.hid fun W hb4 => ⟨(hb4.cell hbl1).trans d1, (hb4.cell hbl1).trans d2, (hb4.frozen hbl1).trans d1f, (hb4.frozen hbl1).trans d2f⟩
    go_region_held3 (fun w' => w'.cell? ⟨a, 1, none⟩ = some (.slice (some ⟨g1, 0, none⟩) n1 c1) ∧ w'.cell? ⟨a, 2, none⟩ = some (.slice (some ⟨g2, 0, none⟩) n c2))
      (first | exact HKP.out _ hb5' | exact HKP.out _ hb4' | go_keep)
      (first
        | (go_at_call 67; refine (HCc.out _ HB0.out).mono ?_; rintro e w4 ⟨Ac, pc, cc, rfl, hoc, hb4, hb4'⟩)
        | (go_at_call 68; refine (HCk.out _ HB0.out).mono ?_; rintro e w4 ⟨Ak, pk, ck, rfl, hok, hb4, hb4'⟩)
        | (go_at_call 67; refine (HCc.out _ hb4').mono ?_; rintro e w5 ⟨Ac, pc, cc, rfl, hoc, hb5, hb5'⟩; obtain ⟨q1, q2, r1, r2⟩ := HKB.out _ hb5')
        | (go_at_call 68; refine (HCk.out _ hb4').mono ?_; rintro e w5 ⟨Ak, pk, ck, rfl, hok, hb5, hb5'⟩; obtain ⟨q1, q2, r1, r2⟩ := HKB.out _ hb5'))
    go_wp2_with fail
    go_meet
    have hbk : Below w1.heap.size w1 w5 := hb5'
    obtain ⟨O2, t1, t2, t3⟩ := HS1.out.two_new (upd_same _ _ _) HNb.out hbk (v1 := .slice Ak pk ck) (v2 := .slice Ac pc cc) (hok.mono hb4'.size) ((hoc.below hb5).mono (Nat.le_refl _)) (fun g h1 h2 => by
      have q1 := (Own.lt hok g h1).1
      have q2 := (Own.lt hoc g h2).2
      omega) rfl (fun k hk => HNa.out.rowk k (List.mem_of_mem_drop hk)) HNa.out hab
    exact ⟨rfl, O2, _, t1, t2, t3⟩
  case rest =>
    obtain ⟨rfl, O2, Vb, hS2, hNb2, hNa2⟩ := hcut
    clear HS1 HNa HNb d1 d2 d1f d2f c11 c12 HCc HCk hal1 hbl1
    have o11 : Own 1 Key.cs 35 0 wc (.slice (some ⟨g1, 0, none⟩) n1 c1) ks := by
      have := hNa2.fld 1 (by omega)
      rw [e1] at this
      exact this
    have o12 : Own 1 Nid.cs 82 0 wc (.slice (some ⟨g2, 0, none⟩) n c2) cs := by
      have := hNa2.fld 2 (by omega)
      rw [e2] at this
      exact this
    have c11 := hNa2.cell (i := 1) (by omega) e1
    have c12 := hNa2.cell (i := 2) (by omega) e2
    have f11 := hNa2.frozen 1
    have f12 := hNa2.frozen 2
    have hal2 : a < wc.heap.size := (Array.getElem?_eq_some_iff.1 hNa2.blk).1
    have HCc : Hid (∀ W, Below wc.heap.size wc W → Calls Try.prog 67 #[.slice (some ⟨g2, 0, none⟩) m c2] W fun e w' => ∃ A p c, e = .returned (.slice A p c) ∧ Own 1 Nid.cs 82 W.heap.size w' (.slice A p c) (cs.take m) ∧ Below W.heap.size W w' ∧ Below wc.heap.size wc w') := Lib.hid fun W hW => by
      have := (((o12.below hW).elems nidLay.len rfl).take m).more (S' := (· < W.heap.size)) fun k hk => (Own.lt (o12.below hW) k hk).2
      refine (cloneNid _ _ _ _ W _ this (fun _ h => h) (by rw [List.length_take, ← HN.out]; omega) (by rw [List.length_take]; omega)).mono ?_
      rintro e w' ⟨v, rfl, h1, h2⟩
      obtain ⟨A, c, rfl, -, -⟩ := h1.form
      exact ⟨_, _, _, rfl, h1, h2, hW.trans (h2.mono hW.size)⟩
    have HCk : Hid (∀ W, Below wc.heap.size wc W → Calls Try.prog 68 #[.slice (some ⟨g1, 0, none⟩) m1 c1] W fun e w' => ∃ A p c, e = .returned (.slice A p c) ∧ Own 1 Key.cs 35 W.heap.size w' (.slice A p c) (ks.take m1) ∧ Below W.heap.size W w' ∧ Below wc.heap.size wc w') := Lib.hid fun W hW => by
      have := (((o11.below hW).elems keyLay.len rfl).take m1).more (S' := (· < W.heap.size)) fun k hk => (Own.lt (o11.below hW) k hk).2
      refine (cloneKey _ _ _ _ W _ this (fun _ h => h) (by rw [List.length_take, ← HN1.out]; have := HM1.out; omega) (by rw [List.length_take]; omega)).mono ?_
      rintro e w' ⟨v, rfl, h1, h2⟩
      obtain ⟨A, c, rfl, -, -⟩ := h1.form
      exact ⟨_, _, _, rfl, h1, h2, hW.trans (h2.mono hW.size)⟩
    have HS2 := Lib.hid hS2
    have HNa := Lib.hid hNa2
    have HNb := Lib.hid hNb2
    have HE1 := Lib.hid e1
    have HE2 := Lib.hid e2
    have hle3 : (m1 : Int) ≤ (c1 : Int) := by have := HM1.out; omega
    have hle4 : (m : Int) ≤ (c2 : Int) := by omega
    have hm1p : (0 : Int) ≤ (m1 : Int) := by omega
    have hw2 : IntKind.i64.wrap (m1 : Int) = (m1 : Int) := by rw [IntKind.wrap_i64]; omega
    have hw1 : IntKind.i64.wrap ((m : Int) - 1) = (m1 : Int) := by rw [IntKind.wrap_i64]; omega
    clear hi1
    clear o11 o12 hS2 hNa2 hNb2 e1 e2 hcl1 hcl2 hcm1 hcm2 hk h4 hl hle1 hle2
    have hB0 : Below wc.heap.size wc wc.drew := (Below.refl _ _).drew
    have HB0 := Lib.hid hB0
    clear hB0
    have HKP : Hid (∀ W, Below wc.heap.size wc W → W.cell? ⟨a, 1, none⟩ = some (.slice (some ⟨g1, 0, none⟩) n1 c1) ∧ W.cell? ⟨a, 2, none⟩ = some (.slice (some ⟨g2, 0, none⟩) n c2)) := Lib.hid fun W hb4 => ⟨(hb4.cell hal2).trans c11, (hb4.cell hal2).trans c12⟩
    have HKB : Hid (∀ W, Below wc.heap.size wc W → W.cell? ⟨a, 1, none⟩ = some (.slice (some ⟨g1, 0, none⟩) n1 c1) ∧ W.cell? ⟨a, 2, none⟩ = some (.slice (some ⟨g2, 0, none⟩) n c2) ∧ W.frozen? ⟨a, 1, none⟩ = false ∧ W.frozen? ⟨a, 2, none⟩ = false) := Lib.hid fun W hb4 => ⟨(hb4.cell hal2).trans c11, (hb4.cell hal2).trans c12, (hb4.frozen hal2).trans f11, (hb4.frozen hal2).trans f12⟩
    go_upto_region 9 with fail
    go_region_law (first
        | (go_simp; go_at_call 67; refine (HCc.out _ HB0.out).mono ?_; rintro e w4 ⟨Ac, pc, cc, rfl, hoc, hb4, hb4'⟩; obtain ⟨q1, q2, r1, r2⟩ := HKB.out _ hb4')
        | (go_simp; go_at_call 68; refine (HCk.out _ hb4').mono ?_; rintro e w5 ⟨Ak, pk, ck, rfl, hok, hb5, hb5'⟩; obtain ⟨q1, q2, r1, r2⟩ := HKB.out _ hb5'))
    all_goals
      have HE : Hid (∀ j, SplitInner w M O a ks cs (.returned (.tuple #[ptr w.heap.size, .slice k.A k.row.length k.c])) (((w5.setCell ⟨a, 2, none⟩ (.slice Ac pc cc)).setCell ⟨a, 1, none⟩ (.slice Ak pk ck)).drewN j)) := Lib.hid fun j => by
        obtain ⟨O3, t1, t2, t3⟩ := HS2.out.two_new ((upd_ne hab).trans ((upd_ne hab).trans HA.out)) HNa.out hb5' (v1 := .slice Ak pk ck) (v2 := .slice Ac pc cc) (hok.mono hb4'.size) ((hoc.below hb5).mono (Nat.le_refl _)) (fun g h1 h2 => by
          have q1 := (Own.lt hok g h1).1
          have q2 := (Own.lt hoc g h2).2
          omega) rfl (fun k hk => HNa.out.rowk k (List.mem_of_mem_take hk)) HNb.out hba
        unfold SplitInner
        rw [← HM.out]
        refine ⟨w.heap.size, k, _, _, rfl, HK.out, t1.drewN j, ?_, (upd_ne hba).trans (upd_same _ _ _), fun y h1 h2 => (upd_ne h1).trans ((upd_ne h2).trans (upd_ne h2)), Nat.le_refl _, ?_⟩
        · rw [← HM1.out]; exact upd_same _ _ _
        · exact (t1.drewN j).kok HST.out HKO.out
      clear HCc HCk HKP HKB hb4 hb4' hb5 hb5' hoc hok HB0 q1 q2 r1 r2
      go_wp2_with fail
      go_ret2
      exact HE.out 0
end Go.Proofs.Ytjdcnkbkbcfhfaa

namespace Go.Proofs.Ytjdcnkbkbcfhfaa
open Go.RowKit Go.Sort

/-- A node is split: l stays at a, r lies at b, the key k parts them. -/
def SplitPost (w : World) (M : Nodes) (O : Own') (d a : Nat) (t : T d) (fp : List Nat) (e : Ending) (w' : World) : Prop :=
  ∃ (b : Nat) (k : Key) (M' : Nodes) (O' : Own') (l r : T d) (fl fr : List Nat), e = .returned (.tuple #[ptr b, .slice k.A k.row.length k.c]) ∧ Spl d t l k r ∧ St w O w' M' O'
    ∧ Rep M' d a l fl ∧ Rep M' d b r fr ∧ Chg w.heap.size M M' fp (fl ++ fr) ∧ KOk (fun k => O' k = .row) w' k

theorem Rep.lt {w : World} {M : Nodes} {O : Own'} (hs : Store w M O) {d a : Nat} {t : T d} {fp : List Nat} (h : Rep M d a t fp) : ∀ x ∈ fp, x < w.heap.size := fun x hx => by
  obtain ⟨n, hn⟩ := h.some x hx
  exact hs.lt hn

theorem splitW {m o d a : Nat} {t : T d} {fp : List Nat} (w : World) (M : Nodes) (O : Own') (hs : Store w M O) (hr : Rep M d a t fp) (hn : fp.Nodup) (hok : Ok m o d t) (h4 : 4 ≤ fill d t) (hl : fill d t ≤ 40) :
    Calls Try.prog 42 #[ptr a] w (SplitPost w M O d a t fp) := by
  have hlt := hr.lt hs
  cases d with
  | zero =>
    obtain ⟨es, rfl, hm, rfl⟩ := hr
    have h4 : 4 ≤ es.length := h4
    have hl : es.length ≤ 40 := hl
    refine (splitLeafW a es w M O hs hm (by omega) hl).mono ?_
    rintro e w' ⟨b, x, M', O', rfl, hx, hS, ha, hb, hout, hbl, hko⟩
    have hal := hlt a List.mem_cons_self
    refine ⟨b, x.key, M', O', es.take (es.length / 2), es.drop (es.length / 2), [a], [b], rfl, ⟨es, rfl, rfl, rfl, x, hx, rfl⟩, hS, ⟨_, rfl, ha, rfl⟩, ⟨_, rfl, hb, rfl⟩, ⟨?_, fun x hx hlt => ?_, fun x hx => ?_⟩, hko⟩
    · simp; omega
    · simp at hx
      exact hout x hx (by omega)
    · simp at hx
      rcases hx with rfl | rfl
      · exact .inl List.mem_cons_self
      · exact .inr hbl
  | succ d =>
    obtain ⟨cs, fps, hm, hz, rfl⟩ := hr
    obtain ⟨ks, ts⟩ := t
    have hlen := hz.len
    simp only at hm hz hlen
    have h4 : 4 ≤ ts.length := h4
    have hl : ts.length ≤ 40 := hl
    have hkl : ks.length + 1 = ts.length := hok.1.1
    refine (splitInnerW a ks cs w M O hs hm (by omega) (by omega) (by omega)).mono ?_
    rintro e w' ⟨b, k, M', O', rfl, hk, hS, ha, hb, hout, hbl, hko⟩
    have hal := hlt a List.mem_cons_self
    obtain ⟨n1, n2⟩ := List.nodup_cons.1 hn
    rw [hlen.1] at hk ha hb
    have hfr : ∀ x ∈ fps.flatten, M' x = M x := fun x hx => hout x (fun e => n1 (e ▸ hx)) (fun e => by have := hlt x (List.mem_cons_of_mem _ hx); omega)
    have hsub1 : ∀ f ∈ fps.take (ts.length / 2), ∀ x ∈ f, x ∈ fps.flatten := fun f hf x hx => List.mem_flatten.2 ⟨f, List.mem_of_mem_take hf, hx⟩
    have hsub2 : ∀ f ∈ fps.drop (ts.length / 2), ∀ x ∈ f, x ∈ fps.flatten := fun f hf x hx => List.mem_flatten.2 ⟨f, List.mem_of_mem_drop hf, hx⟩
    have hfl : fps.flatten = (fps.take (ts.length / 2)).flatten ++ (fps.drop (ts.length / 2)).flatten := by rw [← List.flatten_append, List.take_append_drop]
    refine ⟨b, k, M', O', (ks.take (ts.length / 2 - 1), ts.take (ts.length / 2)), (ks.drop (ts.length / 2), ts.drop (ts.length / 2)), a :: (fps.take (ts.length / 2)).flatten, b :: (fps.drop (ts.length / 2)).flatten, rfl, ⟨rfl, rfl, hk⟩, hS,
      ⟨cs.take (ts.length / 2), fps.take (ts.length / 2), ha, (hz.take _).mono fun x y f hf hr => hr.frame fun z hz => hfr z (hsub1 f hf z hz), rfl⟩,
      ⟨cs.drop (ts.length / 2), fps.drop (ts.length / 2), hb, (hz.drop _).mono fun x y f hf hr => hr.frame fun z hz => hfr z (hsub2 f hf z hz), rfl⟩, ⟨?_, fun x hx hlt => ?_, fun x hx => ?_⟩, hko⟩
    · have hb1 : b ∉ a :: fps.flatten := fun h => by have := hlt b h; omega
      rw [hfl] at hn hb1
      rw [List.cons_append]
      have : (a :: ((fps.take (ts.length / 2)).flatten ++ (fps.drop (ts.length / 2)).flatten)) = (a :: (fps.take (ts.length / 2)).flatten) ++ (fps.drop (ts.length / 2)).flatten := rfl
      rw [this] at hn hb1
      rw [← List.cons_append]
      obtain ⟨q1, q2, q3⟩ := List.nodup_append.1 hn
      refine List.nodup_append.2 ⟨q1, List.nodup_cons.2 ⟨fun h => hb1 (List.mem_append_right _ h), q2⟩, fun x hx y hy e => ?_⟩
      rcases List.mem_cons.1 hy with rfl | hy
      · exact hb1 (List.mem_append_left _ (e ▸ hx))
      · exact q3 x hx y hy e
    · refine hout x (fun e => hx (e ▸ List.mem_cons_self)) (fun e => by omega)
    · rcases List.mem_append.1 hx with hx | hx
      · rcases List.mem_cons.1 hx with rfl | hx
        · exact .inl List.mem_cons_self
        · refine .inl (List.mem_cons_of_mem _ ?_)
          rw [hfl]
          exact List.mem_append_left _ hx
      · rcases List.mem_cons.1 hx with rfl | hx
        · exact .inr hbl
        · refine .inl (List.mem_cons_of_mem _ ?_)
          rw [hfl]
          exact List.mem_append_right _ hx
end Go.Proofs.Ytjdcnkbkbcfhfaa
