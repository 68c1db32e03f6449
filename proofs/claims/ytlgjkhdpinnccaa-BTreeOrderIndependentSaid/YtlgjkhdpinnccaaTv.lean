/-
  Trees in memory: which nodes make a tree, what a change leaves of it. No program's walk.
-/
import Derived.Test.YtlgjkhdpinnccaaTs
import Derived.Test.YtlgjkhdpinnccaaTu
namespace Go.Proofs.Ytlgjkhdpinnccaa

/-- Three lists hand in hand. -/
inductive Z3 {α β γ : Type} (R : α → β → γ → Prop) : List α → List β → List γ → Prop
  | nil : Z3 R [] [] []
  | cons {a : α} {b : β} {c : γ} {us : List α} {bs : List β} {cs : List γ} : R a b c → Z3 R us bs cs → Z3 R (a :: us) (b :: bs) (c :: cs)

section
variable {α β γ : Type} {R R' : α → β → γ → Prop}
theorem Z3.len {us : List α} {bs : List β} {cs : List γ} (h : Z3 R us bs cs) : us.length = bs.length ∧ cs.length = bs.length := by
  induction h with
  | nil => exact ⟨rfl, rfl⟩
  | cons _ _ ih => simp [ih.1, ih.2]
theorem Z3.mono {us : List α} {bs : List β} {cs : List γ} (h : Z3 R us bs cs) : (∀ a b c, c ∈ cs → R a b c → R' a b c) → Z3 R' us bs cs := by
  induction h with
  | nil => exact fun _ => .nil
  | cons h _ ih => exact fun k => .cons (k _ _ _ List.mem_cons_self h) (ih fun a b c hc => k a b c (List.mem_cons_of_mem _ hc))
theorem Z3.append {us us2 : List α} {bs bs' : List β} {cs cs' : List γ} (h : Z3 R us bs cs) (k : Z3 R us2 bs' cs') : Z3 R (us ++ us2) (bs ++ bs') (cs ++ cs') := by
  induction h with
  | nil => exact k
  | cons h _ ih => exact .cons h ih
theorem Z3.take {us : List α} {bs : List β} {cs : List γ} (h : Z3 R us bs cs) : ∀ n, Z3 R (us.take n) (bs.take n) (cs.take n) := by
  induction h with
  | nil => intro n; simp; exact .nil
  | cons h _ ih =>
    intro n
    cases n with
    | zero => exact .nil
    | succ n => exact .cons h (ih n)
theorem Z3.drop {us : List α} {bs : List β} {cs : List γ} (h : Z3 R us bs cs) : ∀ n, Z3 R (us.drop n) (bs.drop n) (cs.drop n) := by
  induction h with
  | nil => intro n; simp; exact .nil
  | cons h t ih =>
    intro n
    cases n with
    | zero => exact .cons h t
    | succ n => exact ih n
theorem Z3.at_ {us : List α} {bs : List β} {cs : List γ} (h : Z3 R us bs cs) : ∀ {i : Nat} {b : β}, bs[i]? = some b → ∃ a c, us[i]? = some a ∧ cs[i]? = some c ∧ R a b c := by
  induction h with
  | nil => intro i b hb; simp at hb
  | cons h _ ih =>
    intro i b hb
    cases i with
    | zero =>
      simp at hb
      subst hb
      exact ⟨_, _, rfl, rfl, h⟩
    | succ i => exact ih hb
theorem Z3.mem {us : List α} {bs : List β} {cs : List γ} (h : Z3 R us bs cs) : ∀ {c : γ}, c ∈ cs → ∃ a b, b ∈ bs ∧ R a b c := by
  induction h with
  | nil => intro c hc; cases hc
  | cons h _ ih =>
    intro c hc
    rcases List.mem_cons.1 hc with rfl | hc
    · exact ⟨_, _, List.mem_cons_self, h⟩
    · obtain ⟨a, b, hb, hr⟩ := ih hc
      exact ⟨a, b, List.mem_cons_of_mem _ hb, hr⟩
theorem Z3.one {a : α} {b : β} {c : γ} (h : R a b c) : Z3 R [a] [b] [c] := .cons h .nil
theorem Z3.two {a a' : α} {b b' : β} {c c' : γ} (h : R a b c) (h' : R a' b' c') : Z3 R [a, a'] [b, b'] [c, c'] := .cons h (.one h')
end

/-- The node a is the top of the tree t; its nodes are fp. -/
def Rep (M : Nodes) : (d : Nat) → Nat → T d → List Nat → Prop
  | 0, a, t, fp => ∃ es : List Ent, es = t ∧ M a = some ⟨es, [], []⟩ ∧ fp = [a]
  | d + 1, a, t, fp => ∃ cs fps, M a = some ⟨[], t.1, cs⟩ ∧ Z3 (Rep M d) cs t.2 fps ∧ fp = a :: fps.flatten

theorem Rep.frame {M M' : Nodes} : ∀ {d a : Nat} {t : T d} {fp : List Nat}, Rep M d a t fp → (∀ x ∈ fp, M' x = M x) → Rep M' d a t fp
  | 0, a, t, fp, h, hk => by
    obtain ⟨es, e, hm, rfl⟩ := h
    exact ⟨es, e, (hk a List.mem_cons_self).trans hm, rfl⟩
  | d + 1, a, t, fp, h, hk => by
    obtain ⟨cs, fps, hm, hz, rfl⟩ := h
    exact ⟨cs, fps, (hk a List.mem_cons_self).trans hm, hz.mono fun b c f hf hr => hr.frame fun x hx => hk x (List.mem_cons_of_mem _ (List.mem_flatten.2 ⟨f, hf, hx⟩)), rfl⟩
theorem Rep.top {M : Nodes} : ∀ {d a : Nat} {t : T d} {fp : List Nat}, Rep M d a t fp → a ∈ fp
  | 0, _, _, _, ⟨_, _, _, h⟩ => by rw [h]; exact List.mem_cons_self
  | _ + 1, _, _, _, ⟨_, _, _, _, h⟩ => by rw [h]; exact List.mem_cons_self
theorem Rep.some {M : Nodes} : ∀ {d a : Nat} {t : T d} {fp : List Nat}, Rep M d a t fp → ∀ x ∈ fp, ∃ n, M x = some n
  | 0, a, t, fp, ⟨es, _, hm, h⟩, x, hx => by
    rw [h] at hx
    rw [List.mem_singleton.1 hx]
    exact ⟨_, hm⟩
  | d + 1, a, t, fp, ⟨cs, fps, hm, hz, h⟩, x, hx => by
    rw [h] at hx
    rcases List.mem_cons.1 hx with rfl | hx
    · exact ⟨_, hm⟩
    · obtain ⟨f, hf, hx⟩ := List.mem_flatten.1 hx
      obtain ⟨_, _, _, hr⟩ := hz.mem hf
      exact hr.some x hx
/-- What M holds at the top. -/
def NCof (d : Nat) (t : T d) (cs : List Nat) (n : NC) : Prop := match d with
  | 0 => ∃ es : List Ent, es = t ∧ n = ⟨es, [], []⟩ ∧ cs = []
  | _ + 1 => n = ⟨[], t.1, cs⟩ ∧ cs.length = t.2.length
theorem Rep.node {M : Nodes} : ∀ {d a : Nat} {t : T d} {fp : List Nat}, Rep M d a t fp → ∃ n cs, M a = Option.some n ∧ NCof d t cs n
  | 0, _, _, _, ⟨es, e, hm, _⟩ => ⟨_, [], hm, es, e, rfl, rfl⟩
  | _ + 1, _, _, _, ⟨cs, _, hm, hz, _⟩ => ⟨_, cs, hm, rfl, hz.len.1⟩
/-- The number that fill tells. -/
theorem NCof.fill {d : Nat} {t : T d} {cs : List Nat} {n : NC} (h : NCof d t cs n) (hf : 1 ≤ fill d t) : (if n.cs.length = 0 then n.es.length else n.cs.length) = fill d t := by
  cases d with
  | zero =>
    obtain ⟨es, rfl, rfl, rfl⟩ := h
    rfl
  | succ d =>
    obtain ⟨rfl, hl⟩ := h
    have hf : 1 ≤ t.2.length := hf
    show (if cs.length = 0 then 0 else cs.length) = t.2.length
    rw [if_neg (by omega), hl]
theorem NCof.fill0 {d : Nat} {t : T d} {cs : List Nat} {n : NC} (h : NCof d t cs n) (hd : d = 0 ∨ 1 ≤ Go.Proofs.Ytlgjkhdpinnccaa.fill d t) : (if n.cs.length = 0 then n.es.length else n.cs.length) = Go.Proofs.Ytlgjkhdpinnccaa.fill d t := by
  rcases hd with rfl | hd
  · obtain ⟨es, rfl, rfl, rfl⟩ := h
    rfl
  · exact h.fill hd

/-- From M (H blocks were there) to M': the tree's nodes fp are now fp'. -/
structure Chg (H : Nat) (M M' : Nodes) (fp fp' : List Nat) : Prop where
  nd : fp'.Nodup
  out : ∀ x, x ∉ fp → x < H → M' x = M x
  sub : ∀ x ∈ fp', x ∈ fp ∨ H ≤ x
theorem Chg.trans {H H1 : Nat} {M M1 M2 : Nodes} {fp fp1 fp2 : List Nat} (h : Chg H M M1 fp fp1) (k : Chg H1 M1 M2 fp1 fp2) (hH : H ≤ H1) : Chg H M M2 fp fp2 := by
  refine ⟨k.nd, fun x hx hlt => ?_, fun x hx => ?_⟩
  · refine (k.out x (fun hm => ?_) (Nat.lt_of_lt_of_le hlt hH)).trans (h.out x hx hlt)
    rcases h.sub x hm with h1 | h1
    · exact hx h1
    · omega
  · rcases k.sub x hx with h1 | h1
    · exact h.sub x h1
    · exact .inr (Nat.le_trans hH h1)
theorem Chg.refl {H : Nat} {M : Nodes} {fp : List Nat} (h : fp.Nodup) : Chg H M M fp fp := ⟨h, fun _ _ _ => rfl, fun _ hx => .inl hx⟩
theorem Chg.same {H : Nat} {M M' : Nodes} {fp : List Nat} (h : fp.Nodup) (hm : ∀ x, x ∉ fp → M' x = M x) : Chg H M M' fp fp := ⟨h, fun x hx _ => hm x hx, fun _ hx => .inl hx⟩

theorem nodup_mid {a : Nat} {F1 Fm F2 G : List Nat} {H : Nat} (hn : (a :: (F1 ++ Fm ++ F2)).Nodup) (hH : ∀ x ∈ a :: (F1 ++ Fm ++ F2), x < H) (hG : G.Nodup) (hs : ∀ x ∈ G, x ∈ Fm ∨ H ≤ x) : (a :: (F1 ++ G ++ F2)).Nodup := by
  obtain ⟨h1, h2⟩ := List.nodup_cons.1 hn
  obtain ⟨h3, h4, h5⟩ := List.nodup_append.1 h2
  obtain ⟨h6, _, h8⟩ := List.nodup_append.1 h3
  have hlt : ∀ x, x = a ∨ x ∈ F1 ∨ x ∈ F2 → x < H := fun x hx => hH x (by
    rcases hx with rfl | hx | hx
    · exact List.mem_cons_self
    · exact List.mem_cons_of_mem _ (List.mem_append_left _ (List.mem_append_left _ hx))
    · exact List.mem_cons_of_mem _ (List.mem_append_right _ hx))
  refine List.nodup_cons.2 ⟨fun hm => ?_, List.nodup_append.2 ⟨List.nodup_append.2 ⟨h6, hG, fun x hx y hy e => ?_⟩, h4, fun x hx y hy e => ?_⟩⟩
  · rcases List.mem_append.1 hm with hm | hm
    · rcases List.mem_append.1 hm with hm | hm
      · exact h1 (List.mem_append_left _ (List.mem_append_left _ hm))
      · rcases hs _ hm with hm | hm
        · exact h1 (List.mem_append_left _ (List.mem_append_right _ hm))
        · have := hlt a (.inl rfl); omega
    · exact h1 (List.mem_append_right _ hm)
  · subst e
    rcases hs _ hy with hm | hm
    · exact h8 x hx x hm rfl
    · have := hlt x (.inr (.inl hx)); omega
  · subst e
    rcases List.mem_append.1 hx with hx | hx
    · exact h5 x (List.mem_append_left _ hx) x hy rfl
    · rcases hs _ hx with hm | hm
      · exact h5 x (List.mem_append_right _ hm) x hy rfl
      · have := hlt x (.inr (.inr hy)); omega

/-- The children from i to j are laid anew. -/
theorem z3_mid {M M' : Nodes} {H d a i j : Nat} {cs : List Nat} {ts : List (T d)} {fps : List (List Nat)} (hz : Z3 (Rep M d) cs ts fps) (hij : i ≤ j) (_hj : j ≤ ts.length) (hn : (a :: fps.flatten).Nodup) (hH : ∀ x ∈ a :: fps.flatten, x < H)
    {cm : List Nat} {tm : List (T d)} {fm : List (List Nat)} (hz' : Z3 (Rep M' d) cm tm fm) (hg : fm.flatten.Nodup) (hs : ∀ x ∈ fm.flatten, x ∈ ((fps.drop i).take (j - i)).flatten ∨ H ≤ x)
    (hout : ∀ x, x ∉ ((fps.drop i).take (j - i)).flatten → x ≠ a → x < H → M' x = M x) :
    Z3 (Rep M' d) (cs.take i ++ cm ++ cs.drop j) (ts.take i ++ tm ++ ts.drop j) (fps.take i ++ fm ++ fps.drop j) ∧ (a :: (fps.take i ++ fm ++ fps.drop j).flatten).Nodup ∧ ∀ x ∈ a :: (fps.take i ++ fm ++ fps.drop j).flatten, x ∈ a :: fps.flatten ∨ H ≤ x := by
  have hsplit : fps = fps.take i ++ (fps.drop i).take (j - i) ++ fps.drop j := by
    rw [List.append_assoc]
    conv => lhs; rw [← List.take_append_drop i fps, ← List.take_append_drop (j - i) (fps.drop i)]
    rw [List.drop_drop, show i + (j - i) = j from by omega]
  have hfl : fps.flatten = (fps.take i).flatten ++ ((fps.drop i).take (j - i)).flatten ++ (fps.drop j).flatten := by
    conv => lhs; rw [hsplit]
    rw [List.flatten_append, List.flatten_append]
  have hfl' : (fps.take i ++ fm ++ fps.drop j).flatten = (fps.take i).flatten ++ fm.flatten ++ (fps.drop j).flatten := by
    rw [List.flatten_append, List.flatten_append]
  rw [hfl] at hn hH
  have hn' := hn
  obtain ⟨n1, n2⟩ := List.nodup_cons.1 hn'
  obtain ⟨n3, n4, n5⟩ := List.nodup_append.1 n2
  obtain ⟨n6, n7, n8⟩ := List.nodup_append.1 n3
  have k1 : ∀ x ∈ (fps.take i).flatten, M' x = M x := fun x hx => hout x (fun h => n8 x hx x h rfl) (fun e => n1 (e ▸ List.mem_append_left _ (List.mem_append_left _ hx))) (hH x (List.mem_cons_of_mem _ (List.mem_append_left _ (List.mem_append_left _ hx))))
  have k2 : ∀ x ∈ (fps.drop j).flatten, M' x = M x := fun x hx => hout x (fun h => n5 x (List.mem_append_right _ h) x hx rfl) (fun e => n1 (e ▸ List.mem_append_right _ hx)) (hH x (List.mem_cons_of_mem _ (List.mem_append_right _ hx)))
  refine ⟨(((hz.take i).mono fun b c f hf hr => hr.frame fun x hx => k1 x (List.mem_flatten.2 ⟨f, hf, hx⟩)).append hz').append ((hz.drop j).mono fun b c f hf hr => hr.frame fun x hx => k2 x (List.mem_flatten.2 ⟨f, hf, hx⟩)), ?_, fun x hx => ?_⟩
  · rw [hfl']
    exact nodup_mid hn hH hg hs
  · rw [hfl'] at hx
    rw [hfl]
    rcases List.mem_cons.1 hx with rfl | hx
    · exact .inl List.mem_cons_self
    · rcases List.mem_append.1 hx with hx | hx
      · rcases List.mem_append.1 hx with hx | hx
        · exact .inl (List.mem_cons_of_mem _ (List.mem_append_left _ (List.mem_append_left _ hx)))
        · rcases hs x hx with hx | hx
          · exact .inl (List.mem_cons_of_mem _ (List.mem_append_left _ (List.mem_append_right _ hx)))
          · exact .inr hx
      · exact .inl (List.mem_cons_of_mem _ (List.mem_append_right _ hx))

/-- One child. -/
theorem mid_one {γ : Type} {fps : List γ} {i : Nat} {f : γ} (h : fps[i]? = some f) : (fps.drop i).take (i + 1 - i) = [f] := by
  obtain ⟨h1, h2⟩ := List.getElem?_eq_some_iff.1 h
  rw [show i + 1 - i = 1 from by omega, List.drop_eq_getElem_cons h1, h2]
  rfl
theorem mid_two {γ : Type} {fps : List γ} {i : Nat} {f g : γ} (h : fps[i]? = some f) (k : fps[i + 1]? = some g) : (fps.drop i).take (i + 2 - i) = [f, g] := by
  obtain ⟨h1, h2⟩ := List.getElem?_eq_some_iff.1 h
  obtain ⟨k1, k2⟩ := List.getElem?_eq_some_iff.1 k
  rw [show i + 2 - i = 2 from by omega, List.drop_eq_getElem_cons h1, h2, List.drop_eq_getElem_cons k1, k2]
  rfl
theorem set_eq {γ : Type} {xs : List γ} {i : Nat} (h : i < xs.length) (y : γ) : xs.set i y = xs.take i ++ [y] ++ xs.drop (i + 1) := by
  rw [List.set_eq_take_append_cons_drop, if_pos h, List.append_assoc]
  rfl

/-- One child is changed by a callee. -/
theorem Rep.set_child {M M' : Nodes} {H d a i : Nat} {t : T (d + 1)} {fp : List Nat} {cs : List Nat} {fps : List (List Nat)} (hm : M a = Option.some ⟨[], t.1, cs⟩) (hz : Z3 (Rep M d) cs t.2 fps) (hfp : fp = a :: fps.flatten) (hn : fp.Nodup) (hH : ∀ x ∈ fp, x < H)
    {b : Nat} {f f' : List Nat} {c' : T d} (hb : cs[i]? = Option.some b) (hf : fps[i]? = Option.some f) (hr : Rep M' d b c' f') (hc : Chg H M M' f f') :
    ∃ fps', M' a = Option.some ⟨[], t.1, cs⟩ ∧ Z3 (Rep M' d) cs (t.2.set i c') fps' ∧ Chg H M M' fp (a :: fps'.flatten) ∧ fps'[i]? = Option.some f' := by
  subst hfp
  have hil : i < fps.length := (List.getElem?_eq_some_iff.1 hf).1
  have hlen := hz.len
  have hmid : ((fps.drop i).take (i + 1 - i)).flatten = f := by rw [mid_one hf]; simp
  have haf : a ∉ f := fun h => (List.nodup_cons.1 hn).1 (List.mem_flatten.2 ⟨f, List.mem_of_getElem? hf, h⟩)
  obtain ⟨z1, z2, z3⟩ := z3_mid (M' := M') (H := H) (a := a) (i := i) (j := i + 1) hz (Nat.le_succ _) (by omega) hn hH (Z3.one hr) (by simpa using hc.nd) (by rw [hmid]; simpa using hc.sub) (by rw [hmid]; exact fun x h1 _ h3 => hc.out x h1 h3)
  refine ⟨fps.take i ++ [f'] ++ fps.drop (i + 1), (hc.out a haf (hH a List.mem_cons_self)).trans hm, ?_, ⟨z2, fun x hx hlt => hc.out x (fun h => hx (List.mem_cons_of_mem _ (List.mem_flatten.2 ⟨f, List.mem_of_getElem? hf, h⟩))) hlt, z3⟩, ?_⟩
  · rw [set_eq (by omega)]
    have : cs.take i ++ [b] ++ cs.drop (i + 1) = cs := by
      obtain ⟨q1, q2⟩ := List.getElem?_eq_some_iff.1 hb
      rw [List.append_assoc, List.singleton_append, ← q2, ← List.drop_eq_getElem_cons q1, List.take_append_drop]
    rw [this] at z1
    exact z1
  · rw [← set_eq hil, List.getElem?_set]
    simp [hil]

end Go.Proofs.Ytlgjkhdpinnccaa
