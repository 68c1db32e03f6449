/-
  What the program's Upsert and Delete make of sorted rows, plain; changes one after the other, the rows kept sorted.
  The executor over rows of the base schema; change.Apply and current at one change; what a step leaves.
-/
import Derived.Test.YtefifkleamiabaaGreatDoorUm15
import Derived.Test.YtefifkleamiabaaGreatDoorUm07
import Derived.Test.YtefifkleamiabaaGreatDoorUm09
import Derived.Test.YtefifkleamiabaaGreatDoorUm10
namespace Go.Proofs.YtefifkleamiabaaGreatDoor
open Go.RowKit Go.Sort

/-- The rows with a row put at its place. -/
def insS (r : Row) (rows : List Row) : List Row := rows.filter (fun y => decide (dgK [0] y < dgK [0] r)) ++ r :: rows.filter (fun y => decide (dgK [0] r < dgK [0] y))
/-- The rows without a key. -/
def remS (x : Nat) (rows : List Row) : List Row := rows.filter (fun y => !decide (dgK [0] y = x))
theorem filter_none {p : Row → Bool} {rows : List Row} (h : ∀ r ∈ rows, p r = false) : rows.filter p = [] := by
  rw [List.filter_eq_nil_iff]
  intro r hr
  rw [h r hr]
  exact Bool.false_ne_true
theorem filter_all {p : Row → Bool} {rows : List Row} (h : ∀ r ∈ rows, p r = true) : rows.filter p = rows := List.filter_eq_self.2 h
theorem srt_cut (x : Nat) : ∀ (rows : List Row), SrtS rows → rows.take (rows.findIdx fun r => decide (x ≤ dgK [0] r)) = rows.filter (fun r => decide (dgK [0] r < x)) ∧ rows.drop (rows.findIdx fun r => decide (x ≤ dgK [0] r)) = rows.filter (fun r => decide (x ≤ dgK [0] r))
  | [], _ => ⟨rfl, rfl⟩
  | r :: rs, hs => by
    obtain ⟨h1, h2⟩ := List.pairwise_cons.1 hs
    obtain ⟨ih1, ih2⟩ := srt_cut x rs h2
    by_cases hx : x ≤ dgK [0] r
    · rw [List.findIdx_cons, decide_eq_true hx]
      refine ⟨?_, ?_⟩
      · show [] = _
        rw [filter_none]
        intro y hy
        rcases List.mem_cons.1 hy with rfl | hy
        · exact decide_eq_false (by omega)
        · have := h1 y hy
          exact decide_eq_false (by omega)
      · show r :: rs = _
        rw [filter_all]
        intro y hy
        rcases List.mem_cons.1 hy with rfl | hy
        · exact decide_eq_true hx
        · have := h1 y hy
          exact decide_eq_true (by omega)
    · rw [List.findIdx_cons, decide_eq_false hx]
      have hlt : dgK [0] r < x := by omega
      rw [List.filter_cons_of_pos (by simpa using hlt), List.filter_cons_of_neg (by simpa using hlt), ← ih1, ← ih2]
      exact ⟨rfl, rfl⟩
theorem rfi_srt {cols : List Col} (x : Nat) {rows : List Row} (hr : ∀ r ∈ rows, RG cols r) : rfi [0] (ik (x : Int)) rows = rows.findIdx fun r => decide (x ≤ dgK [0] r) := by
  unfold rfi
  induction rows with
  | nil => rfl
  | cons r rs ih =>
    rw [List.findIdx_cons, List.findIdx_cons, ih fun y hy => hr y (by simp [hy])]
    have e : decide (0 ≤ cmpR (keyOf [0] r) (ik (x : Int))) = decide (x ≤ dgK [0] r) := by
      rw [(hr r (by simp)).key, cmpR_ik, Bool.eq_iff_iff, decide_eq_true_iff, decide_eq_true_iff, c1_ge]
      omega
    rw [e]
theorem ge_split (x : Nat) (rows : List Row) (hs : SrtS rows) : rows.filter (fun r => decide (x ≤ dgK [0] r)) = rows.filter (fun r => decide (dgK [0] r = x)) ++ rows.filter (fun r => decide (x < dgK [0] r)) := by
  induction rows with
  | nil => rfl
  | cons r rs ih =>
    obtain ⟨h1, h2⟩ := List.pairwise_cons.1 hs
    by_cases h : dgK [0] r < x
    · rw [List.filter_cons_of_neg (by simpa using h), List.filter_cons_of_neg (by simp; omega), List.filter_cons_of_neg (by simp; omega), ih h2]
    · by_cases h' : dgK [0] r = x
      · rw [List.filter_cons_of_pos (by simp; omega), List.filter_cons_of_pos (by simpa using h'), List.filter_cons_of_neg (by simp; omega), ih h2]
        rfl
      · rw [List.filter_cons_of_pos (by simp; omega), List.filter_cons_of_neg (by simpa using h'), List.filter_cons_of_pos (by simp; omega), ih h2]
        rw [filter_none (p := fun r => decide (dgK [0] r = x)), List.nil_append, List.nil_append]
        intro y hy
        have := h1 y hy
        exact decide_eq_false (by omega)
theorem eq_one (x : Nat) : ∀ (rows : List Row), SrtS rows → rows.any (fun r => decide (dgK [0] r = x)) = true → ∃ a, dgK [0] a = x ∧ a ∈ rows ∧ rows.filter (fun r => decide (dgK [0] r = x)) = [a]
  | [], _, h => by cases h
  | r :: rs, hs, h => by
    obtain ⟨h1, h2⟩ := List.pairwise_cons.1 hs
    by_cases hr : dgK [0] r = x
    · refine ⟨r, hr, by simp, ?_⟩
      rw [List.filter_cons_of_pos (by simpa using hr), filter_none]
      intro y hy
      have := h1 y hy
      exact decide_eq_false (by omega)
    · rw [List.any_cons, decide_eq_false hr, Bool.false_or] at h
      obtain ⟨a, ha, hm, he⟩ := eq_one x rs h2 h
      exact ⟨a, ha, by simp [hm], by rw [List.filter_cons_of_neg (by simpa using hr), he]⟩
theorem eq_none {x : Nat} {rows : List Row} (h : rows.any (fun r => decide (dgK [0] r = x)) = false) : rows.filter (fun r => decide (dgK [0] r = x)) = [] := filter_none fun r hr => by
  rw [List.any_eq_false] at h
  have := h r hr
  simpa using this
theorem ne_split (x : Nat) (rows : List Row) (hs : SrtS rows) : remS x rows = rows.filter (fun r => decide (dgK [0] r < x)) ++ rows.filter (fun r => decide (x < dgK [0] r)) := by
  unfold remS
  induction rows with
  | nil => rfl
  | cons r rs ih =>
    obtain ⟨h1, h2⟩ := List.pairwise_cons.1 hs
    by_cases h : dgK [0] r < x
    · rw [List.filter_cons_of_pos (by simp; omega), List.filter_cons_of_pos (by simpa using h), List.filter_cons_of_neg (by simp; omega), ih h2]
      rfl
    · have hn : rs.filter (fun r => decide (dgK [0] r < x)) = [] := filter_none fun y hy => by
        have := h1 y hy
        exact decide_eq_false (by omega)
      rw [hn, List.nil_append] at ih
      by_cases h' : dgK [0] r = x
      · rw [List.filter_cons_of_neg (by simp; omega), List.filter_cons_of_neg (by simpa using h), List.filter_cons_of_neg (by simp; omega), hn, ih h2]
        rfl
      · rw [List.filter_cons_of_pos (by simp; omega), List.filter_cons_of_neg (by simpa using h), List.filter_cons_of_pos (by simp; omega), hn, ih h2]
        rfl
theorem ups_eq {cols : List Col} {r : Row} {rows : List Row} (hrr : RG cols r) (hr : ∀ y ∈ rows, RG cols y) (hs : SrtS rows) : upsX [0] r rows = insS r rows := by
  unfold upsX insS
  rw [hrr.key, rff_srt _ rows hr hs, rfi_srt _ hr]
  obtain ⟨h1, h2⟩ := srt_cut (dgK [0] r) rows hs
  rw [ge_split _ _ hs] at h2
  generalize hk : (rows.findIdx fun y => decide (dgK [0] r ≤ dgK [0] y)) = k at *
  cases ha : rows.any fun y => decide (dgK [0] y = dgK [0] r) with
  | false =>
    rw [if_neg (by simp), h1]
    rw [eq_none ha, List.nil_append] at h2
    rw [h2]
  | true =>
    obtain ⟨a, -, -, he⟩ := eq_one _ rows hs ha
    rw [he] at h2
    have hlt : k < rows.length := by
      rcases Nat.lt_or_ge k rows.length with h | h
      · exact h
      · rw [List.drop_eq_nil_of_le h] at h2
        cases h2
    have h3 : rows.drop (k + 1) = rows.filter (fun y => decide (dgK [0] r < dgK [0] y)) := by
      have := congrArg List.tail h2
      rwa [List.tail_drop] at this
    rw [if_pos rfl, List.set_eq_take_append_cons_drop, if_pos hlt, h1, h3]
theorem del_eq {cols : List Col} {x : Nat} {rows : List Row} (hr : ∀ y ∈ rows, RG cols y) (hs : SrtS rows) : delRX [0] (ik (x : Int)) rows = remS x rows := by
  unfold delRX
  rw [rff_srt _ rows hr hs, rfi_srt _ hr, ne_split x rows hs]
  obtain ⟨h1, h2⟩ := srt_cut x rows hs
  have h0 := List.take_append_drop (rows.findIdx fun y => decide (x ≤ dgK [0] y)) rows
  rw [ge_split _ _ hs] at h2
  generalize hk : (rows.findIdx fun y => decide (x ≤ dgK [0] y)) = k at *
  cases ha : rows.any fun y => decide (dgK [0] y = x) with
  | false =>
    rw [if_neg (by simp)]
    rw [eq_none ha, List.nil_append] at h2
    rw [← h1, ← h2, h0]
  | true =>
    obtain ⟨a, -, -, he⟩ := eq_one _ rows hs ha
    rw [he] at h2
    have h3 : rows.drop (k + 1) = rows.filter (fun y => decide (x < dgK [0] y)) := by
      have := congrArg List.tail h2
      rwa [List.tail_drop] at this
    rw [if_pos rfl, h1, h3]
/-- The row at a key's place. -/
theorem row_at {cols : List Col} {x : Nat} {rows : List Row} (hr : ∀ y ∈ rows, RG cols y) (hf : rff [0] (ik (x : Int)) rows = true) (hj : rfi [0] (ik (x : Int)) rows < rows.length) : dgK [0] rows[rfi [0] (ik (x : Int)) rows] = x := by
  have h : (match rows[rfi [0] (ik (x : Int)) rows]? with | some r => decide (cmpR (keyOf [0] r) (ik (x : Int)) = 0) | none => false) = true := hf
  rw [List.getElem?_eq_getElem hj] at h
  have h := of_decide_eq_true h
  rw [(hr _ (List.getElem_mem hj)).key, cmpR_ik, c1_zero] at h
  omega
theorem insS_srt {r : Row} {rows : List Row} (hs : SrtS rows) : SrtS (insS r rows) := by
  unfold insS SrtS
  refine List.pairwise_append.2 ⟨hs.filter _, List.pairwise_cons.2 ⟨fun y hy => ?_, hs.filter _⟩, fun a ha b hb => ?_⟩
  · simpa using (List.mem_filter.1 hy).2
  · have h1 : dgK [0] a < dgK [0] r := by simpa using (List.mem_filter.1 ha).2
    rcases List.mem_cons.1 hb with rfl | hb
    · exact h1
    · have h2 : dgK [0] r < dgK [0] b := by simpa using (List.mem_filter.1 hb).2
      omega
theorem remS_srt {x : Nat} {rows : List Row} (hs : SrtS rows) : SrtS (remS x rows) := hs.filter _
theorem insS_perm {r : Row} {rows : List Row} (hs : SrtS rows) : (insS r rows).Perm (upR [0] (dgK [0] r) [r] rows) := by
  have h : upR [0] (dgK [0] r) [r] rows = remS (dgK [0] r) rows ++ [r] := rfl
  rw [h, ne_split _ _ hs, List.append_assoc]
  exact (List.perm_append_left_iff _).2 (List.perm_append_singleton r _).symm
theorem insS_mem {r y : Row} {rows : List Row} (h : y ∈ insS r rows) : y = r ∨ y ∈ rows := by
  unfold insS at h
  rcases List.mem_append.1 h with h | h
  · exact .inr (List.mem_filter.1 h).1
  · rcases List.mem_cons.1 h with h | h
    · exact .inl h
    · exact .inr (List.mem_filter.1 h).1
/-- What a change makes of sorted rows. -/
def nextB (ch : ChM) (R : Nat → List Row) : Nat → List Row := fun i => if i = tiOf ch then (if ch.kind = 1 then insS ch.row.row (R (tiOf ch)) else remS (kkOf ch) (R (tiOf ch))) else R i
theorem nextB_bg {ch : ChM} {R : Nat → List Row} (h : BG R) (hf : FitB ch) : BG (nextB ch R) where
  row := fun i hi r hr => by
    unfold nextB at hr
    by_cases hit : i = tiOf ch
    · subst hit
      rw [if_pos rfl] at hr
      rcases hf.fit with ⟨hk, -, hg⟩ | ⟨hk, -⟩
      · rw [if_pos hk] at hr
        rcases insS_mem hr with rfl | hr
        · exact hg
        · exact h.row _ hi r hr
      · rw [if_neg (by omega)] at hr
        exact h.row _ hi r (List.mem_filter.1 hr).1
    · rw [if_neg hit] at hr
      exact h.row i hi r hr
  srt := fun i hi => by
    unfold nextB
    by_cases hit : i = tiOf ch
    · subst hit
      rw [if_pos rfl]
      by_cases hk : ch.kind = 1
      · rw [if_pos hk]
        exact insS_srt (h.srt _ hi)
      · rw [if_neg hk]
        exact remS_srt (h.srt _ hi)
    · rw [if_neg hit]
      exact h.srt i hi
theorem upR_perm {kk : Nat} {new a b : List Row} (h : a.Perm b) : (upR [0] kk new a).Perm (upR [0] kk new b) := (List.perm_append_right_iff _).2 (h.filter _)
theorem nextB_perm {ch : ChM} {R U : Nat → List Row} (h : BG R) (hp : ∀ i, i < 2 → (R i).Perm (U i)) : ∀ i, i < 2 → (nextB ch R i).Perm (stepB ch U i) := fun i hi => by
  have e : stepB ch U i = if i = tiOf ch then upR [0] (kkOf ch) (newR ch) (U (tiOf ch)) else U i := rfl
  rw [e]
  unfold nextB
  by_cases hit : i = tiOf ch
  · subst hit
    rw [if_pos rfl, if_pos rfl]
    unfold newR
    by_cases hk : ch.kind = 1
    · rw [if_pos hk, if_pos hk]
      have hkk : kkOf ch = dgK [0] ch.row.row := by unfold kkOf; rw [if_pos hk]
      rw [hkk]
      exact (insS_perm (h.srt _ hi)).trans (upR_perm (hp _ hi))
    · rw [if_neg hk, if_neg hk]
      have e2 : remS (kkOf ch) (R (tiOf ch)) = upR [0] (kkOf ch) [] (R (tiOf ch)) := by unfold remS upR; rw [List.append_nil]
      rw [e2]
      exact upR_perm (hp _ hi)
  · rw [if_neg hit, if_neg hit]
    exact hp i hi
/-- The key to delete is not there. -/
def stopN (ch : ChM) (R : Nat → List Row) : Bool := decide (ch.kind = 2) && !((R (tiOf ch)).any fun r => decide (dgK [0] r = kkOf ch))
theorem upR_len (kk : Nat) (rows : List Row) : (upR [0] kk [] rows).length = rows.length ↔ (rows.any fun r => decide (dgK [0] r = kk)) = false := by
  unfold upR
  rw [List.append_nil]
  induction rows with
  | nil => simp
  | cons r rs ih =>
    by_cases h : dgK [0] r = kk
    · rw [List.filter_cons_of_neg (by simpa using h), List.any_cons, decide_eq_true h]
      have := List.length_filter_le (fun r => !decide (dgK [0] r = kk)) rs
      rw [List.length_cons]
      simp
      omega
    · rw [List.filter_cons_of_pos (by simpa using h), List.any_cons, decide_eq_false h, List.length_cons, List.length_cons, Bool.false_or, ← ih]
      omega
theorem any_perm {a b : List Row} {p : Row → Bool} (h : a.Perm b) : a.any p = b.any p := by
  rw [Bool.eq_iff_iff, List.any_eq_true, List.any_eq_true]
  exact ⟨fun ⟨x, hx, hp⟩ => ⟨x, h.mem_iff.1 hx, hp⟩, fun ⟨x, hx, hp⟩ => ⟨x, h.mem_iff.2 hx, hp⟩⟩
theorem stopN_iff {ch : ChM} {R U : Nat → List Row} (hf : FitB ch) (hp : ∀ i, i < 2 → (R i).Perm (U i)) : stopN ch R = true ↔ stopB ch U := by
  unfold stopN stopB stopR
  rw [upR_len, any_perm (hp _ hf.tab.2), Bool.and_eq_true, decide_eq_true_iff, Bool.not_eq_true']
/-- The changes, one after the other, the rows kept sorted. -/
def runN : List ChM → (Nat → List Row) → Option (Nat → List Row)
  | [], R => some R
  | ch :: cs, R => if stopN ch R = true then none else runN cs (nextB ch R)
theorem runN_runB : ∀ (chs : List ChM) (R U : Nat → List Row), BG R → (∀ i, i < 2 → (R i).Perm (U i)) → (∀ ch ∈ chs, FitB ch) → (runN chs R = none ∧ runB chs U = none) ∨ ∃ R' U', runN chs R = some R' ∧ runB chs U = some U' ∧ BG R' ∧ ∀ i, i < 2 → (R' i).Perm (U' i)
  | [], R, U, h, hp, _ => .inr ⟨R, U, rfl, rfl, h, hp⟩
  | ch :: cs, R, U, h, hp, hf => by
    have hfc := hf ch (by simp)
    unfold runN runB
    by_cases hs : stopN ch R = true
    · rw [if_pos hs, if_pos ((stopN_iff hfc hp).1 hs)]
      exact .inl ⟨rfl, rfl⟩
    · rw [if_neg hs, if_neg (fun e => hs ((stopN_iff hfc hp).2 e))]
      exact runN_runB cs _ _ (nextB_bg h hfc) (nextB_perm h hp) fun x hx => hf x (by simp [hx])
/-- Sorted rows that are the same in another order are the same. -/
theorem srt_eq {a b : List Row} (ha : SrtS a) (hb : SrtS b) (hp : a.Perm b) : a = b :=
  sorted_ext (R := fun x y => dgK [0] x < dgK [0] y) (fun _ h => Nat.lt_irrefl _ h) (fun _ _ h h' => Nat.lt_irrefl _ (Nat.lt_trans h h')) ha hb fun _ => hp.mem_iff
end Go.Proofs.YtefifkleamiabaaGreatDoor

namespace Go.Proofs.YtefifkleamiabaaGreatDoor
open Go.RowKit Go.Sort

/-- A valid schema with the base schema's tables. -/
structure BV (s : Sc) : Prop where
  val : SchV s
  sb : SB s
def bD (R : Nat → List Row) : List (ByteArray × List Row) := [(nItem, R 0), (nOrder, R 1)]
theorem BV.len {s : Sc} (h : BV s) : s.tabs.length = 2 := by obtain ⟨IA, IP, OA, OP, ht⟩ := h.sb; rw [ht]; rfl
theorem BV.tab {s : Sc} (h : BV s) {i : Nat} (hi : i < s.tabs.length) : s.tabs[i].name = nTab i ∧ s.tabs[i].pk = [0] ∧ s.tabs[i].cols = bCols i := by
  have h2 := h.len
  obtain ⟨IA, IP, OA, OP, ht⟩ := h.sb
  have hi' : i < 2 := by omega
  simp only [ht]
  rcases i with _ | _ | i
  · exact ⟨rfl, rfl, rfl⟩
  · exact ⟨rfl, rfl, rfl⟩
  · omega
theorem bD_rel {R : Nat → List Row} {rs : List RelM} (hd : rs.map RelM.d = bD R) {i : Nat} (hi : i < rs.length) : rs.length = 2 ∧ rs[i].rows.map Key.row = R i ∧ rs[i].name = nTab i := by
  have hl : rs.length = 2 := by
    have h := congrArg List.length hd
    rwa [List.length_map] at h
  have h := congrArg (fun l => l[i]?) hd
  simp only [List.getElem?_map, List.getElem?_eq_getElem hi, Option.map_some] at h
  have hi2 : i < 2 := by omega
  rcases i with _ | _ | i
  · have h := Option.some.inj h
    exact ⟨hl, congrArg Prod.snd h, congrArg Prod.fst h⟩
  · have h := Option.some.inj h
    exact ⟨hl, congrArg Prod.snd h, congrArg Prod.fst h⟩
  · omega
theorem bD_open {R : Nat → List Row} {rs : List RelM} (hd : rs.map RelM.d = bD R) : ∃ A0 c0 k0 A1 c1 k1, rs = [⟨nItem, A0, c0, k0⟩, ⟨nOrder, A1, c1, k1⟩] ∧ k0.map Key.row = R 0 ∧ k1.map Key.row = R 1 := by
  have hl : rs.length = 2 := by
    have h := congrArg List.length hd
    rwa [List.length_map] at h
  rcases rs with _ | ⟨⟨n0, A0, c0, k0⟩, _ | ⟨⟨n1, A1, c1, k1⟩, _ | ⟨r2, l⟩⟩⟩
  · cases hl
  · cases hl
  · have h := List.cons.inj hd
    have h0 := Prod.mk.inj h.1
    have h1 := Prod.mk.inj (List.cons.inj h.2).1
    obtain ⟨e0, e1⟩ := h0
    obtain ⟨e2, e3⟩ := h1
    have e0 : n0 = nItem := e0
    have e2 : n1 = nOrder := e2
    subst e0 e2
    exact ⟨A0, c0, k0, A1, c1, k1, rfl, e1, e3⟩
  · simp at hl
theorem BV.fit {s : Sc} (h : BV s) {R : Nat → List Row} (hb : BG R) {rs : List RelM} (hd : rs.map RelM.d = bD R) : InC s.tabs rs := by
  obtain ⟨A0, c0, k0, A1, c1, k1, rfl, e0, e1⟩ := bD_open hd
  obtain ⟨IA, IP, OA, OP, ht⟩ := h.sb
  rw [ht]
  exact hb.inC e0 e1

/-- All that apply is handed. -/
structure XB (B px : Nat) (s : Sc) (TA : Option Addr) (tc : Nat) (ts : List Tr) (ch : ChM) (R : Nat → List Row) (IA : Option Addr) (ic : Nat) (rs : List RelM) (va : Value) (qs : List ChM) (w : World) : Prop where
  x : XIn B px s TA tc ts IA ic rs va qs w
  dat : rs.map RelM.d = bD R
  bg : BG R
  len : qs.length ≤ 19
  cos : ∀ q ∈ qs, ChOk (Free px va w) w q
  co : ChOk (Free px va w) w ch
  fit : FitB ch
section
variable {B px : Nat} {s : Sc} {TA : Option Addr} {tc : Nat} {ts : List Tr} {ch : ChM} {R : Nat → List Row} {IA : Option Addr} {ic : Nat} {rs : List RelM} {va : Value} {qs : List ChM} {w W : World}
theorem XB.tl (h : XB B px s TA tc ts ch R IA ic rs va qs w) (hs : BV s) : tiOf ch < s.tabs.length ∧ tiOf ch < rs.length ∧ s.tabs.length ≤ 1000 := by
  have h1 := hs.len
  have h2 := h.fit.tab.2
  have h3 : rs.length = 2 := by
    have h := congrArg List.length h.dat
    rwa [List.length_map] at h
  omega
theorem XB.rff_key (h : XB B px s TA tc ts ch R IA ic rs va qs w) (hk : ch.kind = 2) : rff [0] ch.key.row (R (tiOf ch)) = !stopN ch R := by
  rcases h.fit.fit with ⟨h1, -⟩ | ⟨-, -, hkr, hlt⟩
  · omega
  · rw [hkr, rff_srt _ _ (h.bg.row _ h.fit.tab.2) (h.bg.srt _ h.fit.tab.2)]
    unfold stopN
    rw [decide_eq_true hk, Bool.true_and, Bool.not_not]
/-- Apply, with the one change in a list made ahead of the call. -/
theorem XB.applyIn (h : XB B px s TA tc ts ch R IA ic rs va qs w) (hs : BV s) (hW : Below w.heap.size w W) : ApIn s IA rs (some ⟨W.heap.size, 0, none⟩) ch (tiOf ch) (W.alloc (.cells ch.cells 51)) := by
  obtain ⟨W1, hW1⟩ : ∃ W1, W1 = W.alloc (.cells ch.cells 51) := ⟨_, rfl⟩
  have hb1 : Below W.heap.size W W1 := by rw [hW1]; exact (Below.refl _ _).alloc (Nat.le_refl _) _
  have hg1 : W1.heap[W.heap.size]? = some (.cells ch.cells 51 (0, 0)) := by rw [hW1]; exact heap_alloc_new W _
  rw [← hW1]
  have hb := hW.trans (hb1.mono hW.size)
  have hx := h.x.below hb
  refine ⟨hx.scw, hs.val, hx.inw, hs.fit h.bg h.dat, (elems_block chmLay (xs := [ch]) hg1 rfl (by show 1 ≤ maxLen; decide) rfl).more fun g hg => ?_, (h.co.fr hb).frw, (h.fit.stepF hs.sb).fit⟩
  have hg : g = W.heap.size := hg
  rw [hg]
  exact (Array.getElem?_eq_some_iff.1 hg1).1
theorem bD_set {s : Sc} (hs : BV s) (hd : rs.map RelM.d = bD R) {i : Nat} (hi : i < s.tabs.length) (rows : List Row) : (rs.map RelM.d).set i (s.tabs[i].name, rows) = bD fun j => if j = i then rows else R j := by
  have hl := hs.len
  rw [hd, (hs.tab hi).1]
  have : i = 0 ∨ i = 1 := by omega
  rcases this with rfl | rfl <;> rfl
theorem XB.applyY (h : XB B px s TA tc ts ch R IA ic rs va qs w) (hs : BV s) (hn : stopN ch R = false) (hW : Below w.heap.size w W) :
    Calls Tryz.prog 74 #[s.v, .slice IA rs.length ic, .slice (some ⟨W.heap.size, 0, none⟩) 1 1] (W.alloc (.cells ch.cells 51)) fun e w' => ∃ v rs', e = .returned (.tuple #[v, .int .i64 0]) ∧ InO W.heap.size W w' v rs' (bD (nextB ch R)) := by
  have hin := h.applyIn hs hW
  obtain ⟨ht, hi, -⟩ := h.tl hs
  obtain ⟨-, hrow, -⟩ := bD_rel h.dat hi
  obtain ⟨hnm, hpk, hco⟩ := hs.tab ht
  have hset := fun rows => bD_set (R := R) hs h.dat ht rows
  obtain ⟨W1, hW1⟩ : ∃ W1, W1 = W.alloc (.cells ch.cells 51) := ⟨_, rfl⟩
  have hb1 : Below W.heap.size W W1 := by rw [hW1]; exact (Below.refl _ _).alloc (Nat.le_refl _) _
  rw [← hW1] at hin ⊢
  have hfin : ∀ w' v rs' rows, (fun j => if j = tiOf ch then rows else R j) = nextB ch R → InO W1.heap.size W1 w' v rs' ((rs.map RelM.d).set (tiOf ch) (s.tabs[tiOf ch].name, rows)) → InO W.heap.size W w' v rs' (bD (nextB ch R)) := fun w' v rs' rows hr ho => by
    rw [hset rows, hr] at ho
    exact ⟨ho.own.mono hb1.size, ho.dat, fun r hm => (ho.rel r hm).more fun g hg => ⟨Nat.le_trans hb1.size hg.1, hg.2⟩, hb1.trans (ho.bel.mono hb1.size)⟩
  have hrg := h.bg.row _ h.fit.tab.2
  have hsr := h.bg.srt _ h.fit.tab.2
  rcases h.fit.fit with ⟨h1, h2, h3⟩ | ⟨h1, h2, h3, h4⟩
  · have hup : upsX s.tabs[tiOf ch].pk ch.row.row (rs[tiOf ch].rows.map Key.row) = insS ch.row.row (R (tiOf ch)) := by rw [hrow, hpk]; exact ups_eq h3 hrg hsr
    have hlen : (insS ch.row.row (R (tiOf ch))).length ≤ 24 := by
      have h5 := (nextB_bg h.bg h.fit).len h.fit.tab.2
      have e : nextB ch R (tiOf ch) = insS ch.row.row (R (tiOf ch)) := by unfold nextB; rw [if_pos rfl, if_pos h1]
      rw [e] at h5
      omega
    refine (applyUps s IA ic rs (some ⟨W.heap.size, 0, none⟩) 1 ch (tiOf ch) W1 hin h1 hi ht (by rw [hup]; exact hlen)).mono ?_
    rintro e w' ⟨v, rs', rfl, ho⟩
    rw [hup] at ho
    refine ⟨v, rs', rfl, hfin _ _ _ _ ?_ ho⟩
    funext j
    unfold nextB
    rw [if_pos h1]
  · have hdl : delRX s.tabs[tiOf ch].pk ch.key.row (rs[tiOf ch].rows.map Key.row) = remS (kkOf ch) (R (tiOf ch)) := by rw [hrow, hpk, h3]; exact del_eq hrg hsr
    refine (applyDel s IA ic rs (some ⟨W.heap.size, 0, none⟩) 1 ch (tiOf ch) W1 hin h1 hi ht (by rw [hrow, hpk, h.rff_key h1, hn]; rfl)).mono ?_
    rintro e w' ⟨v, rs', rfl, ho⟩
    rw [hdl] at ho
    refine ⟨v, rs', rfl, hfin _ _ _ _ ?_ ho⟩
    funext j
    unfold nextB
    rw [if_neg (by omega : ¬ ch.kind = 1)]
theorem XB.applyN (h : XB B px s TA tc ts ch R IA ic rs va qs w) (hs : BV s) (hk : ch.kind = 2) (hn : stopN ch R = true) (hW : Below w.heap.size w W) :
    Calls Tryz.prog 74 #[s.v, .slice IA rs.length ic, .slice (some ⟨W.heap.size, 0, none⟩) 1 1] (W.alloc (.cells ch.cells 51)) fun e w' => e = .returned (.tuple #[.slice none 0 0, .int .i64 9]) ∧ Below W.heap.size W w' := by
  have hin := h.applyIn hs hW
  obtain ⟨ht, hi, -⟩ := h.tl hs
  obtain ⟨-, hrow, -⟩ := bD_rel h.dat hi
  obtain ⟨hnm, hpk, hco⟩ := hs.tab ht
  have hb1 : Below W.heap.size W (W.alloc (.cells ch.cells 51)) := (Below.refl _ _).alloc (Nat.le_refl _) _
  refine (applyDelNo s IA ic rs (some ⟨W.heap.size, 0, none⟩) 1 ch (tiOf ch) _ hin hk hi ht (by rw [hrow, hpk, h.rff_key hk, hn]; rfl)).mono ?_
  rintro e w' ⟨rfl, hb⟩
  exact ⟨rfl, hb1.trans (hb.mono hb1.size)⟩
/-- current, at an upsert: some slice. -/
theorem XB.curU (h : XB B px s TA tc ts ch R IA ic rs va qs w) (hs : BV s) (hk : ch.kind = 1) (hW : Below w.heap.size w W) :
    Calls Tryz.prog 72 #[ptr px, .agg ch.cells] W fun e w' => (∃ oA n oc, e = .returned (.slice oA n oc)) ∧ Below W.heap.size W w' := by
  have hx := h.x.below hW
  obtain ⟨ht, hi, hl⟩ := h.tl hs
  obtain ⟨-, hrow, -⟩ := bD_rel h.dat hi
  obtain ⟨hnm, hpk, hco⟩ := hs.tab ht
  have hF := (h.fit.stepF hs.sb).fit
  have hlr : rs[tiOf ch].rows.length ≤ 1000 := by
    have h5 := h.bg.len h.fit.tab.2
    rw [← hrow, List.length_map] at h5
    omega
  have hrl : ch.row.row.length = s.tabs[tiOf ch].cols.length := by
    rcases hF.fit with ⟨-, -, h3⟩ | ⟨h1, -⟩
    · exact h3.len
    · omega
  cases hff : rff s.tabs[tiOf ch].pk (keyOf s.tabs[tiOf ch].pk ch.row.row) (rs[tiOf ch].rows.map Key.row) with
  | false =>
    refine (currentUps s px _ va IA ic rs ch (tiOf ch) W hx.blk hx.scw hl hx.inw hi ht (h.co.fr hW).frw hF.fi hk hrl hF.tab.2 hlr hff).mono ?_
    rintro e w' ⟨rfl, hb⟩
    exact ⟨⟨_, _, _, rfl⟩, hb⟩
  | true =>
    refine (curUpsY _ s px _ va IA ic rs ch (tiOf ch) W hx.blk hx.scw hl hx.inw hi ht (h.co.fr hW).frw hF.fi hk hrl hF.tab.2 hlr hff rfl).mono ?_
    rintro e w' ⟨⟨hj, rfl⟩, hb⟩
    exact ⟨⟨_, _, _, rfl⟩, hb⟩
/-- current, at a delete whose key is there: the row. -/
theorem XB.curY (h : XB B px s TA tc ts ch R IA ic rs va qs w) (hs : BV s) (hk : ch.kind = 2) (hn : stopN ch R = false) (hW : Below w.heap.size w W) :
    Calls Tryz.prog 72 #[ptr px, .agg ch.cells] W fun e w' => (∃ oa oc row, e = .returned (.slice (some oa) row.length oc) ∧ KOk (Free px va w) w ⟨some oa, oc, row⟩ ∧ RG (bCols (tiOf ch)) row ∧ dgK [0] row = kkOf ch) ∧ Below W.heap.size W w' := by
  have hx := h.x.below hW
  obtain ⟨ht, hi, hl⟩ := h.tl hs
  obtain ⟨-, hrow, -⟩ := bD_rel h.dat hi
  obtain ⟨hnm, hpk, hco⟩ := hs.tab ht
  have hF := (h.fit.stepF hs.sb).fit
  have hlr : rs[tiOf ch].rows.length ≤ 1000 := by
    have h5 := h.bg.len h.fit.tab.2
    rw [← hrow, List.length_map] at h5
    omega
  obtain ⟨hkr, hkl⟩ : ch.key.row = ik (kkOf ch : Int) ∧ ch.key.row.length = s.tabs[tiOf ch].pk.length := by
    rcases h.fit.fit with ⟨h1, -⟩ | ⟨-, -, h3, -⟩
    · omega
    · exact ⟨h3, by rw [h3, hpk]; rfl⟩
  have hff0 := h.rff_key hk
  rw [hn] at hff0
  have hff : rff s.tabs[tiOf ch].pk ch.key.row (rs[tiOf ch].rows.map Key.row) = true := by rw [hrow, hpk, hff0]; rfl
  refine (curDelY _ s px _ va IA ic rs ch (tiOf ch) W hx.blk hx.scw hl hx.inw hi ht (h.co.fr hW).frw hF.fi hk hkl hF.tab.2 hlr hff rfl).mono ?_
  rintro e w' ⟨⟨hj, rfl⟩, hb⟩
  have hko := (h.x.inst.rel _ (List.getElem_mem hi)).row _ (List.getElem_mem hj)
  have hm : rs[tiOf ch].rows[rfi s.tabs[tiOf ch].pk ch.key.row (rs[tiOf ch].rows.map Key.row)].row ∈ R (tiOf ch) := by
    rw [← hrow]
    exact List.mem_map_of_mem (List.getElem_mem hj)
  have hdg : dgK [0] rs[tiOf ch].rows[rfi s.tabs[tiOf ch].pk ch.key.row (rs[tiOf ch].rows.map Key.row)].row = kkOf ch := by
    have hj' : rfi [0] (ik (kkOf ch : Int)) (R (tiOf ch)) < (R (tiOf ch)).length := by
      have := hj
      rw [hrow, hpk, hkr] at this
      have e := congrArg List.length hrow
      rw [List.length_map] at e
      omega
    have h1 := row_at (h.bg.row _ h.fit.tab.2) (by rw [← hkr]; exact hff0) hj'
    rw [← h1]
    congr 1
    have e : (R (tiOf ch))[rfi [0] (ik (kkOf ch : Int)) (R (tiOf ch))]? = (rs[tiOf ch].rows.map Key.row)[rfi s.tabs[tiOf ch].pk ch.key.row (rs[tiOf ch].rows.map Key.row)]? := by rw [hrow, hpk, hkr]
    rw [List.getElem?_eq_getElem hj', List.getElem?_map, List.getElem?_eq_getElem hj, Option.map_some] at e
    exact (Option.some.inj e).symm
  have hrg := h.bg.row _ h.fit.tab.2 _ hm
  generalize rs[tiOf ch].rows[rfi s.tabs[tiOf ch].pk ch.key.row (rs[tiOf ch].rows.map Key.row)] = k at *
  obtain ⟨kA, kc, kr⟩ := k
  have hpos : 0 < kr.length := by
    have h6 := hrg.fit.len
    have h7 : 0 < (bCols (tiOf ch)).length := by
      have := h.fit.tab.2
      rcases (by omega : tiOf ch = 0 ∨ tiOf ch = 1) with e | e <;> rw [e] <;> decide
    have h6 : kr.length = _ := h6
    omega
  obtain ⟨bb, off, hA, -⟩ := hko.el.val (k := 0) hpos
  have hA : kA = _ := hA
  subst hA
  exact ⟨⟨_, kc, kr, rfl, hko, hrg, hdg⟩, hb⟩
/-- current, at a delete whose key is not there: nil. -/
theorem XB.curN (h : XB B px s TA tc ts ch R IA ic rs va qs w) (hs : BV s) (hk : ch.kind = 2) (hn : stopN ch R = true) (hW : Below w.heap.size w W) :
    Calls Tryz.prog 72 #[ptr px, .agg ch.cells] W fun e w' => e = .returned (.slice none 0 0) ∧ Below W.heap.size W w' := by
  have hx := h.x.below hW
  obtain ⟨ht, hi, hl⟩ := h.tl hs
  obtain ⟨-, hrow, -⟩ := bD_rel h.dat hi
  obtain ⟨hnm, hpk, hco⟩ := hs.tab ht
  have hF := (h.fit.stepF hs.sb).fit
  have hlr : rs[tiOf ch].rows.length ≤ 1000 := by
    have h5 := h.bg.len h.fit.tab.2
    rw [← hrow, List.length_map] at h5
    omega
  have hkl : ch.key.row.length = s.tabs[tiOf ch].pk.length := by
    rcases h.fit.fit with ⟨h1, -⟩ | ⟨-, -, h3, -⟩
    · omega
    · rw [h3, hpk]; rfl
  have hff0 := h.rff_key hk
  rw [hn] at hff0
  have hff : rff s.tabs[tiOf ch].pk ch.key.row (rs[tiOf ch].rows.map Key.row) = false := by rw [hrow, hpk, hff0]; rfl
  exact curDelN _ s px _ va IA ic rs ch (tiOf ch) W hx.blk hx.scw hl hx.inw hi ht (h.co.fr hW).frw hF.fi hk hkl hF.tab.2 hlr hff rfl

/-- Behind a step: the executor's new state. -/
def PN (B px : Nat) (s : Sc) (TA : Option Addr) (tc : Nat) (ts : List Tr) (R2 : Nat → List Row) (qs2 : List ChM) (va : Value) (w wx : World) : Prop :=
  ∃ A4 c4 rs' va', XIn B px s TA tc ts A4 c4 rs' va' qs2 wx ∧ rs'.map RelM.d = bD R2 ∧ (∀ q ∈ qs2, ChOk (Free px va' wx) wx q) ∧ Below B w wx ∧ (∀ k, KOk (Free px va w) w k → KOk (Free px va' wx) wx k)
theorem XIn.appendN (h : XIn B px s TA tc ts IA ic rs va qs w) {w4 : World} {A4 : Option Addr} {n4 c4 : Nat} {rs' : List RelM} {R2 : Nat → List Row} (hio : InO w.heap.size w w4 (.slice A4 n4 c4) rs' (bD R2)) {g : Nat} (hg : Free px va w g) {c : ChM} (hc : w.heap[g]? = some (.cells c.cells 51 (0, 0))) (hq : qs.length ≤ 19) (hcos : ∀ q ∈ qs, ChOk (Free px va w) w q) (hco : ChOk (Free px va w) w c) (ty : TypeId) :
    ∃ v5 w5, (Builtin.append_ #[32, 32] ty #[va, .slice (some ⟨w4.heap.size, 0, none⟩) 1 1]).run Tryz.prog (w4.alloc (.cells #[.int .i64 c.kind, .string c.name, .slice c.key.A c.key.row.length c.key.c, .slice c.row.A c.row.row.length c.row.c] 51)) = .ok v5 w5
      ∧ ApR px g c (.slice A4 n4 c4) (PN B px s TA tc ts R2 (qs ++ [c]) va w) v5 w5 := by
  have hlt := h.lt
  have hs4 := hio.bel.size
  have hB := h.hB
  obtain ⟨v5, w5, hrun, ho5, hx5⟩ := run_push elem_chg chmLay ty w4 va qs c #[.int .i64 c.kind, .string c.name, .slice c.key.A c.key.row.length c.key.c, .slice c.row.A c.row.row.length c.row.c] (h.app.below hio.bel) rfl (by omega) (by unfold maxLen; omega) (by omega) rfl
  refine ⟨v5, w5, hrun, ?_⟩
  obtain ⟨A5, c5, rfl, -, -⟩ := ho5.form
  obtain ⟨A4', c4', hv4, -, -⟩ := hio.own.form
  injection hv4 with e1 e2 e3
  subst e1 e2 e3
  obtain ⟨hx, hb, hk, hkp⟩ := h.step hio rfl ho5 hx5
  have hgv : w5.heap[g]? = some (.cells c.cells 51 (0, 0)) :=
    (hx5.keeps (S := fun k => k = g) (fun k hk => ⟨by rw [hk]; have := hg.1; omega, fun e => hg.2.2 (by rw [← e, hk])⟩) g rfl).trans ((hio.bel.block g hg.1).trans hc)
  have hpv : w5.heap[px]? = some (.cells (exC s (.slice TA ts.length tc) (.slice IA rs.length ic) va) 96 (0, 0)) :=
    (hx5.keeps (S := fun k => k = px) (fun k hk => ⟨by rw [hk]; omega, fun e => h.ne (by rw [← e, hk])⟩) px rfl).trans ((hio.bel.block px hlt).trans h.blk)
  unfold exC at hpv
  refine ⟨A5, _, c5, rfl, CB4.of hgv, CB4.of ?_, CB4.of ?_, ⟨_, cell_of_row _ _ 4 _ _ _ hpv⟩, ⟨_, cell_of_row _ _ 5 _ _ _ hpv⟩, ⟨frozen_of_row _ _ 4 _ _ hpv, frozen_of_row _ _ 5 _ _ hpv⟩, Lib.hid ⟨_, _, rs', _, hx, hio.dat, fun q hm => ?_, hb, hk⟩⟩
  · rw [Below.heap_setCell _ _ _ _ hg.2.1]; exact hgv
  · rw [Below.heap_setCell _ _ _ _ hg.2.1, Below.heap_setCell _ _ _ _ hg.2.1]; exact hgv
  · rcases List.mem_append.1 hm with hm | hm
    · exact ⟨hk _ (hcos q hm).key, hk _ (hcos q hm).row⟩
    · rw [List.mem_singleton.1 hm]
      exact ⟨hk _ hco.key, hk _ hco.row⟩
end
end Go.Proofs.YtefifkleamiabaaGreatDoor
