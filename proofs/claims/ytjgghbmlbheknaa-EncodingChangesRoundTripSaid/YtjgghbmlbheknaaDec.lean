/-
  The decoder of rows as plain functions on lists of bytes; it inverts the encoder. No program in sight.
-/
import Derived.Test.YtjgghbmlbheknaaEnc
namespace Go.Proofs.Ytjgghbmlbheknaa

/-- What the decoder holds: the input that is left, and whether it has failed. -/
abbrev St := List UInt8 × Bool

def dByte : St → UInt8 × St
  | ([], _) => (0, ([], true))
  | (c :: r, f) => (c, (r, f))
def dStr (n : Nat) (s : St) : List UInt8 × St := if s.1.length < n then ([], (s.1, true)) else (s.1.take n, (s.1.drop n, s.2))

/-- One step of the varint: what is added to n. -/
def uvAdd (n : Nat) (c : UInt8) (i : Nat) : Nat := n ||| ((c.toNat % 128) * 2 ^ (7 * i)) % 18446744073709551616
/-- The varint from its group number i on, so many rounds being left. -/
def dUv : Nat → Nat → Nat → St → Nat × St
  | 0, _, _, s => (0, (s.1, true))
  | f + 1, i, n, s => if (dByte s).1.toNat < 128 then (uvAdd n (dByte s).1 i, (dByte s).2) else dUv f (i + 1) (uvAdd n (dByte s).1 i) (dByte s).2
def unzig (u : Nat) : Int := if u % 2 = 0 then (u / 2 : Nat) else -((u / 2 : Nat) : Int) - 1

/-- One value. -/
def dVal (s : St) : Val × St :=
  let k := (dByte s).1
  let s1 := (dByte s).2
  if k = 1 then (⟨1, unzig (dUv 10 0 0 s1).1, ByteArray.empty⟩, (dUv 10 0 0 s1).2)
  else if k = 2 then (⟨2, ((dByte s1).1.toNat : Int), ByteArray.empty⟩, (dByte s1).2)
  else if k = 3 then (⟨3, 0, ⟨(dStr (dByte s1).1.toNat (dByte s1).2).1.toArray⟩⟩, (dStr (dByte s1).1.toNat (dByte s1).2).2)
  else (⟨(k.toNat : Int), 0, ByteArray.empty⟩, s1)
def dVals : Nat → St → List Val × St
  | 0, s => ([], s)
  | n + 1, s => if s.2 = true then ([], s) else ((dVal s).1 :: (dVals n (dVal s).2).1, (dVals n (dVal s).2).2)
def dRow (s : St) : List Val × St := dVals (dByte s).1.toNat (dByte s).2

theorem uvAdd_val {n : Nat} {c : UInt8} {i : Nat} (hn : n < 2 ^ (7 * i)) (hc : (c.toNat % 128) * 2 ^ (7 * i) < 18446744073709551616) : uvAdd n c i = n + (c.toNat % 128) * 2 ^ (7 * i) := by
  unfold uvAdd
  rw [Nat.mod_eq_of_lt hc, Nat.or_comm, ← Nat.shiftLeft_eq, ← Nat.shiftLeft_add_eq_or_of_lt hn, Nat.add_comm]

theorem ofNat_toNat {k : Nat} (h : k < 256) : (UInt8.ofNat k).toNat = k := by
  rw [UInt8.toNat_ofNat']
  exact Nat.mod_eq_of_lt h

theorem dUv_enc (f : Nat) : ∀ (i n m : Nat) (rest : List UInt8) (b : Bool), n < 2 ^ (7 * i) → n + m * 2 ^ (7 * i) < 18446744073709551616 → m < 128 ^ (f + 1) →
    dUv (f + 1) i n (encU m ++ rest, b) = (n + m * 2 ^ (7 * i), (rest, b)) := by
  induction f with
  | zero =>
    intro i n m rest b hn hm hf
    have hlo : m < 128 := by simpa using hf
    rw [encU_lo hlo]
    have hb : (dByte ([UInt8.ofNat m] ++ rest, b)) = (UInt8.ofNat m, (rest, b)) := rfl
    have ht : (UInt8.ofNat m).toNat = m := ofNat_toNat (by omega)
    have hmod : m % 128 = m := Nat.mod_eq_of_lt hlo
    rw [dUv, hb, if_pos (by show (UInt8.ofNat m).toNat < 128; omega)]
    rw [uvAdd_val hn (by rw [ht, hmod]; omega), ht, hmod]
  | succ f ih =>
    intro i n m rest b hn hm hf
    by_cases hlo : m < 128
    · rw [encU_lo hlo]
      have hb : (dByte ([UInt8.ofNat m] ++ rest, b)) = (UInt8.ofNat m, (rest, b)) := rfl
      have ht : (UInt8.ofNat m).toNat = m := ofNat_toNat (by omega)
      have hmod : m % 128 = m := Nat.mod_eq_of_lt hlo
      rw [dUv, hb, if_pos (by show (UInt8.ofNat m).toNat < 128; omega)]
      rw [uvAdd_val hn (by rw [ht, hmod]; omega), ht, hmod]
    · rw [encU_hi (by omega)]
      have hb : (dByte (UInt8.ofNat (m % 128 + 128) :: encU (m / 128) ++ rest, b)) = (UInt8.ofNat (m % 128 + 128), (encU (m / 128) ++ rest, b)) := rfl
      have ht : (UInt8.ofNat (m % 128 + 128)).toNat = m % 128 + 128 := ofNat_toNat (by omega)
      have hmod : (m % 128 + 128) % 128 = m % 128 := by omega
      have hP : 0 < 2 ^ (7 * i) := Nat.two_pow_pos _
      have hle : m % 128 * 2 ^ (7 * i) ≤ m * 2 ^ (7 * i) := Nat.mul_le_mul_right _ (Nat.mod_le _ _)
      have hpow : 2 ^ (7 * (i + 1)) = 128 * 2 ^ (7 * i) := by rw [Nat.mul_add, Nat.pow_add]; omega
      have hsum : n + m % 128 * 2 ^ (7 * i) + m / 128 * 2 ^ (7 * (i + 1)) = n + m * 2 ^ (7 * i) := by
        rw [hpow, ← Nat.mul_assoc, Nat.add_assoc, ← Nat.add_mul]
        congr 2
        omega
      rw [dUv, hb, if_neg (by show ¬ (UInt8.ofNat (m % 128 + 128)).toNat < 128; omega)]
      rw [uvAdd_val hn (by rw [ht, hmod]; omega), ht, hmod]
      have hlt : n + m % 128 * 2 ^ (7 * i) < 2 ^ (7 * (i + 1)) := by
        rw [hpow]
        have : m % 128 * 2 ^ (7 * i) ≤ 127 * 2 ^ (7 * i) := Nat.mul_le_mul_right _ (by omega)
        omega
      rw [ih (i + 1) _ (m / 128) rest b hlt (by omega) (by rw [Nat.pow_succ] at hf; omega), hsum]

theorem dUv_enc10 {m : Nat} (h : IsU64 m) (rest : List UInt8) (b : Bool) : dUv 10 0 0 (encU m ++ rest, b) = (m, (rest, b)) := by
  unfold IsU64 at h
  have := dUv_enc 9 0 0 m rest b (by simp) (by simpa using h) (by omega)
  simpa using this

theorem unzig_zig (i : Int) : unzig (zig i) = i := by
  unfold unzig zig
  by_cases h : 0 ≤ i
  · rw [if_pos h, if_pos (by omega)]; omega
  · rw [if_neg h, if_neg (by omega)]; omega

theorem bytes_empty {s : ByteArray} (h : s.toList.isEmpty = true) : s = ByteArray.empty := by
  rw [ByteArray.toList_eq] at h
  obtain ⟨⟨x⟩⟩ := s
  simp at h
  subst h
  rfl

theorem dVal_enc {v : Val} (h : v.err = 0) (rest : List UInt8) (b : Bool) : dVal (encV v ++ rest, b) = (v, (rest, b)) := by
  obtain ⟨k, n, s⟩ := v
  rcases valid_cases h with ⟨h1, h2, h3⟩ | ⟨h1, h2, h3, h4⟩ | ⟨h1, h2, h3⟩ | ⟨h1, h2, h3⟩
  · simp only at h1 h2 h3
    subst h1; subst h2
    have := bytes_empty h3
    subst this
    rfl
  · simp only at h1 h2 h3 h4
    subst h1
    have := bytes_empty h4
    subst this
    have hd := dUv_enc10 (zig_u64 h2 h3) rest b
    show dVal (1 :: (encU (zig n) ++ rest), b) = _
    simp only [dVal, dByte, if_true, hd, unzig_zig]
  · simp only at h1 h2 h3
    subst h1
    have := bytes_empty h3
    subst this
    rcases h2 with rfl | rfl <;> rfl
  · simp only at h1 h2 h3
    subst h1; subst h2
    have ht : (UInt8.ofNat s.size).toNat = s.size := ofNat_toNat (by omega)
    have hl : s.data.toList.length = s.size := rfl
    have hs : dStr s.size (s.data.toList ++ rest, b) = (s.data.toList, (rest, b)) := by
      unfold dStr
      rw [if_neg (by simp only [List.length_append]; omega)]
      simp only [← hl, List.take_left, List.drop_left]
    show dVal (3 :: UInt8.ofNat s.size :: (s.data.toList ++ rest), b) = _
    have e1 : (3 : UInt8) ≠ 1 := by decide
    have e2 : (3 : UInt8) ≠ 2 := by decide
    simp only [dVal, dByte, if_neg e1, if_neg e2, if_true, ht, hs]

theorem dVals_enc : ∀ (r : List Val) (rest : List UInt8), (∀ v ∈ r, v.err = 0) → dVals r.length (r.flatMap encV ++ rest, false) = (r, (rest, false))
  | [], rest, _ => rfl
  | v :: r, rest, h => by
    rw [List.flatMap_cons, List.append_assoc, List.length_cons, dVals, if_neg (by simp), dVal_enc (h v (by simp))]
    rw [dVals_enc r rest fun x hx => h x (by simp [hx])]

theorem dRow_enc {r : List Val} (h : rErr r = 0) (rest : List UInt8) : dRow (encR r ++ rest, false) = (r, (rest, false)) := by
  obtain ⟨h1, h2⟩ := rErr_zero h
  have ht : (UInt8.ofNat r.length).toNat = r.length := ofNat_toNat (by omega)
  unfold dRow encR
  simp only [List.cons_append, dByte, ht]
  exact dVals_enc r rest h2

theorem encR_inj {a b : List Val} (ha : rErr a = 0) (hb : rErr b = 0) (h : encR a = encR b) : a = b := by
  have h1 := dRow_enc ha []
  rw [h, dRow_enc hb []] at h1
  exact (Prod.mk.inj h1).1.symm

/-- No valid row's encoding begins another's. -/
theorem encR_prefix {a b : List Val} (ha : rErr a = 0) (hb : rErr b = 0) {rest : List UInt8} (h : encR a ++ rest = encR b) : rest = [] := by
  have h1 := dRow_enc ha rest
  have h2 := dRow_enc hb []
  rw [List.append_nil, ← h, h1] at h2
  exact (Prod.mk.inj (Prod.mk.inj h2).2).1

end Go.Proofs.Ytjgghbmlbheknaa
