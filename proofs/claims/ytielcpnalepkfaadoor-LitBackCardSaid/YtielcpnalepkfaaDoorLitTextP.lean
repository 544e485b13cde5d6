/-
  Layer 3 (lit), plain: texts. No Go in sight.
-/
import Derived.Test.YtielcpnalepkfaaDoorLitNumP
import Derived.Test.YtielcpnalepkfaaDoorLitSingle
import Derived.Lib.Replace
namespace Go.Proofs.YtielcpnalepkfaaDoor
open Go.Lib
def valL (r : Nat) : Nat → List UInt8 → Option Nat
  | v, [] => some v
  | v, c :: t => match digN c.toNat with
    | none => none
    | some d => if r ≤ d then none else valL r (v * r + d) t
def digitsP (r n : Nat) (s : List UInt8) : Option Nat := if n ≤ s.length then valL r 0 (s.take n) else none
def runeB (v : Nat) : List UInt8 :=
  if v < 128 then [UInt8.ofNat v] else if v < 2048 then [UInt8.ofNat (192 + v / 64), UInt8.ofNat (128 + v % 64)]
  else if v < 65536 then [UInt8.ofNat (224 + v / 4096), UInt8.ofNat (128 + v / 64 % 64), UInt8.ofNat (128 + v % 64)]
  else [UInt8.ofNat (240 + v / 262144), UInt8.ofNat (128 + v / 4096 % 64), UInt8.ofNat (128 + v / 64 % 64), UInt8.ofNat (128 + v % 64)]
theorem runeB_eq {v : Nat} (h : Lib.validRune (v : Int) = true) : (⟨(runeB v).toArray⟩ : ByteArray) = Utf8.encode (v : Nat) := by
  have hv : Utf8.valid ((v : Nat) : Int) = true := by
    unfold Lib.validRune at h
    unfold Utf8.valid
    simp at h ⊢
    omega
  unfold Utf8.encode runeB
  simp only [hv, if_true, Int.toNat_natCast]
  split
  · rfl
  · split
    · rfl
    · split <;> rfl
def partP : List UInt8 → Option (List UInt8 × Nat)
  | [] => none
  | c :: t => match singleP c.toNat with
    | some d => some ([UInt8.ofNat d], 1)
    | none =>
      if c = 120 then (digitsP 16 2 t).map fun v => ([UInt8.ofNat v], 3)
      else if c = 117 ∨ c = 85 then (match digitsP 16 (if c = 85 then 8 else 4) t with
        | none => none
        | some v => if Lib.validRune v = true then some (runeB v, (if c = 85 then 8 else 4) + 1) else none)
      else match digitsP 8 3 (c :: t) with
        | none => none
        | some v => if v ≤ 255 then some ([UInt8.ofNat v], 3) else none
theorem partP_cons (c : UInt8) (t : List UInt8) : partP (c :: t) = (match singleP c.toNat with
    | some d => some ([UInt8.ofNat d], 1)
    | none =>
      if c = 120 then (digitsP 16 2 t).map fun v => ([UInt8.ofNat v], 3)
      else if c = 117 ∨ c = 85 then (match digitsP 16 (if c = 85 then 8 else 4) t with
        | none => none
        | some v => if Lib.validRune v = true then some (runeB v, (if c = 85 then 8 else 4) + 1) else none)
      else match digitsP 8 3 (c :: t) with
        | none => none
        | some v => if v ≤ 255 then some ([UInt8.ofNat v], 3) else none) := rfl
def unqP : Nat → List UInt8 → Option (List UInt8)
  | 0, _ => some []
  | _ + 1, [] => some []
  | f + 1, c :: t => if c = 92 then (match partP t with
      | none => none
      | some (o, n) => (unqP f (t.drop n)).map (o ++ ·))
    else if c = 34 ∨ c = 10 then none else (unqP f t).map (c :: ·)
def innerP (s : List UInt8) : List UInt8 := (s.drop 1).take (s.length - 2)
def textP (s : List UInt8) : List UInt8 × Nat :=
  if 65536 < s.length then ([], 12)
  else if 2 ≤ s.length ∧ s.head? = s.getLast? ∧ wrongP s < 0 then
    (if s.head? = some 34 then (match unqP (innerP s).length (innerP s) with
      | none => ([], 4)
      | some o => (o, 0))
    else if s.head? = some 96 then (if 96 ∈ innerP s then ([], 4) else ((innerP s).filter (· != 13), 0))
    else ([], 4))
  else ([], 4)
theorem valL_lt (r : Nat) (hr : r ≤ 16) : ∀ (s : List UInt8) (v x k : Nat), v < 16 ^ k → valL r v s = some x → x < 16 ^ (k + s.length)
  | [], v, x, k, hv, h => by
    injection h with h
    subst h; simpa using hv
  | c :: t, v, x, k, hv, h => by
    unfold valL at h
    split at h
    · cases h
    · rename_i d hd
      split at h
      · cases h
      · have h1 : v * r + d < 16 ^ (k + 1) := by
          have hd15 := (digN_le hd).1
          have : v * r ≤ v * 16 := Nat.mul_le_mul_left _ hr
          rw [Nat.pow_succ]; omega
        have := valL_lt r hr t _ x (k + 1) h1 h
        rw [List.length_cons, show k + (t.length + 1) = k + 1 + t.length by omega]; exact this
theorem digitsP_lt {r n : Nat} {s : List UInt8} {v : Nat} (hr : r ≤ 16) (h : digitsP r n s = some v) : v < 16 ^ n ∧ n ≤ s.length := by
  unfold digitsP at h
  split at h
  · rename_i hn
    have := valL_lt r hr _ 0 v 0 (by simp) h
    rw [List.length_take, Nat.zero_add, Nat.min_eq_left hn] at this
    exact ⟨this, hn⟩
  · cases h
theorem valL8 : ∀ (s : List UInt8) (v x k : Nat), v < 8 ^ k → valL 8 v s = some x → x < 8 ^ (k + s.length)
  | [], v, x, k, hv, h => by
    injection h with h
    subst h; simpa using hv
  | c :: t, v, x, k, hv, h => by
    unfold valL at h
    split at h
    · cases h
    · split at h
      · cases h
      · have h1 : ∀ d, d < 8 → v * 8 + d < 8 ^ (k + 1) := fun d hd => by rw [Nat.pow_succ]; omega
        have := valL8 t _ x (k + 1) (h1 _ (by omega)) h
        rw [List.length_cons, show k + (t.length + 1) = k + 1 + t.length by omega]; exact this
theorem partP_le {s : List UInt8} {o : List UInt8} {n : Nat} (h : partP s = some (o, n)) : 1 ≤ n ∧ n ≤ s.length := by
  cases s with
  | nil => cases h
  | cons c t =>
    rw [partP_cons] at h
    split at h
    · simp at h; rw [← h.2]; simp
    · split at h
      · cases hd : digitsP 16 2 t with
        | none => rw [hd] at h; cases h
        | some v =>
          rw [hd] at h
          have := (digitsP_lt (by omega) hd).2
          simp at h; rw [← h.2]; simp; omega
      · split at h
        · split at h
          · cases h
          · rename_i v hd
            have := (digitsP_lt (by omega) hd).2
            split at h
            · simp at h; rw [← h.2]; simp; omega
            · cases h
        · split at h
          · cases h
          · rename_i v hd
            have := (digitsP_lt (by omega) hd).2
            split at h
            · simp at h; rw [← h.2]; simp at this ⊢; omega
            · cases h
theorem unqP_fuel : ∀ (f g : Nat) (s : List UInt8), s.length ≤ f → s.length ≤ g → unqP f s = unqP g s
  | 0, g, s, h, _ => by
    have : s = [] := List.eq_nil_of_length_eq_zero (by omega)
    subst this; cases g <;> rfl
  | f + 1, 0, s, _, h => by
    have : s = [] := List.eq_nil_of_length_eq_zero (by omega)
    subst this; rfl
  | f + 1, g + 1, [], _, _ => rfl
  | f + 1, g + 1, c :: t, hf, hg => by
    simp only [List.length_cons] at hf hg
    unfold unqP
    split
    · cases hp : partP t with
      | none => rfl
      | some x =>
        obtain ⟨o, n⟩ := x
        simp only
        rw [unqP_fuel f g (t.drop n) (by rw [List.length_drop]; omega) (by rw [List.length_drop]; omega)]
    · split
      · rfl
      · rw [unqP_fuel f g t (by omega) (by omega)]
def unq (s : List UInt8) : Option (List UInt8) := unqP s.length s
theorem unq_nil : unq [] = some [] := rfl
theorem unq_cons (c : UInt8) (t : List UInt8) : unq (c :: t) = if c = 92 then (match partP t with
      | none => none
      | some (o, n) => (unq (t.drop n)).map (o ++ ·))
    else if c = 34 ∨ c = 10 then none else (unq t).map (c :: ·) := by
  unfold unq
  rw [List.length_cons]
  conv => lhs; unfold unqP
  split
  · cases hp : partP t with
    | none => rfl
    | some x =>
      obtain ⟨o, n⟩ := x
      simp only
      rw [unqP_fuel t.length (t.drop n).length (t.drop n) (by rw [List.length_drop]; omega) (Nat.le_refl _)]
  · rfl
end Go.Proofs.YtielcpnalepkfaaDoor
