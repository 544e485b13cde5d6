/-
  Layer 2 (token), plain: the scanner, byte by byte. No Go in sight.
-/
import Derived.Test.YtielcpnalepkfaaDoorPlacePlain
namespace Go.Proofs.YtielcpnalepkfaaDoor
open Go.Lib

def letterB (c : Nat) : Bool := c == 95 || (decide (97 ≤ c) && decide (c ≤ 122)) || (decide (65 ≤ c) && decide (c ≤ 90))
def figB (c : Nat) : Bool := decide (48 ≤ c) && decide (c ≤ 57)
def idB (c : UInt8) : Bool := letterB c.toNat || figB c.toNat
def words1 : List (List UInt8) := [[98, 114, 101, 97, 107], [99, 111, 110, 116, 105, 110, 117, 101], [101, 108, 115, 101], [102, 111, 114], [102, 117, 110, 99], [105, 102], [105, 109, 112, 111, 114, 116], [105, 110, 116, 101, 114, 102, 97, 99, 101], [112, 97, 99, 107, 97, 103, 101], [114, 97, 110, 103, 101], [114, 101, 116, 117, 114, 110], [115, 116, 114, 117, 99, 116], [116, 121, 112, 101], [118, 97, 114]]
def words2 : List (List UInt8) := [[99, 97, 115, 101], [99, 104, 97, 110], [99, 111, 110, 115, 116], [100, 101, 102, 97, 117, 108, 116], [100, 101, 102, 101, 114], [102, 97, 108, 108, 116, 104, 114, 111, 117, 103, 104], [103, 111], [103, 111, 116, 111], [109, 97, 112], [115, 101, 108, 101, 99, 116], [115, 119, 105, 116, 99, 104]]
def signs3 : List (List UInt8) := [[60, 60, 61], [62, 62, 61], [38, 94, 61], [46, 46, 46]]
def signs2 : List (List UInt8) := [[38, 38], [124, 124], [61, 61], [33, 61], [60, 61], [62, 61], [58, 61], [43, 43], [45, 45], [43, 61], [45, 61], [42, 61], [47, 61], [37, 61], [38, 61], [124, 61], [94, 61], [60, 60], [62, 62], [38, 94], [60, 45]]
def signs1 : List (List UInt8) := [[43], [45], [42], [47], [37], [38], [124], [94], [60], [62], [61], [33], [40], [41], [91], [93], [123], [125], [44], [59], [46], [58], [126]]
def wordK (s : List UInt8) : Nat := if s ∈ words1 then 1 else if s ∈ words2 then 2 else 0
def nameB (s : List UInt8) : Bool := match s with
  | [] => false
  | c :: _ => !figB c.toNat && wordK s == 0 && s.all idB
/-- A token: its kind, its text, where it begins. -/
structure Tok where
  kind : Nat
  text : List UInt8
  pos : Nat
  deriving DecidableEq
def keeps : List (List UInt8) := [[98, 114, 101, 97, 107], [99, 111, 110, 116, 105, 110, 117, 101], [114, 101, 116, 117, 114, 110], [102, 97, 108, 108, 116, 104, 114, 111, 117, 103, 104]]
def shuts : List (List UInt8) := [[43, 43], [45, 45], [41], [93], [125]]
/-- Does a line end behind it? -/
def endsT (t : Tok) : Bool :=
  if t.kind = 1 ∨ t.kind = 4 ∨ t.kind = 5 then true
  else if t.kind = 2 ∨ t.kind = 3 then decide (t.text ∈ keeps)
  else decide (t.text ∈ shuts)
def endsP (l : List Tok) : Bool := match l.getLast? with
  | none => false
  | some t => endsT t
def lineP (l : List Tok) (k : Nat) : List Tok := if endsP l then l ++ [⟨6, [10], k⟩] else l
/-- Where the first end of a long note stands. -/
def star : List UInt8 → Option Nat
  | [] => none
  | c :: t => if c = 42 ∧ t.head? = some 47 then some 0 else (star t).map (· + 1)
inductive NoteR where
  | none
  | bad
  | len (n : Nat)
def noteP (r : List UInt8) : NoteR :=
  if r.take 2 = [47, 47] then .len (r.takeWhile fun c => c != 10).length
  else if r.take 2 = [47, 42] then (match star (r.drop 2) with
    | some k => .len (k + 4)
    | .none => .bad)
  else .none
/-- How many bytes stand behind the quote that opens, the one that shuts with them; none: it does not shut. 'sl': a stroke stands ahead. -/
def quo (q : UInt8) : Bool → List UInt8 → Option Nat
  | _, [] => none
  | true, c :: t => if c = 10 then none else (quo q false t).map (· + 1)
  | false, c :: t => if c = 92 ∧ q = 34 then (quo q true t).map (· + 1) else if c = q then some 1 else if c = 10 ∧ q ≠ 96 then none else (quo q false t).map (· + 1)
def signP (r : List UInt8) : Nat :=
  if 3 ≤ r.length ∧ r.take 3 ∈ signs3 then 3 else if 2 ≤ r.length ∧ r.take 2 ∈ signs2 then 2 else if r.take 1 ∈ signs1 then 1 else 0
def idLen (r : List UInt8) : Nat := (r.takeWhile idB).length
/-- One step from place k on: where the next begins, the tokens, the notes; none: nothing begins there. -/
def stepP (s : List UInt8) (k : Nat) (l n : List Tok) : Option (Nat × List Tok × List Tok) :=
  let r := s.drop k
  match r.head? with
  | none => none
  | some c =>
    if k = 0 ∧ r.take 3 = [239, 187, 191] then some (3, l, n)
    else if c = 10 then some (k + 1, lineP l k, n)
    else if c = 32 ∨ c = 9 ∨ c = 13 then some (k + 1, l, n)
    else match noteP r with
      | .bad => none
      | .len m => some (k + m, (if 10 ∈ r.take m then lineP l k else l), n ++ [⟨0, r.take m, k⟩])
      | .none =>
        if letterB c.toNat then some (k + idLen r, l ++ [⟨1 + wordK (r.take (idLen r)), r.take (idLen r), k⟩], n)
        else if figB c.toNat then some (k + idLen r, l ++ [⟨4, r.take (idLen r), k⟩], n)
        else if c = 34 ∨ c = 96 then (match quo c false r.tail with
          | none => none
          | some m => some (k + 1 + m, l ++ [⟨5, r.take (m + 1), k⟩], n))
        else if signP r = 0 then none else some (k + signP r, l ++ [⟨6, r.take (signP r), k⟩], n)
/-- From place k on: the tokens and the notes; or where it goes wrong. -/
def runP (s : List UInt8) : Nat → Nat → List Tok → List Tok → Except Nat (List Tok × List Tok)
  | 0, _, l, n => .ok (lineP l s.length, n)
  | f + 1, k, l, n => if s.length ≤ k then .ok (lineP l s.length, n) else match stepP s k l n with
    | none => .error k
    | some (k', l', n') => runP s f k' l' n'

/-! ### small laws -/
theorem map_succ {o : Option Nat} {n k : Nat} (h : o.map (· + n) = some k) : ∃ j, o = some j ∧ k = j + n := by
  cases o with
  | none => cases h
  | some j => simp at h; exact ⟨j, rfl, h.symm⟩
theorem star_lt : ∀ (t : List UInt8) (k : Nat), star t = some k → k + 2 ≤ t.length
  | [], k, h => by simp [star] at h
  | c :: t, k, h => by
    unfold star at h
    split at h
    · rename_i e
      cases t with
      | nil => simp at e
      | cons d t => simp at h; subst h; simp
    · obtain ⟨j, hj, rfl⟩ := map_succ h
      have := star_lt t j hj
      rw [List.length_cons]; omega
theorem quo_le (q : UInt8) : ∀ (t : List UInt8) (sl : Bool) (k : Nat), quo q sl t = some k → 1 ≤ k ∧ k ≤ t.length
  | [], sl, k, h => by cases sl <;> simp [quo] at h
  | c :: t, sl, k, h => by
    have go : ∀ b, (quo q b t).map (· + 1) = some k → 1 ≤ k ∧ k ≤ (c :: t).length := fun b hb => by
      obtain ⟨j, hj, rfl⟩ := map_succ hb
      have := quo_le q t b j hj
      rw [List.length_cons]; omega
    cases sl with
    | true =>
      simp only [quo] at h
      split at h
      · cases h
      · exact go _ h
    | false =>
      simp only [quo] at h
      split at h
      · exact go _ h
      · split at h
        · simp at h; subst h; simp
        · split at h
          · cases h
          · exact go _ h
theorem takeWhile_le (p : UInt8 → Bool) (r : List UInt8) : (r.takeWhile p).length ≤ r.length := (List.takeWhile_sublist p).length_le
theorem noteP_le {r : List UInt8} {m : Nat} (h : noteP r = .len m) : 2 ≤ m ∧ m ≤ r.length := by
  unfold noteP at h
  split at h
  · rename_i e
    injection h with h
    subst h
    refine ⟨?_, takeWhile_le _ _⟩
    match r, e with
    | a :: b :: t, e =>
      simp at e
      obtain ⟨rfl, rfl⟩ := e
      simp [List.takeWhile]
  · split at h
    · split at h
      · rename_i k hk
        injection h with h
        subst h
        have := star_lt _ _ hk
        rw [List.length_drop] at this
        omega
      · cases h
    · cases h
theorem signP_le (r : List UInt8) : signP r ≤ r.length := by
  unfold signP
  split
  · omega
  · split
    · omega
    · split
      · rename_i h
        cases r with
        | nil => simp [signs1] at h
        | cons => simp
      · omega
theorem idLen_le (r : List UInt8) : idLen r ≤ r.length := takeWhile_le _ _
theorem idLen_pos {c : UInt8} {t : List UInt8} (h : idB c = true) : 1 ≤ idLen (c :: t) := by unfold idLen; simp [List.takeWhile, h]
/-- A step goes on, and stays in the text. -/
theorem stepP_le {s : List UInt8} {k : Nat} {l n l' n' : List Tok} {k' : Nat} (h : stepP s k l n = some (k', l', n')) : k < k' ∧ k' ≤ s.length := by
  unfold stepP at h
  simp only at h
  cases hr : s.drop k with
  | nil => rw [hr] at h; simp at h
  | cons c t =>
    have hl : t.length + 1 = s.length - k := by rw [← List.length_drop, hr]; rfl
    rw [hr] at h
    simp only [List.head?_cons] at h
    split at h
    · rename_i e
      simp at h
      obtain ⟨rfl, _, _⟩ := h
      have := congrArg List.length e.2
      rw [List.length_take] at this
      simp at this
      omega
    · split at h
      · simp at h; omega
      · split at h
        · simp at h; omega
        · split at h
          · cases h
          · rename_i m hm
            have := noteP_le hm
            simp at h this
            omega
          · split at h
            · rename_i hc
              have h1 := idLen_pos (c := c) (t := t) (by unfold idB; rw [hc]; rfl)
              have h2 := idLen_le (c :: t)
              simp at h h2
              omega
            · split at h
              · rename_i hc
                have h1 := idLen_pos (c := c) (t := t) (by unfold idB; rw [hc]; simp)
                have h2 := idLen_le (c :: t)
                simp at h h2
                omega
              · split at h
                · split at h
                  · cases h
                  · rename_i m hm
                    have := quo_le _ _ _ _ hm
                    simp at h this
                    omega
                · split at h
                  · cases h
                  · have := signP_le (c :: t)
                    simp at h this
                    omega
end Go.Proofs.YtielcpnalepkfaaDoor
