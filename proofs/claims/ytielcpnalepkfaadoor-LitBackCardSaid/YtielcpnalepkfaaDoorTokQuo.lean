import Derived.Test.YtielcpnalepkfaaDoorTokWhile
namespace Go.Proofs.YtielcpnalepkfaaDoor
open Go.RowKit Go.Lib Go.BigFrame
/-- What 'quoted' keeps: place pos in the text behind the quote, whether a stroke stands ahead. -/
structure QuRel (b : Nat) (q : UInt8) (r : List UInt8) (p : Option Nat) (w wr : World) (pos : Nat) (sl : Bool) : Prop where
  le : pos ≤ r.length
  hit : wr.heap[b]? = some (.stringIter ⟨r.toArray⟩ pos)
  hx : Ext none' w wr
  hf : p = (quo q sl (r.drop pos)).map (· + pos)
/-- The bytes behind the first one in a sign are none below 128. -/
theorem decodeN_high (n b0 b1 b2 b3 : Nat) : ((decodeN n b0 b1 b2 b3).2 = 1) ∨ ((decodeN n b0 b1 b2 b3).2 = 2 ∧ 128 ≤ b0 ∧ 128 ≤ b1 ∧ 1 < n) ∨ ((decodeN n b0 b1 b2 b3).2 = 3 ∧ 128 ≤ b0 ∧ 128 ≤ b1 ∧ 128 ≤ b2 ∧ 2 < n) ∨ ((decodeN n b0 b1 b2 b3).2 = 4 ∧ 128 ≤ b0 ∧ 128 ≤ b1 ∧ 128 ≤ b2 ∧ 128 ≤ b3 ∧ 3 < n) := by
  obtain ⟨d, hd⟩ : ∃ d, decodeN n b0 b1 b2 b3 = d := ⟨_, rfl⟩
  rw [hd]
  unfold decodeN at hd
  repeat' split at hd
  all_goals subst hd
  all_goals dsimp only
  all_goals omega
/-- Bytes that are no ASCII are passed over, one by one or together. -/
theorem quo_high (q : UInt8) (hq : q = 34 ∨ q = 96) (c : UInt8) (t : List UInt8) (sl : Bool) (h : 128 ≤ c.toNat) : quo q sl (c :: t) = (quo q false t).map (· + 1) := by
  have h1 : c ≠ 10 := by rintro rfl; revert h; decide
  have h2 : c ≠ 92 := by rintro rfl; revert h; decide
  have h3 : c ≠ q := by rintro rfl; rcases hq with rfl | rfl <;> revert h <;> decide
  cases sl <;> simp [quo, h1, h2, h3]
theorem map_map_add {o : Option Nat} {a b : Nat} : (o.map (· + a)).map (· + b) = o.map (· + (a + b)) := by
  cases o <;> simp [Nat.add_assoc]
theorem quo_run (q : UInt8) (hq : q = 34 ∨ q = 96) : ∀ (m : Nat) (r : List UInt8) (sl : Bool), 1 ≤ m → m ≤ r.length → (∀ j, j < m → 128 ≤ (r.getD j 0).toNat) → quo q sl r = (quo q false (r.drop m)).map (· + m)
  | 0, _, _, h, _, _ => by omega
  | m + 1, [], _, _, h, _ => by simp at h
  | m + 1, c :: t, sl, _, hl, hh => by
    rw [quo_high q hq c t sl (by simpa using hh 0 (by omega))]
    by_cases hm : m = 0
    · subst hm; rfl
    · rw [quo_run q hq m t false (by omega) (by simpa using hl) (fun j hj => by simpa using hh (j + 1) (by omega)), map_map_add]
      rfl
theorem decodeL_run (r : List UInt8) (hc : 128 ≤ (r.getD 0 0).toNat) : ∀ j, j < (decodeL r).2 → 128 ≤ (r.getD j 0).toNat := by
  intro j hj
  rw [decodeL_N] at hj
  rcases decodeN_high r.length (r.getD 0 0).toNat (r.getD 1 0).toNat (r.getD 2 0).toNat (r.getD 3 0).toNat with h1 | ⟨h1, h2⟩ | ⟨h1, h2⟩ | ⟨h1, h2⟩
  all_goals rw [h1] at hj
  · have : j = 0 := by omega
    subst this; exact hc
  · have : j = 0 ∨ j = 1 := by omega
    rcases this with rfl | rfl <;> omega
  · have : j = 0 ∨ j = 1 ∨ j = 2 := by omega
    rcases this with rfl | rfl | rfl <;> omega
  · have : j = 0 ∨ j = 1 ∨ j = 2 ∨ j = 3 := by omega
    rcases this with rfl | rfl | rfl | rfl <;> omega
/-- A sign at a time is a byte at a time. -/
theorem quo_rune (q : UInt8) (hq : q = 34 ∨ q = 96) (r : List UInt8) (h : r ≠ []) (sl : Bool) (hc : 128 ≤ (r.getD 0 0).toNat) : quo q sl r = (quo q false (r.drop (decodeL r).2)).map (· + (decodeL r).2) :=
  quo_run q hq _ r sl (dw1 r) (dwle r h) (decodeL_run r hc)
theorem decodeL_low (c : UInt8) (t : List UInt8) (h : c.toNat < 128) : decodeL (c :: t) = (c.toNat, 1) := by rw [decodeL_N]; exact decodeN_low _ _ _ _ _ h
theorem decodeL_ge (c : UInt8) (t : List UInt8) (h : 128 ≤ c.toNat) : 128 ≤ (decodeL (c :: t)).1 := by rw [decodeL_N]; exact decodeN_ge _ _ _ _ _ h
theorem toNat_eq (c : UInt8) (k : UInt8) : c = k ↔ c.toNat = k.toNat := ⟨fun h => by rw [h], fun h => UInt8.toNat_inj.1 h⟩
/-- One sign of a text that is quoted. -/
theorem quo_true (q : UInt8) (hq : q = 34 ∨ q = 96) (r : List UInt8) (h : r ≠ []) : quo q true r = if (decodeL r).1 = 10 then none else (quo q false (r.drop (decodeL r).2)).map (· + (decodeL r).2) := by
  cases r with
  | nil => exact absurd rfl h
  | cons c t =>
    by_cases hc : c.toNat < 128
    · rw [decodeL_low c t hc]
      simp only [quo, toNat_eq]
      rfl
    · have g := decodeL_ge c t (by omega)
      rw [if_neg (by omega)]
      exact quo_rune q hq (c :: t) h true (by simpa using (show 128 ≤ c.toNat by omega))
theorem quo_false (q : UInt8) (hq : q = 34 ∨ q = 96) (r : List UInt8) (h : r ≠ []) : quo q false r = if (decodeL r).1 = 92 ∧ q = 34 then (quo q true (r.drop (decodeL r).2)).map (· + (decodeL r).2)
    else if (decodeL r).1 = q.toNat then some 1 else if (decodeL r).1 = 10 ∧ q ≠ 96 then none else (quo q false (r.drop (decodeL r).2)).map (· + (decodeL r).2) := by
  cases r with
  | nil => exact absurd rfl h
  | cons c t =>
    by_cases hc : c.toNat < 128
    · rw [decodeL_low c t hc]
      have e1 : (c = 92) = (c.toNat = 92) := propext (toNat_eq c 92)
      have e2 : (c = q) = (c.toNat = q.toNat) := propext (toNat_eq c q)
      have e3 : (c = 10) = (c.toNat = 10) := propext (toNat_eq c 10)
      simp only [quo, e1, e2, e3]
      rfl
    · have g := decodeL_ge c t (by omega)
      have g2 : q.toNat < 128 := by rcases hq with rfl | rfl <;> decide
      rw [if_neg (by omega), if_neg (by omega), if_neg (by omega)]
      exact quo_rune q hq (c :: t) h false (by simpa using (show 128 ≤ c.toNat by omega))
end Go.Proofs.YtielcpnalepkfaaDoor
