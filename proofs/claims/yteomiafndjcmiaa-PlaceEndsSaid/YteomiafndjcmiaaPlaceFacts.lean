/-
  Layer 1 (place), plain: what follows of places.
-/
import Derived.Test.YteomiafndjcmiaaPlacePlain
namespace Go.Proofs.Yteomiafndjcmiaa
open Go.Lib
theorem dropNe {s : List UInt8} {pos : Nat} (h : pos < s.length) : s.drop pos ≠ [] := by
  intro e
  have := congrArg List.length e
  rw [List.length_drop] at this
  simp at this
  omega
/-- decodeN's 10 is the byte 10, alone. -/
theorem decodeN_10 (n b0 b1 b2 b3 : Nat) : ((decodeN n b0 b1 b2 b3).1 = 10 ↔ b0 = 10) ∧ (b0 = 10 → (decodeN n b0 b1 b2 b3).2 = 1) := by
  by_cases h : b0 < 128
  · unfold decodeN; rw [if_pos h]; simp
  · have h1 : ¬ (decodeN n b0 b1 b2 b3).1 = 10 := by
      unfold decodeN
      repeat' split
      all_goals simp only <;> omega
    exact ⟨⟨fun e => absurd e h1, fun e => by omega⟩, fun e => by omega⟩
/-- The bytes behind the first one in a sign are none below 128. -/
theorem decodeN_high (n b0 b1 b2 b3 : Nat) : ((decodeN n b0 b1 b2 b3).2 = 1) ∨ ((decodeN n b0 b1 b2 b3).2 = 2 ∧ 128 ≤ b0 ∧ 128 ≤ b1 ∧ 1 < n) ∨ ((decodeN n b0 b1 b2 b3).2 = 3 ∧ 128 ≤ b0 ∧ 128 ≤ b1 ∧ 128 ≤ b2 ∧ 2 < n) ∨ ((decodeN n b0 b1 b2 b3).2 = 4 ∧ 128 ≤ b0 ∧ 128 ≤ b1 ∧ 128 ≤ b2 ∧ 128 ≤ b3 ∧ 3 < n) := by
  obtain ⟨d, hd⟩ : ∃ d, decodeN n b0 b1 b2 b3 = d := ⟨_, rfl⟩
  rw [hd]
  unfold decodeN at hd
  repeat' split at hd
  all_goals subst hd
  all_goals dsimp only
  all_goals omega
theorem ten_iff (c : UInt8) : c = 10 ↔ c.toNat = 10 := ⟨fun h => by subst h; rfl, fun h => by apply UInt8.toNat_inj.1; exact h⟩
theorem count_cons_low (c : UInt8) (t : List UInt8) : (c :: t).count 10 = (if c.toNat = 10 then 1 else 0) + t.count 10 := by
  rw [List.count_cons]
  by_cases h : c.toNat = 10
  · rw [if_pos h, if_pos (by simpa using (ten_iff c).2 h)]; omega
  · rw [if_neg h, if_neg (by intro e; exact h ((ten_iff c).1 (by simpa using e)))]; omega
theorem count_step (s : List UInt8) (h : s ≠ []) : s.count 10 = (if (decodeL s).1 = 10 then 1 else 0) + (s.drop (decodeL s).2).count 10 := by
  have d1 := decodeN_10 s.length (s.getD 0 0).toNat (s.getD 1 0).toNat (s.getD 2 0).toNat (s.getD 3 0).toNat
  have d2 := decodeN_high s.length (s.getD 0 0).toNat (s.getD 1 0).toNat (s.getD 2 0).toNat (s.getD 3 0).toNat
  rw [← decodeL_N] at d1 d2
  match s, h with
  | c0 :: t, _ =>
    simp only [List.getD_cons_zero] at d1 d2
    rcases d2 with e | ⟨e, h0, h1, hn⟩ | ⟨e, h0, h1, h2, hn⟩ | ⟨e, h0, h1, h2, h3, hn⟩
    · rw [e, count_cons_low]
      simp only [List.drop_succ_cons, List.drop_zero]
      by_cases h : c0.toNat = 10
      · rw [if_pos h, if_pos (d1.1.2 h)]
      · rw [if_neg h, if_neg (fun x => h (d1.1.1 x))]
    · rw [e, if_neg (fun x => by have := d1.1.1 x; omega)]
      match t, h1, hn with
      | c1 :: t, h1, _ =>
        simp only [List.getD_cons_succ, List.getD_cons_zero] at h1
        rw [count_cons_low, count_cons_low, if_neg (by omega), if_neg (by omega)]
        simp
      | [], _, hn => simp at hn
    · rw [e, if_neg (fun x => by have := d1.1.1 x; omega)]
      match t, h1, h2, hn with
      | c1 :: c2 :: t, h1, h2, _ =>
        simp only [List.getD_cons_succ, List.getD_cons_zero] at h1 h2
        rw [count_cons_low, count_cons_low, count_cons_low, if_neg (by omega), if_neg (by omega), if_neg (by omega)]
        simp
      | [c1], _, _, hn => simp at hn
      | [], _, _, hn => simp at hn
    · rw [e, if_neg (fun x => by have := d1.1.1 x; omega)]
      match t, h1, h2, h3, hn with
      | c1 :: c2 :: c3 :: t, h1, h2, h3, _ =>
        simp only [List.getD_cons_succ, List.getD_cons_zero] at h1 h2 h3
        rw [count_cons_low, count_cons_low, count_cons_low, count_cons_low, if_neg (by omega), if_neg (by omega), if_neg (by omega), if_neg (by omega)]
        simp
      | [c1, c2], _, _, _, hn => simp at hn
      | [c1], _, _, _, hn => simp at hn
      | [], _, _, _, hn => simp at hn
/-- The end is there, on the last line. -/
theorem rest_last : ∀ (n : Nat) (s : List UInt8), s.length ≤ n → ∀ (i : Nat) (l c : Int), 1 ≤ c → ∃ c', 1 ≤ c' ∧ (i + s.length, l + (s.count 10 : Nat), c') ∈ rest s i l c
  | n, s, hn, i, l, c, hc => by
    by_cases h : s = []
    · subst h; rw [rest_nil]; exact ⟨c, hc, by simp⟩
    · have h1 := dw1 s
      have h2 := dwle s h
      have hl : 0 < s.length := List.length_pos_iff.2 h
      match n, hn with
      | 0, hn => omega
      | n + 1, hn =>
        have e : (s.drop (decodeL s).2).length ≤ n := by rw [List.length_drop]; omega
        rw [rest_step s i l c h, count_step s h]
        by_cases h10 : (decodeL s).1 = 10
        · rw [if_pos h10, if_pos h10]
          obtain ⟨c', hc', hm⟩ := rest_last n _ e (i + (decodeL s).2) (l + 1) 1 (by omega)
          refine ⟨c', hc', List.mem_cons_of_mem _ ?_⟩
          rw [List.length_drop] at hm
          rw [show i + s.length = i + (decodeL s).2 + (s.length - (decodeL s).2) from by omega]
          rw [show l + ((1 + (s.drop (decodeL s).2).count 10 : Nat) : Int) = l + 1 + ((s.drop (decodeL s).2).count 10 : Nat) from by omega]
          exact hm
        · rw [if_neg h10, if_neg h10]
          obtain ⟨c', hc', hm⟩ := rest_last n _ e (i + (decodeL s).2) l (c + 1) (by omega)
          refine ⟨c', hc', List.mem_cons_of_mem _ ?_⟩
          rw [List.length_drop] at hm
          rw [show i + s.length = i + (decodeL s).2 + (s.length - (decodeL s).2) from by omega]
          rw [Nat.zero_add]
          exact hm
/-- Each place's line and column are within their bounds. -/
theorem rest_bounds : ∀ (n : Nat) (s : List UInt8), s.length ≤ n → ∀ (i : Nat) (l c : Int), 1 ≤ c → ∀ y ∈ rest s i l c, l ≤ y.2.1 ∧ 1 ≤ y.2.2 ∧ y.2.1 ≤ l + (s.count 10 : Nat) ∧ y.1 ≤ i + s.length
  | n, s, hn, i, l, c, hc, y, hy => by
    by_cases h : s = []
    · subst h; rw [rest_nil] at hy; simp at hy; subst hy; simp; omega
    · have h1 := dw1 s
      have h2 := dwle s h
      have hl : 0 < s.length := List.length_pos_iff.2 h
      match n, hn with
      | 0, hn => omega
      | n + 1, hn =>
        have e : (s.drop (decodeL s).2).length ≤ n := by rw [List.length_drop]; omega
        rw [rest_step s i l c h] at hy
        rw [count_step s h]
        rcases List.mem_cons.1 hy with rfl | hy
        · simp only; omega
        · by_cases h10 : (decodeL s).1 = 10
          · rw [if_pos h10] at hy ⊢
            have := rest_bounds n _ e _ _ _ (by omega) y hy
            rw [List.length_drop] at this
            omega
          · rw [if_neg h10] at hy ⊢
            have := rest_bounds n _ e _ _ _ (by omega) y hy
            rw [List.length_drop] at this
            omega
/-- In a row that rises: the first one from k on. -/
theorem find_first {l : List (Nat × Int × Int)} (hs : l.Pairwise blt) {y : Nat × Int × Int} (hy : y ∈ l) : l.find? (fun x => decide (y.1 ≤ x.1)) = some y := by
  induction l with
  | nil => cases hy
  | cons z t ih =>
    have hp := List.pairwise_cons.1 hs
    rcases List.mem_cons.1 hy with rfl | hy
    · rw [List.find?_cons_of_pos (by simp)]
    · rw [List.find?_cons_of_neg (by have := (hp.1 y hy).1; simp; omega)]
      exact ih hp.2 hy
theorem find_place {l : List (Nat × Int × Int)} (hs : l.Pairwise blt) {y : Nat × Int × Int} (hy : y ∈ l) : l.find? (fun x => decide (x.2 = y.2)) = some y := by
  induction l with
  | nil => cases hy
  | cons z t ih =>
    have hp := List.pairwise_cons.1 hs
    rcases List.mem_cons.1 hy with rfl | hy
    · rw [List.find?_cons_of_pos (by simp)]
    · rw [List.find?_cons_of_neg (by
        have := (hp.1 y hy).2
        simp only [decide_eq_true_eq]
        intro e
        rw [e] at this
        exact plt_irrefl _ this)]
      exact ih hp.2 hy
theorem find_rises {l : List (Nat × Int × Int)} (hs : l.Pairwise blt) {j k : Nat} (hjk : j ≤ k) {y z : Nat × Int × Int} (hy : l.find? (fun x => decide (j ≤ x.1)) = some y) (hz : l.find? (fun x => decide (k ≤ x.1)) = some z) : y = z ∨ plt y.2 z.2 := by
  induction l with
  | nil => cases hy
  | cons a t ih =>
    have hp := List.pairwise_cons.1 hs
    by_cases h1 : j ≤ a.1
    · rw [List.find?_cons_of_pos (by simpa using h1)] at hy
      obtain rfl : a = y := by simpa using hy
      by_cases h2 : k ≤ a.1
      · rw [List.find?_cons_of_pos (by simpa using h2)] at hz
        exact .inl (by simpa using hz)
      · rw [List.find?_cons_of_neg (by simpa using h2)] at hz
        exact .inr (hp.1 z (List.mem_of_find?_eq_some hz)).2
    · rw [List.find?_cons_of_neg (by simpa using h1)] at hy
      rw [List.find?_cons_of_neg (by simp; omega)] at hz
      exact ih hp.2 hy hz
theorem bnds_end (s : List UInt8) : ∃ c', 1 ≤ c' ∧ (s.length, 1 + ((s.count 10 : Nat) : Int), c') ∈ bnds s := by
  have := rest_last s.length s (Nat.le_refl _) 0 1 1 (by omega)
  rwa [Nat.zero_add] at this
theorem bnds_bounds (s : List UInt8) (y : Nat × Int × Int) (hy : y ∈ bnds s) : 1 ≤ y.2.1 ∧ 1 ≤ y.2.2 ∧ y.2.1 ≤ 1 + ((s.count 10 : Nat) : Int) ∧ y.1 ≤ s.length := by
  have := rest_bounds s.length s (Nat.le_refl _) 0 1 1 (by omega) y hy
  omega
theorem ofP_some (s : List UInt8) (k : Nat) (hk : k ≤ s.length) : ∃ y ∈ bnds s, (bnds s).find? (fun x => decide (k ≤ x.1)) = some y ∧ ofP s k = y.2 ∧ k ≤ y.1 := by
  obtain ⟨c', _, hm⟩ := bnds_end s
  cases hf : (bnds s).find? (fun x => decide (k ≤ x.1)) with
  | none => exact absurd (List.find?_eq_none.1 hf _ hm) (by simpa using hk)
  | some y => exact ⟨y, List.mem_of_find?_eq_some hf, rfl, by unfold ofP; rw [hf]; rfl, by simpa using List.find?_some hf⟩
theorem ofP_mem (s : List UInt8) (y : Nat × Int × Int) (hy : y ∈ bnds s) : ofP s y.1 = y.2 := by unfold ofP; rw [find_first (bnds_sorted s) hy]; rfl
theorem atP_mem (s : List UInt8) (y : Nat × Int × Int) (hy : y ∈ bnds s) : atP s y.2 = y.1 := by unfold atP; rw [find_place (bnds_sorted s) hy]; rfl
/-- PlaceRises. -/
theorem rises (s : List UInt8) (j k : Nat) (hjk : j ≤ k) (hk : k ≤ s.length) : (ofP s j).1 < (ofP s k).1 ∨ ((ofP s j).1 = (ofP s k).1 ∧ (ofP s j).2 ≤ (ofP s k).2) := by
  obtain ⟨y, _, hy, ey, _⟩ := ofP_some s j (by omega)
  obtain ⟨z, _, hz, ez, _⟩ := ofP_some s k hk
  rw [ey, ez]
  rcases find_rises (bnds_sorted s) hjk hy hz with rfl | h
  · right; exact ⟨rfl, Int.le_refl _⟩
  · unfold plt at h; omega
theorem ofP_bounds (s : List UInt8) (k : Nat) (hk : k ≤ s.length) : 1 ≤ (ofP s k).1 ∧ 1 ≤ (ofP s k).2 ∧ (ofP s k).1 ≤ ((s.count 10 : Nat) : Int) + 1 := by
  obtain ⟨y, hm, _, ey, _⟩ := ofP_some s k hk
  rw [ey]
  have := bnds_bounds s y hm
  omega
theorem ofP_end (s : List UInt8) : (ofP s s.length).1 = ((s.count 10 : Nat) : Int) + 1 := by
  obtain ⟨c', _, hm⟩ := bnds_end s
  have := ofP_mem s _ hm
  simp only at this
  rw [this]
  simp only
  omega
theorem ofP_zero (s : List UInt8) : ofP s 0 = (1, 1) := by
  obtain ⟨t, ht⟩ := rest_head s 0 1 1
  have := ofP_mem s (0, 1, 1) (by rw [bnds_rest, ht]; simp)
  exact this
theorem atP_none (s : List UInt8) : atP s (0, 0) = -1 := by
  unfold atP
  cases hf : (bnds s).find? (fun x => decide (x.2 = (0, 0))) with
  | none => rfl
  | some y =>
    have h1 := bnds_bounds s y (List.mem_of_find?_eq_some hf)
    have h2 := List.find?_some hf
    simp at h2
    rw [h2] at h1
    simp at h1
theorem atP_back (s : List UInt8) (p : Int × Int) : atP s p = -1 ∨ ∃ k : Nat, atP s p = k ∧ k ≤ s.length ∧ ofP s k = p := by
  cases hf : (bnds s).find? (fun x => decide (x.2 = p)) with
  | none => left; unfold atP; rw [hf]; rfl
  | some y =>
    right
    have hm := List.mem_of_find?_eq_some hf
    have h2 : y.2 = p := by simpa using List.find?_some hf
    exact ⟨y.1, by unfold atP; rw [hf]; rfl, (bnds_bounds s y hm).2.2.2, by rw [ofP_mem s y hm, h2]⟩
/-- What stands behind a byte 10 does not turn a sign ahead of it. -/
theorem decodeN_ends (n m b0 b1 b2 b3 c1 c2 c3 : Nat) (hn : 1 ≤ n) (hm : n ≤ m) (h1 : 1 < n → c1 = b1) (h2 : 2 < n → c2 = b2) (h3 : 3 < n → c3 = b3)
    (k1 : n = 1 → c1 = 10) (k2 : n = 2 → c2 = 10) (k3 : n = 3 → c3 = 10) : decodeN m b0 c1 c2 c3 = decodeN n b0 b1 b2 b3 := by
  by_cases e1 : n = 1
  · subst e1
    have := k1 rfl
    subst this
    unfold decodeN
    by_cases h : b0 < 128
    · rw [if_pos h, if_pos h]
    · rw [if_neg h, if_neg h, if_neg (by omega), if_neg (by omega), if_neg (by omega), if_neg (by omega), if_neg (by omega), if_neg (by omega)]
  have := h1 (by omega)
  subst this
  by_cases e2 : n = 2
  · subst e2
    have := k2 rfl
    subst this
    unfold decodeN
    by_cases h : b0 < 128
    · rw [if_pos h, if_pos h]
    rw [if_neg h, if_neg h]
    by_cases h' : b0 / 32 = 6 ∧ (1 < 2 ∧ c1 / 64 = 2)
    · rw [if_pos h', if_pos (show b0 / 32 = 6 ∧ (1 < m ∧ c1 / 64 = 2) by omega)]
    · rw [if_neg h', if_neg (show ¬ (b0 / 32 = 6 ∧ (1 < m ∧ c1 / 64 = 2)) by omega), if_neg (by omega), if_neg (by omega), if_neg (by omega), if_neg (by omega)]
  have := h2 (by omega)
  subst this
  have q1 : (1 < m) = (1 < n) := propext ⟨fun _ => by omega, fun _ => by omega⟩
  have q2 : (2 < m) = (2 < n) := propext ⟨fun _ => by omega, fun _ => by omega⟩
  by_cases e3 : n = 3
  · subst e3
    have := k3 rfl
    subst this
    unfold decodeN
    simp only [q1, q2]
    rw [if_neg (show ¬ (b0 / 8 = 30 ∧ (1 < 3 ∧ c1 / 64 = 2) ∧ (2 < 3 ∧ c2 / 64 = 2) ∧ (3 < m ∧ 10 / 64 = 2)) by omega), if_neg (show ¬ (b0 / 8 = 30 ∧ (1 < 3 ∧ c1 / 64 = 2) ∧ (2 < 3 ∧ c2 / 64 = 2) ∧ (3 < 3 ∧ b3 / 64 = 2)) by omega)]
  have := h3 (by omega)
  subst this
  have q3 : (3 < m) = (3 < n) := propext ⟨fun _ => by omega, fun _ => by omega⟩
  unfold decodeN
  simp only [q1, q2, q3]
theorem decode_ends (a b : List UInt8) (h : a ≠ []) : decodeL (a ++ 10 :: b) = decodeL a := by
  have hl : 0 < a.length := List.length_pos_iff.2 h
  have g : ∀ j, j < a.length → (a ++ 10 :: b).getD j 0 = a.getD j 0 := fun j hj => by simp [List.getD, List.getElem?_append, hj]
  have g10 : ((a ++ 10 :: b).getD a.length 0).toNat = 10 := by simp [List.getD]
  rw [decodeL_N, decodeL_N, g 0 hl]
  exact decodeN_ends a.length _ _ _ _ _ _ _ _ hl (by simp) (fun e => by rw [g 1 e]) (fun e => by rw [g 2 e]) (fun e => by rw [g 3 e])
    (fun e => by rw [← e]; exact g10) (fun e => by rw [← e]; exact g10) (fun e => by rw [← e]; exact g10)
theorem decode_ten (b : List UInt8) : decodeL (10 :: b) = (10, 1) := by
  rw [decodeL_N]
  simp [decodeN]
theorem rest_join : ∀ (n : Nat) (a b : List UInt8), a.length ≤ n → ∀ (i : Nat) (l c : Int), rest (a ++ 10 :: b) i l c = rest a i l c ++ rest b (i + a.length + 1) (l + ((a.count 10 : Nat) : Int) + 1) 1
  | n, a, b, hn, i, l, c => by
    by_cases h : a = []
    · subst h
      rw [List.nil_append, rest_step _ _ _ _ (by simp), decode_ten, rest_nil]
      simp
    · have h1 := dw1 a
      have h2 := dwle a h
      match n, hn with
      | 0, hn => have := List.length_pos_iff.2 h; omega
      | n + 1, hn =>
        have e : (a.drop (decodeL a).2).length ≤ n := by rw [List.length_drop]; omega
        rw [rest_step _ _ _ _ (by simp), decode_ends a b h, rest_step a i l c h, count_step a h, List.drop_append_of_le_length h2]
        by_cases h10 : (decodeL a).1 = 10
        · rw [if_pos h10, if_pos h10, if_pos h10, rest_join n _ b e, List.length_drop, List.cons_append]
          rw [show i + (decodeL a).2 + (a.length - (decodeL a).2) + 1 = i + a.length + 1 from by omega]
          rw [show l + 1 + (((a.drop (decodeL a).2).count 10 : Nat) : Int) + 1 = l + ((1 + (a.drop (decodeL a).2).count 10 : Nat) : Int) + 1 from by omega]
        · rw [if_neg h10, if_neg h10, if_neg h10, rest_join n _ b e, List.length_drop, List.cons_append]
          rw [show i + (decodeL a).2 + (a.length - (decodeL a).2) + 1 = i + a.length + 1 from by omega, Nat.zero_add]
theorem rest_shift : ∀ (n : Nat) (b : List UInt8), b.length ≤ n → ∀ (i : Nat) (l c : Int) (d : Nat) (m : Int), rest b (i + d) (l + m) c = (rest b i l c).map fun y => (y.1 + d, y.2.1 + m, y.2.2)
  | n, b, hn, i, l, c, d, m => by
    by_cases h : b = []
    · subst h; rw [rest_nil, rest_nil]; rfl
    · have h1 := dw1 b
      match n, hn with
      | 0, hn => have := List.length_pos_iff.2 h; omega
      | n + 1, hn =>
        have e : (b.drop (decodeL b).2).length ≤ n := by rw [List.length_drop]; have := List.length_pos_iff.2 h; omega
        rw [rest_step _ _ _ _ h, rest_step _ i l c h, List.map_cons]
        by_cases h10 : (decodeL b).1 = 10
        · rw [if_pos h10, if_pos h10, ← rest_shift n _ e]
          rw [show i + d + (decodeL b).2 = i + (decodeL b).2 + d from by omega, show l + m + 1 = l + 1 + m from by omega]
        · rw [if_neg h10, if_neg h10, ← rest_shift n _ e]
          rw [show i + d + (decodeL b).2 = i + (decodeL b).2 + d from by omega]
/-- PlaceJoins. -/
theorem joins (a b : List UInt8) (k : Nat) (hk : k ≤ b.length) : ofP (a ++ 10 :: b) (a.length + 1 + k) = ((ofP b k).1 + (ofP a a.length).1, (ofP b k).2) := by
  have ha := ofP_end a
  obtain ⟨y, _, hf, hy, hle⟩ := ofP_some b k hk
  have e1 : bnds (a ++ 10 :: b) = bnds a ++ (bnds b).map fun y => (y.1 + (a.length + 1), y.2.1 + (((a.count 10 : Nat) : Int) + 1), y.2.2) := by
    rw [bnds_rest, rest_join a.length a b (Nat.le_refl _), bnds_rest, bnds_rest, ← rest_shift b.length b (Nat.le_refl _)]
    rw [show 0 + a.length + 1 = 0 + (a.length + 1) from by omega, show (1 : Int) + ((a.count 10 : Nat) : Int) + 1 = 1 + (((a.count 10 : Nat) : Int) + 1) from by omega]
  have e2 : (bnds a).find? (fun x => decide (a.length + 1 + k ≤ x.1)) = none := by
    rw [List.find?_eq_none]
    intro x hx
    have := bnds_bounds a x hx
    simp; omega
  have e3 : (fun x : Nat × Int × Int => decide (a.length + 1 + k ≤ x.1)) ∘ (fun y : Nat × Int × Int => (y.1 + (a.length + 1), y.2.1 + (((a.count 10 : Nat) : Int) + 1), y.2.2)) = fun x => decide (k ≤ x.1) := by
    funext x
    simp only [Function.comp, decide_eq_decide]
    omega
  unfold ofP at hy ⊢
  rw [e1, List.find?_append, e2, Option.none_or, List.find?_map, e3, hf]
  rw [hf] at hy
  unfold ofP at ha
  rw [ha]
  rfl
theorem count_join (a b : List UInt8) : (a ++ 10 :: b).count 10 = a.count 10 + 1 + b.count 10 := by
  rw [List.count_append, List.count_cons]; simp; omega
/-- Where the reference's steps stand, a sign begins: for PlaceBack's loop. -/
def Stands (s : List UInt8) (k : Nat) : Prop := ∃ l c pre, 1 ≤ c ∧ bnds s = pre ++ rest (s.drop k) k l c ∧ k ≤ s.length
theorem Stands.zero (s : List UInt8) : Stands s 0 := ⟨1, 1, [], by omega, rfl, Nat.zero_le _⟩
theorem Stands.back {s : List UInt8} {k : Nat} (h : Stands s k) : atP s (ofP s k) = k := by
  obtain ⟨l, c, pre, _, hb, _⟩ := h
  obtain ⟨t, ht⟩ := rest_head (s.drop k) k l c
  have hm : (k, l, c) ∈ bnds s := by rw [hb, ht]; simp
  have h1 := ofP_mem s _ hm
  have h2 := atP_mem s _ hm
  simp only at h1 h2
  rw [h1, h2]
theorem Stands.next {s : List UInt8} {k : Nat} (h : Stands s k) (hk : k < s.length) : Stands s (k + (decodeL (s.drop k)).2) := by
  obtain ⟨l, c, pre, hc, hb, _⟩ := h
  have hne := dropNe hk
  have h2 := dwle (s.drop k) hne
  rw [List.length_drop] at h2
  rw [rest_step _ _ _ _ hne, List.drop_drop] at hb
  by_cases h10 : (decodeL (s.drop k)).1 = 10
  · rw [if_pos h10] at hb
    exact ⟨l + 1, 1, pre ++ [(k, l, c)], by omega, by rw [hb]; simp, by omega⟩
  · rw [if_neg h10] at hb
    exact ⟨l, c + 1, pre ++ [(k, l, c)], by omega, by rw [hb]; simp, by omega⟩
end Go.Proofs.Yteomiafndjcmiaa
