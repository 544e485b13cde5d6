/-
  Layer 3 (lit), plain: a number's value is a plain number; a nought behind the prefix changes nothing. No Go in sight.
-/
import Derived.Test.YtielcpnalepkfaaDoorLitRep
namespace Go.Proofs.YtielcpnalepkfaaDoor
open Go.Lib
theorem carL_last : ∀ (k c : Nat), 0 < c → c ≤ k → ∃ y, (carL k c).getLast? = some y ∧ y ≠ 0
  | 0, c, h, hk => by omega
  | k + 1, c, h, hk => by
    unfold carL
    rw [if_neg (by omega)]
    by_cases h10 : c / 10 = 0
    · rw [h10, carL_zero]
      exact ⟨c % 10, rfl, by omega⟩
    · obtain ⟨y, hy, h0⟩ := carL_last k (c / 10) (by omega) (by omega)
      refine ⟨y, ?_, h0⟩
      rw [show c % 10 :: carL k (c / 10) = [c % 10] ++ carL k (c / 10) from rfl, List.getLast?_append, hy]
      rfl
theorem times_last {l : List Nat} {f c : Nat} (hf : 0 < f) (h : l.getLast? ≠ some 0) : (timesP l f c).getLast? ≠ some 0 := by
  unfold timesP
  by_cases hc : (mulL f l c).2 = 0
  · rw [hc, carL_zero, List.append_nil]
    rcases List.eq_nil_or_concat l with rfl | ⟨l0, x, rfl⟩
    · simp [mulL]
    · rw [List.concat_eq_append] at hc h ⊢
      rw [mulL_snoc] at hc ⊢
      rw [List.getLast?_concat] at h
      simp only at hc ⊢
      rw [List.getLast?_concat]
      intro e
      injection e with e
      have hx : x ≠ 0 := fun q => h (by rw [q])
      have := Nat.mul_pos (Nat.pos_of_ne_zero hx) hf
      omega
  · obtain ⟨y, hy, h0⟩ := carL_last (mulL f l c).2 (mulL f l c).2 (by omega) (Nat.le_refl _)
    rw [List.getLast?_append, hy]
    intro e
    injection e with e
    exact h0 e
theorem fold_last {r : Nat} (hr : 0 < r) : ∀ (ds v : List Nat), v.getLast? ≠ some 0 → (∀ x ∈ v, x ≤ 9) → (ds.foldl (fun v d => timesP v r d) v).getLast? ≠ some 0 ∧ ∀ x ∈ ds.foldl (fun v d => timesP v r d) v, x ≤ 9
  | [], _, h, h9 => ⟨h, h9⟩
  | _ :: ds, _, h, _ => fold_last hr ds _ (times_last hr h) timesP_dig
theorem show_plain {v : List Nat} (h : v.getLast? ≠ some 0) (h9 : ∀ x ∈ v, x ≤ 9) (hl : (showP v).length ≤ 200) : plainP (showP v) = true := by
  unfold showP at hl ⊢
  by_cases hv : v = []
  · rw [if_pos hv]; decide
  · rw [if_neg hv] at hl ⊢
    unfold plainP
    have hall : (v.reverse.map fun x => UInt8.ofNat (48 + x)).all (fun c => decide (48 ≤ c.toNat) && decide (c.toNat ≤ 57)) = true := by
      rw [List.all_eq_true]
      intro c hc
      obtain ⟨x, hx, rfl⟩ := List.mem_map.1 hc
      have := h9 x (List.mem_reverse.1 hx)
      rw [UInt8.toNat_ofNat']
      have e : (48 + x) % 2 ^ 8 = 48 + x := by omega
      rw [e]; simp; omega
    have hne : (v.reverse.map fun x => UInt8.ofNat (48 + x)).isEmpty = false := by
      cases hq : v.reverse with
      | nil => exact absurd (List.reverse_eq_nil_iff.1 hq) hv
      | cons a t => rfl
    have hhd : ((v.reverse.map fun x => UInt8.ofNat (48 + x)).head? != some 48) = true := by
      rw [List.head?_map, List.head?_reverse]
      cases hq : v.getLast? with
      | none => rfl
      | some y =>
        have hy9 := h9 y (List.mem_of_getLast? hq)
        have hy0 : y ≠ 0 := fun e => h (by rw [hq, e])
        simp only [Option.map_some]
        have : UInt8.ofNat (48 + y) ≠ 48 := by
          intro e
          have := congrArg UInt8.toNat e
          rw [UInt8.toNat_ofNat'] at this
          have e2 : (48 : UInt8).toNat = 48 := rfl
          rw [e2] at this
          omega
        simpa using this
    have hl2 : decide ((v.reverse.map fun x => UInt8.ofNat (48 + x)).length ≤ 200) = true := by simpa using hl
    rw [hall, hne, hhd, hl2]
    simp
theorem goP_bad {r m : Nat} {v : List Nat} {o : Option (List Nat)} (h : (goP r m v o).2 ≠ 0) : (goP r m v o).1 = [] := by
  unfold goP at h ⊢
  split
  · rfl
  · rename_i ds
    simp only at h ⊢
    split
    · rfl
    · rename_i hd
      rw [if_neg hd] at h
      exact absurd rfl h
/-- No number: no value. -/
theorem num_bad {s : List UInt8} (h : (numP s).2 ≠ 0) : (numP s).1 = [] := by
  unfold numP at h ⊢
  split
  · rfl
  · rename_i h1
    rw [if_neg h1] at h
    split
    · rfl
    · rename_i h2
      rw [if_neg h2] at h
      exact goP_bad h
theorem goP_ok {r m : Nat} {v : List Nat} {o : Option (List Nat)} (h : (goP r m v o).2 = 0) : ∃ ds, o = some ds ∧ m + ds.length ≠ 0 := by
  unfold goP at h
  split at h
  · cases h
  · rename_i ds
    refine ⟨ds, rfl, fun e => ?_⟩
    rw [if_pos e] at h
    cases h
theorem base_pos (s : List UInt8) : 0 < (baseP s).1 := by
  rcases baseP_cases s with ⟨h, _⟩ | ⟨h | h | h, _⟩ <;> omega
theorem num_ok {s : List UInt8} (h : (numP s).2 = 0) : s.length ≤ 200 ∧ ¬ ((baseP s).1 = 10 ∧ ((baseP s).2 = [] ∨ (baseP s).2.head? = some 95)) ∧ ∃ ds, digsP (baseP s).1 false (baseP s).2 = some ds ∧ ds.length ≠ 0 ∧ numP s = (showP (ds.foldl (fun v d => timesP v (baseP s).1 d) []), 0) := by
  have h0 := h
  unfold numP at h
  split at h
  · cases h
  · rename_i h1
    split at h
    · cases h
    · rename_i h2
      obtain ⟨ds, hd, hn⟩ := goP_ok h
      refine ⟨by omega, h2, ds, hd, by omega, ?_⟩
      unfold numP
      rw [if_neg h1, if_neg h2, hd]
      unfold goP
      simp only
      rw [if_neg hn]
theorem digs_le {r : Nat} : ∀ (s : List UInt8) (line : Bool) (ds : List Nat), digsP r line s = some ds → ds.length ≤ s.length ∧ ∀ d ∈ ds, d ≤ 15
  | [], line, ds, h => by
    unfold digsP at h
    split at h
    · cases h
    · injection h with h; subst h; simp
  | c :: t, line, ds, h => by
    unfold digsP at h
    split at h
    · obtain ⟨a, b⟩ := digs_le t true ds h
      exact ⟨by rw [List.length_cons]; omega, b⟩
    · split at h
      · cases h
      · rename_i d hd
        split at h
        · cases h
        · obtain ⟨es, he, rfl⟩ := Option.map_eq_some_iff.1 h
          obtain ⟨a, b⟩ := digs_le t false es he
          refine ⟨by rw [List.length_cons, List.length_cons]; omega, fun x hx => ?_⟩
          rcases List.mem_cons.1 hx with rfl | hx
          · exact (digN_le hd).1
          · exact b x hx
theorem fold_len {r : Nat} (hr : r ≤ 16) : ∀ (ds v : List Nat), (∀ d ∈ ds, d ≤ 15) → (∀ x ∈ v, x ≤ 9) → (ds.foldl (fun v d => timesP v r d) v).length ≤ v.length + 2 * ds.length
  | [], v, _, _ => by simp
  | d :: ds, v, hd, hv => by
    have h1 := timesP_len hr (hd d (by simp)) hv
    have h2 := fold_len hr ds (timesP v r d) (fun x hx => hd x (by simp [hx])) timesP_dig
    rw [List.foldl_cons, List.length_cons]
    omega
theorem base_le (s : List UInt8) : (baseP s).1 ≤ 16 ∧ (baseP s).2.length ≤ s.length := by
  rcases baseP_cases s with ⟨h, h2, _⟩ | ⟨h, h2, _⟩
  · rw [h2]; omega
  · omega
/-- A number's value is no longer than twice the number. -/
theorem num_len (s : List UInt8) : (numP s).1.length ≤ 2 * s.length + 1 := by
  by_cases h : (numP s).2 = 0
  · obtain ⟨_, _, ds, hd, _, e⟩ := num_ok h
    obtain ⟨hb, hbl⟩ := base_le s
    obtain ⟨hl, h15⟩ := digs_le _ _ _ hd
    have := fold_len hb ds [] h15 (by simp)
    rw [e]
    unfold showP
    split
    · simp
    · simp only [List.length_map, List.length_reverse, List.length_nil] at this ⊢
      omega
  · rw [num_bad h]; simp
/-- A number's value is written plainly. -/
theorem num_value {s : List UInt8} (h : (numP s).2 = 0) : plainP (numP s).1 = true ∨ 200 < (numP s).1.length := by
  obtain ⟨_, _, ds, _, _, e⟩ := num_ok h
  rw [e]
  obtain ⟨hl, h9⟩ := fold_last (base_pos s) ds [] (by simp) (by simp)
  by_cases h2 : (showP (ds.foldl (fun v d => timesP v (baseP s).1 d) [])).length ≤ 200
  · exact .inl (show_plain hl h9 h2)
  · exact .inr (by show 200 < (showP _).length; omega)
theorem times_none (r : Nat) : timesP [] r 0 = [] := by unfold timesP; simp [mulL, carL]
theorem base_pre (p : UInt8) (t : List UInt8) (hp : p = 120 ∨ p = 98 ∨ p = 111) : ∃ r, 0 < r ∧ r ≠ 10 ∧ baseP (48 :: p :: t) = (r, t) ∧ baseP (48 :: p :: 48 :: t) = (r, 48 :: t) := by
  rcases hp with rfl | rfl | rfl
  · exact ⟨16, by omega, by omega, by unfold baseP; simp, by unfold baseP; simp⟩
  · exact ⟨2, by omega, by omega, by unfold baseP; simp, by unfold baseP; simp⟩
  · exact ⟨8, by omega, by omega, by unfold baseP; simp, by unfold baseP; simp⟩
/-- A nought behind the prefix changes nothing. -/
theorem num_nought {p : UInt8} {t : List UInt8} (hp : p = 120 ∨ p = 98 ∨ p = 111) (hl : t.length ≤ 197) (h : (numP (48 :: p :: t)).2 = 0) : numP (48 :: p :: 48 :: t) = numP (48 :: p :: t) := by
  obtain ⟨r, hr, hr10, b1, b2⟩ := base_pre p t hp
  obtain ⟨_, _, ds, hd, hn, e⟩ := num_ok h
  rw [b1] at hd e
  rw [e]
  have hz : digsP r false (48 :: t) = some (0 :: ds) := by
    unfold digsP
    rw [if_neg (by simp), show digN (48 : UInt8).toNat = some 0 from rfl]
    simp only
    rw [if_neg (by omega), hd]
    rfl
  unfold numP
  rw [if_neg (by simp only [List.length_cons]; omega), b2]
  simp only
  rw [if_neg (fun q => hr10 q.1), hz]
  unfold goP
  simp only [List.foldl_cons, times_none]
  rw [if_neg (by simp)]
end Go.Proofs.YtielcpnalepkfaaDoor
