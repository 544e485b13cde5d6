import Derived.Test.YtielcpnalepkfaaDoorTokEnds
namespace Go.Proofs.YtielcpnalepkfaaDoor
open Go.Lib
theorem sub_len {s : List UInt8} {k m : Nat} : ((s.drop k).take m).length ≤ s.length := by
  rw [List.length_take, List.length_drop]; omega
/-- What holds of the tokens and the notes so far. -/
structure Inv (s : List UInt8) (k : Nat) (l n : List Tok) : Prop where
  ll : l.length ≤ k
  nl : n.length ≤ k
  good : ∀ t ∈ l, Good t
  short : ∀ t ∈ l, t.text.length ≤ s.length
theorem lineP_len' (l : List Tok) (k : Nat) : (lineP l k).length ≤ l.length + 1 := by unfold lineP; split <;> simp
theorem good_line (p : Nat) : Good ⟨6, [10], p⟩ := ⟨by simp, fun _ => by simp, by simp⟩
theorem lineP_all {q : Tok → Prop} {l : List Tok} {p : Nat} (h : ∀ t ∈ l, q t) (h2 : q ⟨6, [10], p⟩) : ∀ t ∈ lineP l p, q t := by
  unfold lineP
  split
  · intro t ht
    rcases List.mem_append.1 ht with ht | ht
    · exact h t ht
    · rw [List.mem_singleton] at ht; subst ht; exact h2
  · exact h
theorem snoc_all {q : Tok → Prop} {l : List Tok} {x : Tok} (h : ∀ t ∈ l, q t) (h2 : q x) : ∀ t ∈ l ++ [x], q t := by
  intro t ht
  rcases List.mem_append.1 ht with ht | ht
  · exact h t ht
  · rw [List.mem_singleton] at ht; subst ht; exact h2
theorem signP_mem (r : List UInt8) (h : signP r ≠ 0) : r.take (signP r) ∈ [10] :: (signs3 ++ signs2 ++ signs1) := by
  unfold signP at h ⊢
  split
  · rename_i e; simp [e.2]
  · split
    · rename_i e; simp [e.2]
    · split
      · rename_i e; simp [e]
      · rename_i h1 h2 h3; simp [h1, h2, h3] at h
theorem wordK_le (t : List UInt8) : wordK t ≤ 2 := by unfold wordK; split <;> (try split) <;> simp
theorem Inv.step {s : List UInt8} {k : Nat} {l n l' n' : List Tok} {k' : Nat} (I : Inv s k l n) (h : stepP s k l n = some (k', l', n')) : Inv s k' l' n' := by
  have hle := stepP_le h
  obtain ⟨ll, nl, good, short⟩ := I
  unfold stepP at h
  simp only at h
  cases hr : s.drop k with
  | nil => rw [hr] at h; simp at h
  | cons c t =>
    have hs1 : 1 ≤ s.length := by omega
    have hst : ∀ m, ((c :: t).take m).length ≤ s.length := fun m => by rw [← hr]; exact sub_len
    rw [hr] at h
    simp only [List.head?_cons] at h
    split at h
    · simp at h; obtain ⟨rfl, rfl, rfl⟩ := h; exact ⟨by omega, by omega, good, short⟩
    · split at h
      · simp at h; obtain ⟨rfl, rfl, rfl⟩ := h
        have := lineP_len' l k
        exact ⟨by omega, by omega, lineP_all good (good_line k), lineP_all short (by simpa using hs1)⟩
      · split at h
        · simp at h; obtain ⟨rfl, rfl, rfl⟩ := h; exact ⟨by omega, by omega, good, short⟩
        · split at h
          · cases h
          · rename_i m hm
            have hm2 := (noteP_le hm).1
            simp only [Option.some.injEq, Prod.mk.injEq] at h
            obtain ⟨rfl, rfl, rfl⟩ := h
            have := lineP_len' l k
            refine ⟨?_, by rw [List.length_append, List.length_singleton]; omega, ?_, ?_⟩
            · split <;> omega
            · split
              · exact lineP_all good (good_line k)
              · exact good
            · split
              · exact lineP_all short (by simpa using hs1)
              · exact short
          · split at h
            · simp only [Option.some.injEq, Prod.mk.injEq] at h
              obtain ⟨rfl, rfl, rfl⟩ := h
              refine ⟨by rw [List.length_append, List.length_singleton]; omega, by omega, snoc_all good ?_, snoc_all short (hst _)⟩
              have := wordK_le ((c :: t).take (idLen (c :: t)))
              exact ⟨by simp only; omega, fun e => by simp only at e; omega, by simp only; omega⟩
            · split at h
              · simp only [Option.some.injEq, Prod.mk.injEq] at h
                obtain ⟨rfl, rfl, rfl⟩ := h
                exact ⟨by rw [List.length_append, List.length_singleton]; omega, by omega, snoc_all good ⟨by simp, fun e => by simp at e, by simp⟩, snoc_all short (hst _)⟩
              · split at h
                · split at h
                  · cases h
                  · simp only [Option.some.injEq, Prod.mk.injEq] at h
                    obtain ⟨rfl, rfl, rfl⟩ := h
                    exact ⟨by rw [List.length_append, List.length_singleton]; omega, by omega, snoc_all good ⟨by simp, fun e => by simp at e, by simp⟩, snoc_all short (hst _)⟩
                · split at h
                  · cases h
                  · rename_i hsg
                    simp only [Option.some.injEq, Prod.mk.injEq] at h
                    obtain ⟨rfl, rfl, rfl⟩ := h
                    exact ⟨by rw [List.length_append, List.length_singleton]; omega, by omega, snoc_all good ⟨by simp, fun _ => signP_mem _ hsg, by simp⟩, snoc_all short (hst _)⟩
theorem Inv.start (s : List UInt8) : Inv s 0 [] [] := ⟨by simp, by simp, (fun t h => by cases h), (fun t h => by cases h)⟩
/-- What a text's scan tells. -/
inductive ScR where
  | good (l n : List Tok)
  | bad (p e : Nat)
theorem runP_end {s : List UInt8} {f k : Nat} {l n : List Tok} (h : s.length ≤ k) : runP s f k l n = .ok (lineP l s.length, n) := by
  cases f with
  | zero => rfl
  | succ f => unfold runP; rw [if_pos h]
theorem runP_step {s : List UInt8} {f k : Nat} {l n : List Tok} (h : k < s.length) (hf : s.length - k ≤ f) : runP s f k l n = match stepP s k l n with
    | none => .error k
    | some (k', l', n') => runP s (f - 1) k' l' n' := by
  cases f with
  | zero => omega
  | succ f => conv => lhs; unfold runP
              rw [if_neg (by omega)]; rfl
end Go.Proofs.YtielcpnalepkfaaDoor
