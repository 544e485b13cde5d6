/-
  Layer 2 (token), plain: tokens and notes stand in the text as they are, apart from one another, blanks between. No Go in sight.
-/
import Derived.Test.YtokjnalmjdighaaDoorTokStp
namespace Go.Proofs.YtokjnalmjdighaaDoor
open Go.Lib
/-- Does it stand in the text? (A line's end that is put in does not.) -/
def realT (t : Tok) : Bool := !(t.kind == 6 && t.text == [10])
def fin (t : Tok) : Nat := t.pos + t.text.length
def inT (k : Nat) (t : Tok) : Bool := realT t && (decide (t.pos ≤ k) && decide (k < fin t))
structure StandT (s : List UInt8) (t : Tok) : Prop where
  ne : t.text ≠ []
  le : t.pos + t.text.length ≤ s.length
  eq : (s.drop t.pos).take t.text.length = t.text
def Apart (x y : Tok) : Prop := realT x = true → realT y = true → fin x ≤ y.pos ∨ fin y ≤ x.pos
def blankAt (s : List UInt8) (j : Nat) : Prop := s[j]? = some 32 ∨ s[j]? = some 9 ∨ s[j]? = some 13 ∨ s[j]? = some 10 ∨ (j < 3 ∧ 3 ≤ s.length ∧ s[0]? = some 239)
structure CovInv (s : List UInt8) (k : Nat) (l n : List Tok) : Prop where
  st : ∀ t, t ∈ l ∨ t ∈ n → realT t = true → StandT s t ∧ fin t ≤ k
  ps : ∀ t, t ∈ l ∨ t ∈ n → t.pos ≤ k
  nr : ∀ t ∈ n, realT t = true
  np : n.Pairwise Apart
  cr : ∀ x ∈ l, ∀ y ∈ n, Apart x y
  ord : l.Pairwise fun x y => realT x = true → fin x ≤ y.pos
  cov : ∀ j, j < k → (∃ t, (t ∈ l ∨ t ∈ n) ∧ inT j t = true) ∨ blankAt s j
theorem CovInv.start (s : List UInt8) : CovInv s 0 [] [] := ⟨by simp, by simp, by simp, by simp, by simp, by simp, fun j h => by omega⟩
theorem CovInv.line {s : List UInt8} {k : Nat} {l n : List Tok} (I : CovInv s k l n) : CovInv s k (lineP l k) n := by
  unfold lineP
  split
  · have hr : realT ⟨6, [10], k⟩ = false := by simp [realT]
    have hm : ∀ t, t ∈ l ++ [⟨6, [10], k⟩] ∨ t ∈ n → realT t = true → t ∈ l ∨ t ∈ n := by
      intro t h ht
      rcases h with h | h
      · rcases List.mem_append.1 h with h | h
        · exact .inl h
        · rw [List.mem_singleton] at h; rw [h, hr] at ht; cases ht
      · exact .inr h
    refine ⟨fun t h ht => I.st t (hm t h ht) ht, ?_, I.nr, I.np, ?_, ?_, ?_⟩
    · intro t h
      rcases h with h | h
      · rcases List.mem_append.1 h with h | h
        · exact I.ps t (.inl h)
        · rw [List.mem_singleton] at h; rw [h]; exact Nat.le_refl _
      · exact I.ps t (.inr h)
    · intro x hx y hy h1 h2
      rcases hm x (.inl hx) h1 with h | h
      · exact I.cr x h y hy h1 h2
      · rcases List.mem_append.1 hx with hx | hx
        · exact I.cr x hx y hy h1 h2
        · rw [List.mem_singleton] at hx; rw [hx, hr] at h1; cases h1
    · refine List.pairwise_append.2 ⟨I.ord, by simp, fun a ha b hb hra => ?_⟩
      rw [List.mem_singleton] at hb
      subst hb
      exact (I.st a (.inl ha) hra).2
    · intro j hj
      rcases I.cov j hj with ⟨t, ht, hi⟩ | h
      · exact .inl ⟨t, ht.imp (fun h => List.mem_append_left _ h) id, hi⟩
      · exact .inr h
  · exact I
theorem CovInv.skip {s : List UInt8} {k k' : Nat} {l n : List Tok} (I : CovInv s k l n) (hk : k ≤ k') (h : ∀ j, k ≤ j → j < k' → blankAt s j) : CovInv s k' l n := by
  refine ⟨fun t ht hr => ⟨(I.st t ht hr).1, by have := (I.st t ht hr).2; omega⟩, fun t ht => by have := I.ps t ht; omega, I.nr, I.np, I.cr, I.ord, fun j hj => ?_⟩
  by_cases e : j < k
  · exact I.cov j e
  · exact .inr (h j (by omega) hj)
theorem stand_take {s : List UInt8} {k m kd : Nat} (hm : 1 ≤ m) (hk : k + m ≤ s.length) : StandT s ⟨kd, (s.drop k).take m, k⟩ ∧ fin ⟨kd, (s.drop k).take m, k⟩ = k + m := by
  have hl : ((s.drop k).take m).length = m := by rw [List.length_take, List.length_drop]; omega
  refine ⟨⟨fun e => ?_, ?_, ?_⟩, ?_⟩
  · simp only at e; rw [e] at hl; simp at hl; omega
  · simp only [hl]; exact hk
  · simp only [hl]
  · unfold fin; simp only [hl]
theorem CovInv.tok {s : List UInt8} {k m kd : Nat} {l n : List Tok} (I : CovInv s k l n) (hm : 1 ≤ m) (hk : k + m ≤ s.length) (hr : realT ⟨kd, (s.drop k).take m, k⟩ = true) : CovInv s (k + m) (l ++ [⟨kd, (s.drop k).take m, k⟩]) n := by
  obtain ⟨h1, h2⟩ := stand_take (kd := kd) hm hk
  obtain ⟨x, hx⟩ : ∃ x : Tok, x = ⟨kd, (s.drop k).take m, k⟩ := ⟨_, rfl⟩
  have hp : x.pos = k := by rw [hx]
  rw [← hx] at h1 h2 hr ⊢
  refine ⟨?_, ?_, I.nr, I.np, ?_, ?_, ?_⟩
  · intro t ht hrt
    rcases ht with ht | ht
    · rcases List.mem_append.1 ht with ht | ht
      · exact ⟨(I.st t (.inl ht) hrt).1, by have := (I.st t (.inl ht) hrt).2; omega⟩
      · rw [List.mem_singleton] at ht; subst ht; exact ⟨h1, by omega⟩
    · exact ⟨(I.st t (.inr ht) hrt).1, by have := (I.st t (.inr ht) hrt).2; omega⟩
  · intro t ht
    rcases ht with ht | ht
    · rcases List.mem_append.1 ht with ht | ht
      · have := I.ps t (.inl ht); omega
      · rw [List.mem_singleton] at ht; subst ht; omega
    · have := I.ps t (.inr ht); omega
  · intro a ha y hy ra ry
    rcases List.mem_append.1 ha with ha | ha
    · exact I.cr a ha y hy ra ry
    · rw [List.mem_singleton] at ha; subst ha
      right
      have := (I.st y (.inr hy) ry).2
      omega
  · refine List.pairwise_append.2 ⟨I.ord, by simp, fun a ha b hb hra => ?_⟩
    rw [List.mem_singleton] at hb
    subst hb
    have := (I.st a (.inl ha) hra).2
    omega
  · intro j hj
    by_cases e : j < k
    · rcases I.cov j e with ⟨t, ht, hi⟩ | h
      · exact .inl ⟨t, ht.imp (fun h => List.mem_append_left _ h) id, hi⟩
      · exact .inr h
    · refine .inl ⟨x, .inl (by simp), ?_⟩
      unfold inT
      rw [hr, hp, h2]
      simp
      omega
theorem CovInv.noteT {s : List UInt8} {k m : Nat} {l n : List Tok} (I : CovInv s k l n) (hm : 1 ≤ m) (hk : k + m ≤ s.length) : CovInv s (k + m) l (n ++ [⟨0, (s.drop k).take m, k⟩]) := by
  obtain ⟨h1, h2⟩ := stand_take (kd := 0) hm hk
  have hr : realT ⟨0, (s.drop k).take m, k⟩ = true := by simp [realT]
  obtain ⟨x, hx⟩ : ∃ x : Tok, x = ⟨0, (s.drop k).take m, k⟩ := ⟨_, rfl⟩
  have hp : x.pos = k := by rw [hx]
  rw [← hx] at h1 h2 hr ⊢
  refine ⟨?_, ?_, snoc_all I.nr hr, ?_, ?_, I.ord, ?_⟩
  · intro t ht hrt
    rcases ht with ht | ht
    · exact ⟨(I.st t (.inl ht) hrt).1, by have := (I.st t (.inl ht) hrt).2; omega⟩
    · rcases List.mem_append.1 ht with ht | ht
      · exact ⟨(I.st t (.inr ht) hrt).1, by have := (I.st t (.inr ht) hrt).2; omega⟩
      · rw [List.mem_singleton] at ht; subst ht; exact ⟨h1, by omega⟩
  · intro t ht
    rcases ht with ht | ht
    · have := I.ps t (.inl ht); omega
    · rcases List.mem_append.1 ht with ht | ht
      · have := I.ps t (.inr ht); omega
      · rw [List.mem_singleton] at ht; subst ht; omega
  · refine List.pairwise_append.2 ⟨I.np, by simp, fun a ha b hb hra hrb => ?_⟩
    rw [List.mem_singleton] at hb
    subst hb
    left
    have := (I.st a (.inr ha) hra).2
    omega
  · intro a ha y hy ra ry
    rcases List.mem_append.1 hy with hy | hy
    · exact I.cr a ha y hy ra ry
    · rw [List.mem_singleton] at hy; subst hy
      left
      have := (I.st a (.inl ha) ra).2
      omega
  · intro j hj
    by_cases e : j < k
    · rcases I.cov j e with ⟨t, ht, hi⟩ | h
      · exact .inl ⟨t, ht.imp id (fun h => List.mem_append_left _ h), hi⟩
      · exact .inr h
    · refine .inl ⟨x, .inr (by simp), ?_⟩
      unfold inT
      rw [hr, hp, h2]
      simp
      omega
theorem head_at {s : List UInt8} {k : Nat} {c : UInt8} (h : (s.drop k).head? = some c) : s[k]? = some c := by
  rw [List.head?_drop] at h; exact h
theorem CovInv.step {s : List UInt8} {k : Nat} {l n l' n' : List Tok} {k' : Nat} (I : CovInv s k l n) (h : Stp s k l n k' l' n') (hle : k' ≤ s.length) : CovInv s k' l' n' := by
  have hlt := stp_le h
  cases h with
  | bom h0 h =>
    refine I.skip (by omega) fun j _ hj => ?_
    right; right; right; right
    refine ⟨hj, hle, ?_⟩
    subst h0
    rw [List.drop_zero] at h
    match s, hle with
    | a :: b :: c :: t, _ => simp at h; simp [h.1]
  | nl h =>
    refine I.line.skip (by omega) fun j h1 h2 => ?_
    obtain rfl : j = k := by omega
    exact .inr (.inr (.inr (.inl (head_at h))))
  | blank c hc h =>
    refine I.skip (by omega) fun j h1 h2 => ?_
    obtain rfl : j = k := by omega
    rw [blankAt, head_at h]
    rcases hc with rfl | rfl | rfl <;> simp
  | note m h =>
    have hm := (noteP_le h).1
    split
    · exact I.line.noteT (by omega) hle
    · exact I.noteT (by omega) hle
  | name c h hc => exact I.tok (by omega) hle (by have := wordK_le ((s.drop k).take (idLen (s.drop k))); simp [realT]; omega)
  | num c h hc => exact I.tok (by omega) hle (by simp [realT])
  | quote c m h hc hq =>
    have := I.tok (m := m + 1) (kd := 5) (by omega) (by omega) (by simp [realT])
    rw [show k + (m + 1) = k + 1 + m by omega] at this
    exact this
  | sign h hn => exact I.tok (by omega) hle (by have := sign_ne10 _ (signP_mem' _ h); simp [realT, this])
/-- What the law asks. -/
structure Stand (s : List UInt8) (l n : List Tok) : Prop where
  tok : ∀ t ∈ l ++ n, realT t = true → StandT s t
  free : ∀ i (h : i < (l ++ n).length), realT (l ++ n)[i] = true → ∀ k, (l ++ n)[i].pos ≤ k → k < fin (l ++ n)[i] → ((l ++ n).take i).any (inT k) = false
  ord : ∀ i j (hi : i < j) (hj : j < l.length), realT l[i] = true → fin l[i] ≤ l[j].pos
  full : ∀ k, k < s.length → (l ++ n).any (inT k) = true ∨ blankAt s k
  pos : ∀ t ∈ l ++ n, t.pos ≤ s.length
  nr : ∀ t ∈ n, realT t = true
theorem scanR_stand {s : List UInt8} {l n : List Tok} (h : scanR s = .good l n) : Stand s l n := by
  obtain ⟨l1, h1, rfl⟩ := scanR_ind (fun k l n => CovInv s k l n) (CovInv.start s) (fun k l n k' l' n' _ hQ hst hle => CovInv.step hQ hst hle) h
  have I := h1.line
  obtain ⟨l, hl⟩ : ∃ l, l = lineP l1 s.length := ⟨_, rfl⟩
  rw [← hl] at I ⊢
  have hp : (l ++ n).Pairwise Apart := by
    refine List.pairwise_append.2 ⟨I.ord.imp fun {a b} h ra rb => .inl (h ra), I.np, I.cr⟩
  refine ⟨fun t ht hr => (I.st t (List.mem_append.1 ht) hr).1, ?_, ?_, ?_, fun t ht => I.ps t (List.mem_append.1 ht), I.nr⟩
  · intro i hi hr k h1 h2
    rw [List.any_eq_false]
    intro t ht hin
    obtain ⟨j, hj, rfl⟩ := List.getElem_of_mem ht
    rw [List.length_take] at hj
    rw [List.getElem_take] at hin
    have := List.pairwise_iff_getElem.1 hp j i (by omega) hi (by omega)
    unfold inT at hin
    simp only [Bool.and_eq_true, decide_eq_true_eq] at hin
    have := this hin.1 hr
    omega
  · intro i j hi hj hr
    exact List.pairwise_iff_getElem.1 I.ord i j (by omega) hj hi hr
  · intro k hk
    rcases I.cov k hk with ⟨t, ht, hin⟩ | h
    · exact .inl (List.any_eq_true.2 ⟨t, List.mem_append.2 ht, hin⟩)
    · exact .inr h
end Go.Proofs.YtokjnalmjdighaaDoor
