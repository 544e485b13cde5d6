/-
  Layer 2 (token), plain: tokens that are written with blanks between are scanned as they were. No Go in sight.
-/
import Derived.Test.YtokjnalmjdighaaDoorTokStp
namespace Go.Proofs.YtokjnalmjdighaaDoor
open Go.Lib
/-! ### pieces of a text -/
theorem decodeN_prefix {n m b0 b1 b2 b3 c1 c2 c3 v w : Nat} (h : decodeN n b0 b1 b2 b3 = (v, w)) (hb : ¬ (v = 65533 ∧ w = 1)) (hm : w ≤ m)
    (e1 : 1 < w → c1 = b1) (e2 : 2 < w → c2 = b2) (e3 : 3 < w → c3 = b3) : decodeN m b0 c1 c2 c3 = (v, w) := by
  unfold decodeN at h
  split at h
  · rename_i h0
    unfold decodeN
    rw [if_pos h0]; exact h
  · rename_i h0
    split at h
    · rename_i h1
      split at h
      · rename_i h2
        injection h with hv hw
        subst hw
        have := e1 (by omega)
        subst this
        unfold decodeN
        rw [if_neg h0, if_pos (by omega), if_pos h2, hv]
      · injection h with hv hw; exact absurd ⟨hv.symm, hw.symm⟩ hb
    · rename_i h1
      split at h
      · rename_i h2
        split at h
        · rename_i h3
          injection h with hv hw
          subst hw
          have := e1 (by omega)
          subst this
          have := e2 (by omega)
          subst this
          unfold decodeN
          rw [if_neg h0, if_neg (by omega), if_pos (by omega), if_pos h3, hv]
        · injection h with hv hw; exact absurd ⟨hv.symm, hw.symm⟩ hb
      · rename_i h2
        split at h
        · rename_i h3
          split at h
          · rename_i h4
            injection h with hv hw
            subst hw
            have := e1 (by omega)
            subst this
            have := e2 (by omega)
            subst this
            have := e3 (by omega)
            subst this
            unfold decodeN
            rw [if_neg h0, if_neg (by omega), if_neg (by omega), if_pos (by omega), if_pos h4, hv]
          · injection h with hv hw; exact absurd ⟨hv.symm, hw.symm⟩ hb
        · injection h with hv hw; exact absurd ⟨hv.symm, hw.symm⟩ hb
theorem dec_prefix {r r' : List UInt8} (h : decodeL r ≠ (65533, 1)) (hl : (decodeL r).2 ≤ r'.length) (he : ∀ j, j < (decodeL r).2 → r'.getD j 0 = r.getD j 0) : decodeL r' = decodeL r := by
  have h1 := dw1 r
  rcases hd : decodeL r with ⟨v, w⟩
  rw [hd] at h hl he h1
  simp only at hl he h1
  rw [decodeL_N] at hd
  rw [decodeL_N, he 0 (by omega)]
  exact decodeN_prefix hd (fun e => h (by rw [e.1, e.2])) hl (fun e => by rw [he 1 e]) (fun e => by rw [he 2 e]) (fun e => by rw [he 3 e])
theorem getD_drop' (r : List UInt8) (a j : Nat) : (r.drop a).getD j 0 = r.getD (a + j) 0 := by simp [List.getD, List.getElem?_drop]
theorem low_width {r : List UInt8} (hne : r ≠ []) (h : (r.getD 0 0).toNat < 128) : decodeL r = ((r.getD 0 0).toNat, 1) := by
  cases r with
  | nil => exact absurd rfl hne
  | cons c t => exact decodeL_low c t h
theorem cut_ok : ∀ (N : Nat) (r : List UInt8) (i m : Nat), r.length ≤ N → m ≤ r.length → wrR r i = -1 → (m = 0 ∨ (r.getD m 0).toNat < 128 ∨ (0 < m ∧ (r.getD (m - 1) 0).toNat < 128)) →
    wrR (r.take m) i = -1 ∧ wrR (r.drop m) (i + m) = -1
  | N, r, i, m, hN, hm, h, hc => by
    by_cases h0 : m = 0
    · subst h0
      rw [List.take_zero, List.drop_zero, wrR_nil]
      exact ⟨rfl, h⟩
    · have hne : r ≠ [] := by intro e; subst e; simp at hm; omega
      rw [wrR_step r i hne] at h
      split at h
      · omega
      · rename_i hh
        have w1 := dw1 r
        have w2 := dwle r hne
        have hbad : decodeL r ≠ (65533, 1) := fun e => hh (.inr (.inl e))
        have hwm : (decodeL r).2 ≤ m := by
          by_cases hlow : (r.getD 0 0).toNat < 128
          · rw [low_width hne hlow]; simp only; omega
          · have run := decodeL_run r (by omega)
            rcases Nat.lt_or_ge m (decodeL r).2 with hlt | hge
            · have a := run m hlt
              have b := run (m - 1) (by omega)
              omega
            · exact hge
        have hd : decodeL (r.take m) = decodeL r := by
          refine dec_prefix hbad (by rw [List.length_take]; omega) fun j hj => ?_
          simp only [List.getD, List.getElem?_take]
          rw [if_pos (by omega)]
        have hne' : r.take m ≠ [] := by
          intro e
          have := congrArg List.length e
          rw [List.length_take, List.length_nil] at this
          omega
        match N, hN with
        | 0, hN => omega
        | N + 1, hN =>
          have ih := cut_ok N (r.drop (decodeL r).2) (i + (decodeL r).2) (m - (decodeL r).2) (by rw [List.length_drop]; omega) (by rw [List.length_drop]; omega) h (by
            rw [getD_drop', getD_drop']
            by_cases e : m - (decodeL r).2 = 0
            · exact .inl e
            · rw [show (decodeL r).2 + (m - (decodeL r).2) = m by omega, show (decodeL r).2 + (m - (decodeL r).2 - 1) = m - 1 by omega]
              rcases hc with hc | hc | ⟨_, hc⟩
              · exact absurd hc h0
              · exact .inr (.inl hc)
              · exact .inr (.inr ⟨by omega, hc⟩))
          refine ⟨?_, ?_⟩
          · rw [wrR_step _ i hne', hd, if_neg hh, List.drop_take]
            exact ih.1
          · have := ih.2
            rw [List.drop_drop] at this
            rw [show (decodeL r).2 + (m - (decodeL r).2) = m by omega, show i + (decodeL r).2 + (m - (decodeL r).2) = i + m by omega] at this
            exact this
theorem wrR_move : ∀ (N : Nat) (r : List UInt8) (i j : Nat), r.length ≤ N → wrR r i = -1 → (0 < j → 0 < i) → wrR r j = -1
  | N, r, i, j, hN, h, hij => by
    by_cases hne : r = []
    · subst hne; exact wrR_nil _
    · have w1 := dw1 r
      have w2 := dwle r hne
      rw [wrR_step r i hne] at h
      split at h
      · omega
      · rename_i hh
        rw [wrR_step r j hne, if_neg (fun e => hh (by unfold halts at *; exact Or.imp id (Or.imp id fun q => ⟨q.1, hij q.2⟩) e))]
        match N, hN with
        | 0, hN => omega
        | N + 1, hN => exact wrR_move N _ _ _ (by rw [List.length_drop]; omega) h (by omega)
theorem wrR_cases : ∀ (N : Nat) (r : List UInt8) (i : Nat), r.length ≤ N → wrR r i = -1 ∨ 0 ≤ wrR r i
  | N, r, i, hN => by
    by_cases hne : r = []
    · subst hne; exact .inl (wrR_nil _)
    · have w1 := dw1 r
      have w2 := dwle r hne
      rw [wrR_step r i hne]
      split
      · right; omega
      · match N, hN with
        | 0, hN => omega
        | N + 1, hN => exact wrR_cases N _ _ (by rw [List.length_drop]; omega)
theorem wrR_head {c : UInt8} {t : List UInt8} {i : Nat} (j : Nat) (hc : c.toNat < 128) (h : wrR (c :: t) i = -1) : wrR (c :: t) j = -1 := by
  rw [wrR_step _ _ (by simp), decodeL_low c t hc] at h ⊢
  split at h
  · omega
  · rename_i hh
    rw [if_neg (fun e => hh (by unfold halts at *; simp only [Prod.mk.injEq] at *; omega))]
    exact wrR_move _ _ _ _ (Nat.le_refl _) h (by omega)
theorem wrR_append : ∀ (N : Nat) (a b : List UInt8) (i : Nat), a.length ≤ N → 0 < i → wrR a i = -1 → wrR b i = -1 → wrR (a ++ b) i = -1
  | N, a, b, i, hN, hi, ha, hb => by
    by_cases hne : a = []
    · subst hne; exact hb
    · have w1 := dw1 a
      have w2 := dwle a hne
      rw [wrR_step a i hne] at ha
      split at ha
      · omega
      · rename_i hh
        have hbad : decodeL a ≠ (65533, 1) := fun e => hh (.inr (.inl e))
        have hd : decodeL (a ++ b) = decodeL a := by
          refine dec_prefix hbad (by rw [List.length_append]; omega) fun j hj => ?_
          simp only [List.getD]
          rw [List.getElem?_append_left (by omega)]
        rw [wrR_step _ i (by simp [hne]), hd, if_neg hh, List.drop_append_of_le_length w2]
        match N, hN with
        | 0, hN => omega
        | N + 1, hN => exact wrR_append N _ _ _ (by rw [List.length_drop]; omega) (by omega) ha (wrR_move _ _ _ _ (Nat.le_refl _) hb (by omega))
/-! ### a token, written alone, is scanned as it is -/
def Resc (kd : Nat) (t : List UInt8) : Prop := ∀ (s : List UInt8) (k : Nat) (x : List UInt8) (l n : List Tok), s.drop k = t ++ 32 :: x → stepP s k l n = some (k + t.length, l ++ [⟨kd, t, k⟩], n)
theorem noteP_none {r : List UInt8} (h1 : r.take 2 ≠ [47, 47]) (h2 : r.take 2 ≠ [47, 42]) : noteP r = .none := by
  unfold noteP; rw [if_neg h1, if_neg h2]
theorem noteP_head {c : UInt8} {t : List UInt8} (h : c ≠ 47) : noteP (c :: t) = .none := noteP_none (by intro e; cases t <;> simp at e; exact h e.1) (by intro e; cases t <;> simp at e; exact h e.1)
theorem bom_head {c : UInt8} {t : List UInt8} (h : c ≠ 239) : (c :: t).take 3 ≠ [239, 187, 191] := by
  intro e; simp at e; exact h e.1
theorem tw_app : ∀ (t x : List UInt8), t.all idB = true → (t ++ 32 :: x).takeWhile idB = t
  | [], x, _ => by
    have : idB 32 = false := by decide
    rw [List.nil_append, List.takeWhile_cons, this]; rfl
  | c :: t, x, h => by
    rw [List.all_cons, Bool.and_eq_true] at h
    rw [List.cons_append, List.takeWhile_cons, h.1, tw_app t x h.2]; rfl
theorem letter_not {c : UInt8} (h : idB c = true) : c ≠ 10 ∧ c ≠ 32 ∧ c ≠ 9 ∧ c ≠ 13 ∧ c ≠ 47 ∧ c ≠ 239 ∧ c ≠ 34 ∧ c ≠ 96 := by
  refine ⟨?_, ?_, ?_, ?_, ?_, ?_, ?_, ?_⟩ <;> (rintro rfl; revert h; decide)
theorem resc_name {c : UInt8} {t : List UInt8} (hc : letterB c.toNat = true) (ht : t.all idB = true) : Resc (1 + wordK (c :: t)) (c :: t) := by
  intro s k x l n h
  have hid : idB c = true := by unfold idB; rw [hc]; rfl
  obtain ⟨a1, a2, a3, a4, a5, a6, a7, a8⟩ := letter_not hid
  have hl : idLen (c :: t ++ 32 :: x) = (c :: t).length := by unfold idLen; rw [tw_app (c :: t) x (by rw [List.all_cons, hid, ht]; rfl)]
  have htk : (c :: t ++ 32 :: x).take (c :: t).length = c :: t := by rw [List.take_left]
  unfold stepP
  simp only [h, hl, htk]
  rw [List.cons_append, noteP_head a5]
  simp only [List.head?_cons]
  rw [if_neg (fun e => bom_head a6 e.2), if_neg a1, if_neg (by simp [a2, a3, a4]), if_pos hc]
theorem resc_num {c : UInt8} {t : List UInt8} (hc : figB c.toNat = true) (ht : t.all idB = true) : Resc 4 (c :: t) := by
  intro s k x l n h
  have hid : idB c = true := by unfold idB; rw [hc]; simp
  obtain ⟨a1, a2, a3, a4, a5, a6, a7, a8⟩ := letter_not hid
  have hl : idLen (c :: t ++ 32 :: x) = (c :: t).length := by unfold idLen; rw [tw_app (c :: t) x (by rw [List.all_cons, hid, ht]; rfl)]
  have htk : (c :: t ++ 32 :: x).take (c :: t).length = c :: t := by rw [List.take_left]
  unfold stepP
  simp only [h, hl, htk]
  rw [List.cons_append, noteP_head a5]
  simp only [List.head?_cons]
  rw [if_neg (fun e => bom_head a6 e.2), if_neg a1, if_neg (by simp [a2, a3, a4]), if_neg (by rw [fig_let hc]; simp), if_pos hc]
theorem quo_prefix (q : UInt8) : ∀ (r : List UInt8) (sl : Bool) (m : Nat) (x : List UInt8), quo q sl r = some m → quo q sl (r.take m ++ x) = some m
  | [], sl, m, x, h => by cases sl <;> simp [quo] at h
  | c :: t, sl, m, x, h => by
    have go : ∀ b, (quo q b t).map (· + 1) = some m → ∃ j, m = j + 1 ∧ (quo q b (t.take j ++ x)).map (· + 1) = some m := fun b hb => by
      obtain ⟨j, hj, rfl⟩ := map_succ hb
      exact ⟨j, rfl, by rw [quo_prefix q t b j x hj]; rfl⟩
    cases sl with
    | true =>
      simp only [quo] at h
      split at h
      · cases h
      · rename_i hc
        obtain ⟨j, rfl, e⟩ := go _ h
        rw [List.take_succ_cons, List.cons_append]
        simp only [quo]
        rw [if_neg hc]; exact e
    | false =>
      simp only [quo] at h
      split at h
      · rename_i hc
        obtain ⟨j, rfl, e⟩ := go _ h
        rw [List.take_succ_cons, List.cons_append]
        simp only [quo]
        rw [if_pos hc]; exact e
      · rename_i h1
        split at h
        · rename_i h2
          injection h with h
          subst h
          rw [List.take_succ_cons, List.cons_append]
          simp only [quo]
          rw [if_neg h1, if_pos h2]
        · rename_i h2
          split at h
          · cases h
          · rename_i h3
            obtain ⟨j, rfl, e⟩ := go _ h
            rw [List.take_succ_cons, List.cons_append]
            simp only [quo]
            rw [if_neg h1, if_neg h2, if_neg h3]; exact e
theorem quo_last (q : UInt8) : ∀ (r : List UInt8) (sl : Bool) (m : Nat), quo q sl r = some m → r.getD (m - 1) 0 = q
  | [], sl, m, h => by cases sl <;> simp [quo] at h
  | c :: t, sl, m, h => by
    have go : ∀ b, (quo q b t).map (· + 1) = some m → (c :: t).getD (m - 1) 0 = q := fun b hb => by
      obtain ⟨j, hj, rfl⟩ := map_succ hb
      have h1 := (quo_le q t b j hj).1
      have := quo_last q t b j hj
      rw [Nat.add_sub_cancel]
      obtain ⟨i, rfl⟩ : ∃ i, j = i + 1 := ⟨j - 1, by omega⟩
      simpa using this
    cases sl with
    | true =>
      simp only [quo] at h
      split at h
      · cases h
      · exact go _ h
    | false =>
      simp only [quo] at h
      split at h
      · exact go _ h
      · split at h
        · rename_i h2
          injection h with h
          subst h
          simpa using h2
        · split at h
          · cases h
          · exact go _ h
theorem resc_quote {c : UInt8} {t : List UInt8} {m : Nat} (hc : c = 34 ∨ c = 96) (hq : quo c false t = some m) : Resc 5 (c :: t.take m) := by
  intro s k x l n h
  have hm := quo_le _ _ _ _ hq
  have hlen : (c :: t.take m).length = m + 1 := by simp; omega
  have hn : c ≠ 10 ∧ c ≠ 32 ∧ c ≠ 9 ∧ c ≠ 13 ∧ c ≠ 47 ∧ c ≠ 239 ∧ letterB c.toNat = false ∧ figB c.toNat = false := by rcases hc with rfl | rfl <;> decide
  obtain ⟨a1, a2, a3, a4, a5, a6, a7, a8⟩ := hn
  have htk : (c :: t.take m ++ 32 :: x).take (m + 1) = c :: t.take m := by rw [← hlen, List.take_left]
  have hqq : quo c false (t.take m ++ 32 :: x) = some m := quo_prefix c t false m _ hq
  unfold stepP
  simp only [h, hlen]
  rw [List.cons_append] at htk ⊢
  rw [noteP_head a5]
  simp only [List.head?_cons, List.tail_cons, hqq]
  rw [if_neg (fun e => bom_head a6 e.2), if_neg a1, if_neg (by simp [a2, a3, a4]), if_neg (by rw [a7]; simp), if_neg (by rw [a8]; simp), if_pos hc, htk]
  simp only [Option.some.injEq, Prod.mk.injEq, and_true]
  omega
theorem signs_no32 : (∀ u ∈ signs3, (32 : UInt8) ∉ u) ∧ (∀ u ∈ signs2, (32 : UInt8) ∉ u) := by decide
theorem signs_len : (∀ u ∈ signs3, u.length = 3) ∧ (∀ u ∈ signs2, u.length = 2) ∧ (∀ u ∈ signs1, u.length = 1) := by decide
theorem take_32 {t x : List UInt8} {n : Nat} (h : t.length < n) : (32 : UInt8) ∈ (t ++ 32 :: x).take n := by
  rw [List.take_append]
  obtain ⟨j, hj⟩ : ∃ j, n - t.length = j + 1 := ⟨n - t.length - 1, by omega⟩
  rw [hj]; simp
theorem signs_head : ∀ u ∈ signs3 ++ signs2 ++ signs1, (u ++ [32]).take 2 ≠ [47, 47] ∧ (u ++ [32]).take 2 ≠ [47, 42] ∧ (match u with
    | [] => false
    | c :: _ => !(c == 10 || c == 32 || c == 9 || c == 13 || c == 239 || letterB c.toNat || figB c.toNat || c == 34 || c == 96)) = true := by decide +kernel
theorem signs_low : ∀ u ∈ signs3 ++ signs2 ++ signs1, ∀ c ∈ u, c.toNat < 128 := by decide +kernel
theorem resc_sign {t : List UInt8} (ht : t ∈ signs3 ++ signs2 ++ signs1) : Resc 6 t := by
  intro s k x l n h
  obtain ⟨h1, h2, h3⟩ := signs_head t ht
  have hpos : 1 ≤ t.length := by
    cases t with
    | nil => simp at h3
    | cons c u => simp
  have hs : signP (t ++ 32 :: x) = t.length := by
    unfold signP
    have htk : (t ++ 32 :: x).take t.length = t := by rw [List.take_left]
    rcases List.mem_append.1 ht with ht | m1
    · rcases List.mem_append.1 ht with m3 | m2
      · have e := signs_len.1 t m3
        rw [e] at htk
        rw [if_pos ⟨by rw [List.length_append, e]; omega, by rw [htk]; exact m3⟩, e]
      · have e := signs_len.2.1 t m2
        rw [e] at htk
        rw [if_neg (fun q => signs_no32.1 _ q.2 (take_32 (by omega))), if_pos ⟨by rw [List.length_append, e]; omega, by rw [htk]; exact m2⟩, e]
    · have e := signs_len.2.2 t m1
      rw [e] at htk
      rw [if_neg (fun q => signs_no32.1 _ q.2 (take_32 (by omega))), if_neg (fun q => signs_no32.2 _ q.2 (take_32 (by omega))), if_pos (by rw [htk]; exact m1), e]
  have ht2 : (t ++ 32 :: x).take 2 = (t ++ [32]).take 2 := by
    rw [show t ++ 32 :: x = (t ++ [32]) ++ x by simp]
    exact List.take_append_of_le_length (by rw [List.length_append]; simp; omega)
  have hn : noteP (t ++ 32 :: x) = .none := noteP_none (by rw [ht2]; exact h1) (by rw [ht2]; exact h2)
  have htk : (t ++ 32 :: x).take t.length = t := by rw [List.take_left]
  cases t with
  | nil => simp at hpos
  | cons c u =>
    simp only [Bool.not_eq_true', Bool.or_eq_false_iff, beq_eq_false_iff_ne, ne_eq] at h3
    obtain ⟨⟨⟨⟨⟨⟨⟨⟨a1, a2⟩, a3⟩, a4⟩, a5⟩, a6⟩, a7⟩, a8⟩, a9⟩ := h3
    unfold stepP
    simp only [h, hs, htk, hn]
    rw [List.cons_append]
    simp only [List.head?_cons]
    rw [if_neg (fun e => bom_head a5 e.2), if_neg a1, if_neg (by simp [a2, a3, a4]), if_neg (by rw [a6]; simp), if_neg (by rw [a7]; simp), if_neg (by simp [a8, a9]), if_neg (by simp)]
/-! ### the text that the law writes -/
def joinT : List Tok → List UInt8
  | [] => []
  | t :: l => t.text ++ ((if t.text = [10] then [] else [32]) ++ joinT l)
theorem joinT_snoc : ∀ (l : List Tok) (x : Tok), joinT (l ++ [x]) = joinT l ++ (x.text ++ (if x.text = [10] then [] else [32]))
  | [], x => by simp [joinT]
  | t :: l, x => by simp [joinT, joinT_snoc l x, List.append_assoc]
def PT (t : Tok) : Prop := wrR t.text 1 = -1 ∧ (t.text ≠ [10] → Resc t.kind t.text) ∧ (t.text = [10] → t.kind = 6)
theorem wr10 : wrR [10] 1 = -1 := by
  rw [wrR_step _ _ (by simp), decodeL_low _ _ (by decide), if_neg (by decide)]
  exact wrR_nil _
theorem wr32 : wrR [32] 1 = -1 := by
  rw [wrR_step _ _ (by simp), decodeL_low _ _ (by decide), if_neg (by decide)]
  exact wrR_nil _
theorem PT.line (p : Nat) : PT ⟨6, [10], p⟩ := ⟨wr10, fun h => absurd rfl h, fun _ => rfl⟩
structure JInv (s : List UInt8) (k : Nat) (l : List Tok) : Prop where
  bd : wrR (s.drop k) k = -1
  pt : ∀ t ∈ l, PT t
  len : (joinT l).length ≤ 3 * k
theorem joinT_line (l : List Tok) (k : Nat) : (joinT (lineP l k)).length ≤ (joinT l).length + 1 := by
  unfold lineP
  split
  · rw [joinT_snoc]; simp
  · omega
theorem joinT_len (l : List Tok) (t : Tok) : (joinT (l ++ [t])).length ≤ (joinT l).length + t.text.length + 1 := by
  rw [joinT_snoc, List.length_append, List.length_append]
  split <;> simp <;> omega
theorem getD_mem {r : List UInt8} {m : Nat} (h : 0 < m) (hm : m ≤ r.length) : r.getD (m - 1) 0 ∈ r.take m := by
  rw [List.getD_eq_getElem?_getD, List.getElem?_eq_getElem (by omega), Option.getD_some]
  have h1 : m - 1 < (r.take m).length := by rw [List.length_take]; omega
  have := List.getElem_mem h1
  rw [List.getElem_take] at this
  exact this
theorem head_getD {r : List UInt8} {c : UInt8} (h : r.head? = some c) : r.getD 0 0 = c := by
  obtain ⟨t, rfl⟩ := head_cons h; rfl
theorem idB_low {c : UInt8} (h : idB c = true) : c.toNat < 128 := by
  unfold idB letterB figB at h
  simp at h
  omega
theorem tw_stop (p : UInt8 → Bool) : ∀ r : List UInt8, (r.takeWhile p).length = r.length ∨ (∃ c, r[(r.takeWhile p).length]? = some c ∧ p c = false)
  | [] => .inl rfl
  | c :: t => by
    rw [List.takeWhile_cons]
    cases hp : p c with
    | true =>
      rcases tw_stop p t with h | ⟨d, h1, h2⟩
      · left; simp [h]
      · right; exact ⟨d, by simpa using h1, h2⟩
    | false => right; exact ⟨c, by simp, hp⟩
theorem star_last : ∀ (t : List UInt8) (k : Nat), star t = some k → t.getD (k + 1) 0 = 47
  | [], k, h => by simp [star] at h
  | c :: t, k, h => by
    unfold star at h
    split at h
    · rename_i e
      injection h with h
      subst h
      obtain ⟨u, rfl⟩ := head_cons e.2
      rfl
    · obtain ⟨j, hj, rfl⟩ := map_succ h
      have := star_last t j hj
      simpa using this
theorem note_end {r : List UInt8} {m : Nat} (h : noteP r = .len m) : (r.getD m 0).toNat < 128 ∨ (0 < m ∧ (r.getD (m - 1) 0).toNat < 128) := by
  unfold noteP at h
  split at h
  · injection h with h
    subst h
    left
    rcases tw_stop (fun c => c != 10) r with h | ⟨c, h1, h2⟩
    · rw [h]; simp [List.getD]
    · rw [List.getD_eq_getElem?_getD, h1, Option.getD_some]
      simp at h2
      rw [h2]; decide
  · split at h
    · split at h
      · rename_i k hk
        injection h with h
        subst h
        right
        have := star_last _ _ hk
        rw [getD_drop'] at this
        refine ⟨by omega, ?_⟩
        rw [show k + 4 - 1 = 2 + (k + 1) by omega, this]
        decide
      · cases h
    · cases h
theorem JInv.step {s : List UInt8} {k : Nat} {l n l' n' : List Tok} {k' : Nat} (I : JInv s k l) (h : Stp s k l n k' l' n') (hle : k' ≤ s.length) : JInv s k' l' := by
  have hlt := stp_le h
  have cut : ∀ m, k + m ≤ s.length → ((s.drop k).getD m 0).toNat < 128 ∨ (0 < m ∧ ((s.drop k).getD (m - 1) 0).toNat < 128) → wrR ((s.drop k).take m) k = -1 ∧ wrR (s.drop (k + m)) (k + m) = -1 := by
    intro m hm hc
    have := cut_ok _ (s.drop k) k m (Nat.le_refl _) (by rw [List.length_drop]; omega) I.bd (.inr hc)
    rw [List.drop_drop] at this
    exact this
  have hlen : ∀ m, k + m ≤ s.length → ((s.drop k).take m).length = m := fun m hm => by rw [List.length_take, List.length_drop]; omega
  have ids : ∀ c, (s.drop k).head? = some c → idB c = true → k + idLen (s.drop k) ≤ s.length → (∃ u, (s.drop k).take (idLen (s.drop k)) = c :: u ∧ u.all idB = true) ∧
      wrR ((s.drop k).take (idLen (s.drop k))) 1 = -1 ∧ wrR (s.drop (k + idLen (s.drop k))) (k + idLen (s.drop k)) = -1 := by
    intro c hc hid hm
    obtain ⟨t, ht⟩ := head_cons hc
    have e1 : (s.drop k).take (idLen (s.drop k)) = c :: t.takeWhile idB := by rw [take_idLen, ht, tw_cons hid]
    have hp : 0 < idLen (s.drop k) := by rw [ht]; exact idLen_pos hid
    have hmem := getD_mem (r := s.drop k) hp (by rw [List.length_drop]; omega)
    have hall : ∀ d ∈ (s.drop k).take (idLen (s.drop k)), idB d = true := by
      rw [take_idLen]; exact List.all_eq_true.1 (tw_all _)
    have hcut := cut _ hm (.inr ⟨hp, idB_low (hall _ hmem)⟩)
    refine ⟨⟨_, e1, tw_all t⟩, ?_, hcut.2⟩
    have := hcut.1
    rw [e1] at this ⊢
    exact wrR_head 1 (idB_low hid) this
  cases h with
  | bom h0 h =>
    subst h0
    refine ⟨?_, I.pt, by have := I.len; omega⟩
    have hb := I.bd
    rw [List.drop_zero] at h hb
    match s, hle with
    | a :: b :: c :: t, _ =>
      simp at h
      obtain ⟨rfl, rfl, rfl⟩ := h
      have hd : decodeL (239 :: 187 :: 191 :: t) = (65279, 3) := by
        rw [decodeL_N]
        simp [decodeN]
      rw [wrR_step _ _ (by simp), hd] at hb
      split at hb
      · omega
      · exact hb
  | nl h =>
    have c1 := cut 1 hle (.inr ⟨by omega, by rw [Nat.sub_self, head_getD h]; decide⟩)
    exact ⟨c1.2, lineP_all I.pt (PT.line k), by have := joinT_line l k; have := I.len; omega⟩
  | blank c hc h =>
    have c1 := cut 1 hle (.inr ⟨by omega, by rw [Nat.sub_self, head_getD h]; rcases hc with rfl | rfl | rfl <;> decide⟩)
    exact ⟨c1.2, I.pt, by have := I.len; omega⟩
  | note m h =>
    have c1 := cut m hle (note_end h)
    refine ⟨c1.2, ?_, ?_⟩
    · split
      · exact lineP_all I.pt (PT.line k)
      · exact I.pt
    · have := joinT_line l k
      have := I.len
      split <;> omega
  | name c h hc =>
    have hid : idB c = true := by unfold idB; rw [hc]; rfl
    obtain ⟨⟨u, hu, ha⟩, h1, h2⟩ := ids c h hid hle
    refine ⟨h2, snoc_all I.pt ⟨h1, fun _ => ?_, fun e => ?_⟩, ?_⟩
    · simp only; rw [hu]; exact resc_name hc ha
    · simp only at e; rw [hu] at e; injection e with e _; subst e; exfalso; revert hc; decide
    · have := joinT_len l ⟨1 + wordK ((s.drop k).take (idLen (s.drop k))), (s.drop k).take (idLen (s.drop k)), k⟩
      simp only [hlen _ hle] at this
      have := I.len
      omega
  | num c h hc =>
    have hid : idB c = true := by unfold idB; rw [hc]; simp
    obtain ⟨⟨u, hu, ha⟩, h1, h2⟩ := ids c h hid hle
    refine ⟨h2, snoc_all I.pt ⟨h1, fun _ => ?_, fun e => ?_⟩, ?_⟩
    · simp only; rw [hu]; exact resc_num hc ha
    · simp only at e; rw [hu] at e; injection e with e _; subst e; exfalso; revert hc; decide
    · have := joinT_len l ⟨4, (s.drop k).take (idLen (s.drop k)), k⟩
      simp only [hlen _ hle] at this
      have := I.len
      omega
  | quote c m h hc hq =>
    obtain ⟨t, ht⟩ := head_cons h
    have hm := quo_le _ _ _ _ hq
    have hlast := quo_last _ _ _ _ hq
    have e1 : (s.drop k).take (m + 1) = c :: t.take m := by rw [ht, List.take_succ_cons]
    have hlow : c.toNat < 128 := by rcases hc with rfl | rfl <;> decide
    have c1 := cut (m + 1) (by omega) (.inr ⟨by omega, by
      rw [ht, List.tail_cons] at *
      obtain ⟨j, rfl⟩ : ∃ j, m = j + 1 := ⟨m - 1, by omega⟩
      rw [Nat.add_sub_cancel] at *
      have : (c :: t).getD (j + 1) 0 = c := by simpa using hlast
      rw [this]; exact hlow⟩)
    have e2 := hlen (m + 1) (by omega)
    refine ⟨by rw [show k + 1 + m = k + (m + 1) by omega]; exact c1.2, snoc_all I.pt ⟨?_, fun _ => ?_, fun e => ?_⟩, ?_⟩
    · have := c1.1
      simp only
      rw [e1] at this ⊢
      exact wrR_head 1 hlow this
    · simp only; rw [e1]; exact resc_quote hc (by rw [ht, List.tail_cons] at hq; exact hq)
    · simp only at e; rw [e1] at e; injection e with e _; subst e; exfalso; revert hc; decide
    · have := joinT_len l ⟨5, (s.drop k).take (m + 1), k⟩
      simp only [e2] at this
      have := I.len
      omega
  | sign h hn =>
    have hmem := signP_mem' _ h
    have hp : 0 < signP (s.drop k) := by omega
    have hlow := signs_low _ hmem
    have c1 := cut _ hle (.inr ⟨hp, hlow _ (getD_mem hp (by rw [List.length_drop]; omega))⟩)
    have e2 := hlen _ hle
    refine ⟨c1.2, snoc_all I.pt ⟨?_, fun _ => resc_sign hmem, fun e => absurd e (sign_ne10 _ hmem)⟩, ?_⟩
    · have := c1.1
      simp only
      cases hx : (s.drop k).take (signP (s.drop k)) with
      | nil => exact wrR_nil _
      | cons c u =>
        rw [hx] at this hlow
        exact wrR_head 1 (hlow c (by simp)) this
    · have := joinT_len l ⟨6, (s.drop k).take (signP (s.drop k)), k⟩
      simp only [e2] at this
      have := I.len
      omega
/-! ### scanning it again -/
def kt (l : List Tok) : List (Nat × List UInt8) := l.map fun t => (t.kind, t.text)
def endsK (p : Nat × List UInt8) : Bool := endsT ⟨p.1, p.2, 0⟩
theorem endsP_kt (l : List Tok) : endsP l = (match (kt l).getLast? with
    | none => false
    | some p => endsK p) := by
  unfold endsP kt
  rw [List.getLast?_map]
  cases l.getLast? with
  | none => rfl
  | some t => rfl
theorem endsP_snoc (l : List Tok) (t : Tok) : endsP (l ++ [t]) = endsT t := by simp [endsP]
theorem runP_go {s : List UInt8} {f k k' : Nat} {l n l' n' : List Tok} (h : k < s.length) (hf : s.length - k ≤ f) (hs : stepP s k l n = some (k', l', n')) : runP s f k l n = runP s (f - 1) k' l' n' := by
  rw [runP_step h hf, hs]
theorem rescan (c : List UInt8) : ∀ (l2 pre m : List Tok) (k f : Nat), c.drop k = joinT l2 → k ≤ c.length → c.length - k ≤ f → kt m = kt pre → (∀ t ∈ l2, PT t) → LinesOK (pre ++ l2) →
    ∃ m', runP c f k m [] = .ok (lineP m' c.length, []) ∧ kt m' = kt (pre ++ l2)
  | [], pre, m, k, f, hd, hk, hf, hm, _, _ => by
    have : c.length ≤ k := List.drop_eq_nil_iff.1 hd
    exact ⟨m, runP_end this, by rw [List.append_nil]; exact hm⟩
  | t :: l2, pre, m, k, f, hd, hk, hf, hm, hp, hL => by
    obtain ⟨p1, p2, p3⟩ := hp t (by simp)
    have hL' : LinesOK ((pre ++ [t]) ++ l2) := by rw [List.append_assoc]; exact hL
    have hlenD : (c.drop k).length = c.length - k := List.length_drop
    simp only [joinT] at hd
    by_cases ht : t.text = [10]
    · rw [ht, if_pos rfl] at hd
      have hkl : k < c.length := by rw [hd] at hlenD; simp at hlenD; omega
      have he : endsP m = true := by
        obtain ⟨j, hj, hjl, hE⟩ := hL pre.length (by simp) (by simp [ht])
        have hjp : j < pre.length := by omega
        rw [List.getElem_append_left hjp] at hE
        rw [endsP_kt, hm, ← endsP_kt]
        unfold endsP
        rw [List.getLast?_eq_getElem?, show pre.length - 1 = j by omega, List.getElem?_eq_getElem hjp]
        exact hE
      have hs : stepP c k m [] = some (k + 1, m ++ [⟨6, [10], k⟩], []) := by
        unfold stepP
        simp only [hd]
        rw [List.cons_append]
        simp only [List.head?_cons]
        rw [if_neg (fun e => bom_head (by decide) e.2), if_pos trivial]
        unfold lineP
        rw [if_pos he]
      rw [runP_go hkl hf hs]
      have hd' : c.drop (k + 1) = joinT l2 := by
        rw [← List.drop_drop, hd] <;> simp
      obtain ⟨m', h1, h2⟩ := rescan c l2 (pre ++ [t]) (m ++ [⟨6, [10], k⟩]) (k + 1) (f - 1) hd' (by omega) (by omega) (by
        unfold kt at *
        rw [List.map_append, List.map_append, hm] <;> simp [ht, p3 ht]) (fun u hu => hp u (by simp [hu])) hL'
      exact ⟨m', h1, by rw [h2, List.append_assoc]; rfl⟩
    · rw [if_neg ht] at hd
      have hlen : t.text.length + 1 ≤ c.length - k := by rw [← hlenD, hd]; simp
      have hs := p2 ht c k (joinT l2) m [] (by rw [hd]; simp)
      have hd1 : c.drop (k + t.text.length) = 32 :: joinT l2 := by
        rw [← List.drop_drop, hd] <;> simp
      rw [runP_go (by omega) hf hs]
      have hs2 : stepP c (k + t.text.length) (m ++ [⟨t.kind, t.text, k⟩]) [] = some (k + t.text.length + 1, m ++ [⟨t.kind, t.text, k⟩], []) := by
        unfold stepP
        simp only [hd1]
        simp only [List.head?_cons]
        rw [if_neg (fun e => bom_head (by decide) e.2), if_neg (by decide), if_pos (.inl trivial)]
      by_cases h0 : t.text.length = 0
      · exfalso
        have e : t.text = [] := List.eq_nil_of_length_eq_zero h0
        have hx := p2 ht [32] 0 [] [] [] (by rw [e]; rfl)
        rw [e] at hx
        have := stepP_le hx
        simp at this
      rw [runP_go (by omega) (by omega) hs2]
      have hd' : c.drop (k + t.text.length + 1) = joinT l2 := by
        rw [← List.drop_drop, hd1] <;> simp
      obtain ⟨m', h1, h2⟩ := rescan c l2 (pre ++ [t]) (m ++ [⟨t.kind, t.text, k⟩]) (k + t.text.length + 1) (f - 1 - 1) hd' (by omega) (by omega) (by
        unfold kt at *
        rw [List.map_append, List.map_append, hm]
        rfl) (fun u hu => hp u (by simp [hu])) hL'
      exact ⟨m', h1, by rw [h2, List.append_assoc]; rfl⟩
theorem wr_join : ∀ l : List Tok, (∀ t ∈ l, PT t) → wrR (joinT l) 1 = -1
  | [], _ => wrR_nil _
  | t :: l, h => by
    unfold joinT
    refine wrR_append _ _ _ _ (Nat.le_refl _) (by omega) (h t (by simp)).1 (wrR_append _ _ _ _ (Nat.le_refl _) (by omega) ?_ (wr_join l fun u hu => h u (by simp [hu])))
    split
    · exact wrR_nil _
    · exact wr32
/-- Tokens that are written with blanks between are scanned as they were. -/
theorem scanR_join {s : List UInt8} {l n : List Tok} (h : scanR s = .good l n) (hs : s.length ≤ 10000) : (joinT l).length ≤ 30001 ∧ ∃ m, scanR (joinT l) = .good m [] ∧ kt m = kt l := by
  have hL := scanR_lines h
  have hw : wrongP s < 0 := by
    unfold scanR at h
    split at h
    · cases h
    · split at h
      · cases h
      · omega
  have hw1 : wrR s 0 = -1 := by
    rcases wrR_cases _ s 0 (Nat.le_refl _) with h | h
    · exact h
    · unfold wrongP at hw; omega
  obtain ⟨l1, h1, rfl⟩ := scanR_ind (fun k l _ => JInv s k l) ⟨by rw [List.drop_zero]; exact hw1, by simp, by simp [joinT]⟩ (fun k l n k' l' n' _ hQ hst hle => JInv.step hQ hst hle) h
  have hpt := lineP_all (p := s.length) h1.pt (PT.line _)
  have hl := joinT_line l1 s.length
  have hll := h1.len
  generalize lineP l1 s.length = l at *
  refine ⟨by omega, ?_⟩
  obtain ⟨m', e1, e2⟩ := rescan (joinT l) l [] [] 0 (joinT l).length rfl (by omega) (by omega) rfl hpt (by simpa using hL.1)
  rw [List.nil_append] at e2
  have hlp : lineP m' (joinT l).length = m' := by
    unfold lineP
    rw [endsP_kt, e2, ← endsP_kt, hL.2]
    rfl
  rw [hlp] at e1
  refine ⟨m', ?_, e2⟩
  have hwj := wrR_move _ _ _ 0 (Nat.le_refl _) (wr_join l hpt) (by omega)
  unfold scanR
  rw [if_neg (by omega), if_neg (by unfold wrongP; omega)]
  unfold runR
  rw [e1]
end Go.Proofs.YtokjnalmjdighaaDoor
