/-
  Layers 2 and 3, plain: what means a number or a text is one token; a text written plainly means it. No Go in sight.
-/
import Derived.Test.YtielcpnalepkfaaDoorTokScan
import Derived.Test.YtielcpnalepkfaaDoorLitValP
import Derived.Test.YtielcpnalepkfaaDoorLitTextP
import Derived.Test.YtielcpnalepkfaaDoorLitPlain
namespace Go.Proofs.YtielcpnalepkfaaDoor
open Go.Lib
/-! ### bytes below 128, none of which is nought -/
def low (c : UInt8) : Prop := 0 < c.toNat ∧ c.toNat < 128
theorem dec_low {c : UInt8} (t : List UInt8) (h : low c) : decodeL (c :: t) = (c.toNat, 1) := (dec_head c t).2.2 h.2
theorem wr_low : ∀ (s : List UInt8) (i : Nat), (∀ c ∈ s, low c) → wrR s i = -1
  | [], i, _ => wrR_nil i
  | c :: t, i, h => by
    have hc := h c (by simp)
    rw [wrR_step _ _ (by simp), dec_low t hc, if_neg]
    · exact wr_low t (i + 1) (fun d hd => h d (by simp [hd]))
    · have h1 := hc.1
      have h2 := hc.2
      rintro (x | x | x)
      · simp only at x; omega
      · injection x with x1 x2; omega
      · have := x.1; simp only at this; omega
theorem wrong_low {s : List UInt8} (h : ∀ c ∈ s, low c) : wrongP s = -1 := wr_low s 0 h
/-! ### a step over the whole -/
theorem run_one {s : List UInt8} {t : Tok} (hs : s ≠ []) (hl : s.length ≤ 65536) (hw : wrongP s < 0) (hst : stepP s 0 [] [] = some (s.length, [t], [])) (he : endsT t = true) :
    scanR s = .good [t, ⟨6, [10], s.length⟩] [] := by
  have hp : 0 < s.length := List.length_pos_iff.2 hs
  unfold scanR runR
  rw [if_neg (by omega), if_neg (by omega), runP_step hp (by omega), hst]
  simp only
  rw [runP_end (Nat.le_refl _)]
  simp only
  unfold lineP endsP
  simp [he]
/-! ### numbers -/
theorem id_dig {c d : Nat} (h : digN c = some d) : letterB c = true ∨ figB c = true := by
  unfold digN at h
  unfold letterB figB
  split at h
  · right; simp; omega
  · split at h
    · left; simp; omega
    · split at h
      · left; simp; omega
      · cases h
theorem id_digs {r : Nat} : ∀ (s : List UInt8) (line : Bool) (ds : List Nat), digsP r line s = some ds → ∀ c ∈ s, idB c = true
  | [], _, _, _, c, hc => by cases hc
  | c :: t, line, ds, h, x, hx => by
    unfold digsP at h
    split at h
    · rename_i e
      rcases List.mem_cons.1 hx with rfl | hx
      · rw [e.1]; decide
      · exact id_digs t _ _ h x hx
    · split at h
      · cases h
      · rename_i d hd
        split at h
        · cases h
        · obtain ⟨ds', h', _⟩ := Option.map_eq_some_iff.1 h
          rcases List.mem_cons.1 hx with rfl | hx
          · unfold idB; rcases id_dig hd with e | e <;> simp [e]
          · exact id_digs t _ _ h' x hx
theorem dig_fig {r : Nat} {c : UInt8} {t : List UInt8} {ds : List Nat} (hr : r ≤ 10) (hc : c ≠ 95) (h : digsP r false (c :: t) = some ds) : figB c.toNat = true := by
  unfold digsP at h
  rw [if_neg (fun e => hc e.1)] at h
  split at h
  · cases h
  · rename_i d hd
    split at h
    · cases h
    · unfold digN at hd
      unfold figB
      split at hd
      · simp; omega
      · split at hd
        · injection hd; omega
        · split at hd
          · injection hd; omega
          · cases hd
theorem num_ids {s : List UInt8} (h : (numP s).2 = 0) : ∃ c t, s = c :: t ∧ figB c.toNat = true ∧ ∀ x ∈ s, idB x = true := by
  obtain ⟨_, h2, ds, hd, hn, _⟩ := num_ok h
  cases s with
  | nil =>
    have e : digsP (baseP []).1 false (baseP []).2 = some [] := rfl
    rw [e] at hd
    injection hd with hd
    subst hd
    exact absurd rfl hn
  | cons c t =>
    refine ⟨c, t, rfl, ?_⟩
    by_cases hb : (c :: t).length < 2 ∨ (c :: t).head? ≠ some 48
    · have e : baseP (c :: t) = (10, c :: t) := by unfold baseP; rw [if_pos hb]
      rw [e] at hd h2
      have h95 : c ≠ 95 := fun q => h2 ⟨rfl, .inr (by rw [q]; rfl)⟩
      exact ⟨dig_fig (Nat.le_refl _) h95 hd, id_digs _ _ _ hd⟩
    · have hc : c = 48 := by
        by_cases q : c = 48
        · exact q
        · exact absurd (.inr (by simpa using q)) hb
      have hl : 2 ≤ (c :: t).length := by
        by_cases q : (c :: t).length < 2
        · exact absurd (.inl q) hb
        · omega
      subst hc
      refine ⟨by decide, ?_⟩
      cases t with
      | nil => simp at hl
      | cons p u =>
        have h0 : idB 48 = true := by decide
        have key : ∀ q, baseP (48 :: p :: u) = q → (q.2 = u ∧ idB p = true) ∨ q.2 = p :: u := by
          rintro q rfl
          unfold baseP
          rw [if_neg hb]
          show ((if p = 120 ∨ p = 88 then (16, u) else if p = 98 ∨ p = 66 then (2, u) else if p = 111 ∨ p = 79 then (8, u) else (8, p :: u)) : Nat × List UInt8).2 = u ∧ _ ∨ ((if p = 120 ∨ p = 88 then (16, u) else if p = 98 ∨ p = 66 then (2, u) else if p = 111 ∨ p = 79 then (8, u) else (8, p :: u)) : Nat × List UInt8).2 = p :: u
          split
          · rename_i e; left; exact ⟨rfl, by rcases e with rfl | rfl <;> decide⟩
          · split
            · rename_i e; left; exact ⟨rfl, by rcases e with rfl | rfl <;> decide⟩
            · split
              · rename_i e; left; exact ⟨rfl, by rcases e with rfl | rfl <;> decide⟩
              · right; rfl
        have hid := id_digs _ _ _ hd
        intro x hx
        rcases List.mem_cons.1 hx with rfl | hx
        · exact h0
        · rcases key _ rfl with ⟨e, hp⟩ | e
          · rw [e] at hid
            rcases List.mem_cons.1 hx with rfl | hx
            · exact hp
            · exact hid x hx
          · rw [e] at hid
            exact hid x hx
theorem id_low {c : UInt8} (h : idB c = true) : low c := by
  unfold idB letterB figB at h
  unfold low
  simp at h
  omega
theorem takeWhile_all {p : UInt8 → Bool} : ∀ (s : List UInt8), (∀ c ∈ s, p c = true) → s.takeWhile p = s
  | [], _ => rfl
  | c :: t, h => by rw [List.takeWhile_cons, if_pos (h c (by simp)), takeWhile_all t (fun d hd => h d (by simp [hd]))]
theorem note_not {c : UInt8} {t : List UInt8} (h : c ≠ 47) : noteP (c :: t) = .none := by
  unfold noteP
  have e : ∀ x, (c :: t).take 2 ≠ [47, x] := fun x e => by cases t <;> simp at e; exact h e.1
  rw [if_neg (e 47), if_neg (e 42)]
theorem num_scan {s : List UInt8} (h : (numP s).2 = 0) (hl : s.length ≤ 65536) : scanR s = .good [⟨4, s, 0⟩, ⟨6, [10], s.length⟩] [] := by
  obtain ⟨c, t, hsc, hf, hid⟩ := num_ids h
  have hne : s ≠ [] := by rw [hsc]; simp
  have hfn : 48 ≤ c.toNat ∧ c.toNat ≤ 57 := by unfold figB at hf; simp at hf; exact hf
  have n : ∀ k : UInt8, (k.toNat < 48 ∨ 57 < k.toNat) → c ≠ k := fun k hk e => by rw [e] at hfn; omega
  have hlen : idLen s = s.length := by unfold idLen; rw [takeWhile_all s hid]
  refine run_one hne hl (by rw [wrong_low (fun x hx => id_low (hid x hx))]; omega) ?_ (by rfl)
  have hlet : letterB c.toNat = false := by unfold letterB; simp; omega
  unfold stepP
  simp only [List.drop_zero]
  have hn : noteP s = .none := by rw [hsc]; exact note_not (n 47 (by decide))
  have hh : s.head? = some c := by rw [hsc]; rfl
  rw [hh]
  simp only
  rw [if_neg, if_neg (n 10 (by decide)), if_neg, hn]
  · simp only
    rw [if_neg (by rw [hlet]; decide), if_pos hf, hlen, List.take_length]
    simp
  · rintro (e | e | e)
    · exact n 32 (by decide) e
    · exact n 9 (by decide) e
    · exact n 13 (by decide) e
  · rintro ⟨_, e⟩
    rw [hsc] at e
    simp at e
    exact n 239 (by decide) e.1
/-! ### texts -/
theorem dig_calm {c : UInt8} {d : Nat} (h : digN c.toNat = some d) : c ≠ 34 ∧ c ≠ 92 ∧ c ≠ 10 := by
  refine ⟨?_, ?_, ?_⟩
  all_goals
    rintro rfl
    cases h
theorem valL_calm {r : Nat} : ∀ (s : List UInt8) (v x : Nat), valL r v s = some x → ∀ c ∈ s, c ≠ 34 ∧ c ≠ 92 ∧ c ≠ 10
  | [], _, _, _, c, hc => by cases hc
  | c :: t, v, x, h, y, hy => by
    unfold valL at h
    split at h
    · cases h
    · rename_i d hd
      split at h
      · cases h
      · rcases List.mem_cons.1 hy with rfl | hy
        · exact dig_calm hd
        · exact valL_calm t _ _ h y hy
theorem digits_calm {r n v : Nat} {s : List UInt8} (h : digitsP r n s = some v) : ∀ c ∈ s.take n, c ≠ 34 ∧ c ≠ 92 ∧ c ≠ 10 := by
  unfold digitsP at h
  split at h
  · exact valL_calm _ _ _ h
  · cases h
/-- What a part is: a first byte that ends no line, and calm bytes behind it. -/
theorem part_calm {t o : List UInt8} {n : Nat} (h : partP t = some (o, n)) : ∃ d u, t = d :: u ∧ d ≠ 10 ∧ 1 ≤ n ∧ n - 1 ≤ u.length ∧ ∀ c ∈ u.take (n - 1), c ≠ 34 ∧ c ≠ 92 ∧ c ≠ 10 := by
  have hle := partP_le h
  cases t with
  | nil => cases h
  | cons c u =>
    have hlen : n - 1 ≤ u.length := by have := hle.2; simp at this; omega
    refine ⟨c, u, rfl, ?_, hle.1, hlen, ?_⟩
    · rintro rfl
      rw [partP_cons] at h
      rw [show singleP (10 : UInt8).toNat = none from rfl] at h
      simp only at h
      rw [if_neg (by decide), if_neg (by decide)] at h
      split at h
      · cases h
      · rename_i v hv
        have := digits_calm hv 10 (by simp)
        exact this.2.2 rfl
    · rw [partP_cons] at h
      split at h
      · simp at h; rw [← h.2]; simp
      · split at h
        · cases hd : digitsP 16 2 u with
          | none => rw [hd] at h; cases h
          | some v =>
            rw [hd] at h
            simp at h
            rw [← h.2]
            exact digits_calm hd
        · split at h
          · split at h
            · cases h
            · rename_i v hd
              split at h
              · simp at h
                rw [← h.2]
                exact digits_calm hd
              · cases h
          · split at h
            · cases h
            · rename_i v hd
              split at h
              · simp at h
                rw [← h.2]
                have := digits_calm hd
                intro x hx
                exact this x (by simp at hx ⊢; exact .inr hx)
              · cases h
theorem quo_calm {c : UInt8} (h : c ≠ 34 ∧ c ≠ 92 ∧ c ≠ 10) (t : List UInt8) : quo 34 false (c :: t) = (quo 34 false t).map (· + 1) := by
  conv => lhs; unfold quo
  rw [if_neg (fun e => h.2.1 e.1), if_neg h.1, if_neg (fun e => h.2.2 e.1)]
theorem quo_calms : ∀ (k : Nat) (s : List UInt8), k ≤ s.length → (∀ c ∈ s.take k, c ≠ 34 ∧ c ≠ 92 ∧ c ≠ 10) → quo 34 false s = (quo 34 false (s.drop k)).map (· + k)
  | 0, s, _, _ => by simp
  | k + 1, [], h, _ => by simp at h
  | k + 1, c :: t, h, hc => by
    rw [quo_calm (hc c (by simp)), quo_calms k t (by simp at h; omega) (fun d hd => hc d (by simp [hd])), Option.map_map, List.drop_succ_cons]
    congr 1
theorem quo_unq : ∀ (f : Nat) (q o : List UInt8), q.length ≤ f → unq q = some o → quo 34 false (q ++ [34]) = some (q.length + 1)
  | 0, q, o, hf, h => by
    have : q = [] := List.eq_nil_of_length_eq_zero (by omega)
    subst this
    rfl
  | f + 1, [], o, _, _ => rfl
  | f + 1, c :: t, o, hf, h => by
    rw [unq_cons] at h
    by_cases h92 : c = 92
    · rw [if_pos h92] at h
      subst h92
      cases hp : partP t with
      | none => rw [hp] at h; cases h
      | some x =>
        obtain ⟨o1, n⟩ := x
        rw [hp] at h
        simp only at h
        obtain ⟨o2, h2, _⟩ := Option.map_eq_some_iff.1 h
        obtain ⟨d, u, rfl, hd, hn, hu, hc⟩ := part_calm hp
        have e : n = (n - 1) + 1 := by omega
        rw [e, List.drop_succ_cons] at h2
        have ih := quo_unq f (u.drop (n - 1)) o2 (by simp at hf; rw [List.length_drop]; omega) h2
        show quo 34 false (92 :: (d :: (u ++ [34]))) = _
        conv => lhs; unfold quo
        rw [if_pos ⟨rfl, rfl⟩]
        conv => lhs; unfold quo
        rw [if_neg hd, quo_calms (n - 1) (u ++ [34]) (by simp; omega) (by rw [List.take_append_of_le_length hu]; exact hc), List.drop_append_of_le_length hu, ih]
        simp
        omega
    · rw [if_neg h92] at h
      by_cases hb : c = 34 ∨ c = 10
      · rw [if_pos hb] at h; cases h
      · rw [if_neg hb] at h
        obtain ⟨o2, h2, _⟩ := Option.map_eq_some_iff.1 h
        show quo 34 false (c :: (t ++ [34])) = _
        rw [quo_calm ⟨fun e => hb (.inl e), h92, fun e => hb (.inr e)⟩, quo_unq f t o2 (by simp at hf; omega) h2]
        rfl
theorem quo_tick : ∀ (q : List UInt8), 96 ∉ q → quo 96 false (q ++ [96]) = some (q.length + 1)
  | [], _ => rfl
  | c :: t, h => by
    have hc : c ≠ 96 := fun e => h (by simp [e])
    show quo 96 false (c :: (t ++ [96])) = _
    conv => lhs; unfold quo
    rw [if_neg (fun e => absurd e.2 (by decide)), if_neg hc, if_neg (fun e => e.2 rfl), quo_tick t (fun e => h (by simp [e]))]
    rfl
/-- A text between its two signs. -/
theorem ends_of {s : List UInt8} {c : UInt8} (h2 : 2 ≤ s.length) (hh : s.head? = some c) (hl : s.head? = s.getLast?) : s = c :: (innerP s ++ [c]) := by
  cases s with
  | nil => simp at h2
  | cons a t =>
    simp at hh
    subst hh
    have ht : t ≠ [] := by intro e; subst e; simp at h2
    have hg : t.getLast? = some a := by
      rw [List.getLast?_cons, List.head?_cons] at hl
      cases hq : t.getLast? with
      | none => exact absurd (List.getLast?_eq_none_iff.1 hq) ht
      | some z => rw [hq] at hl; simp at hl; rw [hl]
    obtain ⟨ys, rfl⟩ := List.getLast?_eq_some_iff.1 hg
    have e2 : innerP (a :: (ys ++ [a])) = ys := by
      unfold innerP
      simp
    rw [e2]
theorem text_ok {s : List UInt8} (h : (textP s).2 = 0) : s.length ≤ 65536 ∧ wrongP s < 0 ∧ ∃ c, (c = 34 ∨ c = 96) ∧ s = c :: (innerP s ++ [c]) ∧ quo c false (innerP s ++ [c]) = some ((innerP s).length + 1) := by
  unfold textP at h
  split at h
  · cases h
  · rename_i hl
    split at h
    · rename_i hq
      refine ⟨by omega, hq.2.2, ?_⟩
      split at h
      · rename_i h34
        split at h
        · cases h
        · rename_i o ho
          exact ⟨34, .inl rfl, ends_of hq.1 h34 hq.2.1, quo_unq _ _ o (Nat.le_refl _) ho⟩
      · split at h
        · rename_i h96
          split at h
          · cases h
          · rename_i hm
            exact ⟨96, .inr rfl, ends_of hq.1 h96 hq.2.1, quo_tick _ hm⟩
        · cases h
    · cases h
theorem text_scan {s : List UInt8} (h : (textP s).2 = 0) : scanR s = .good [⟨5, s, 0⟩, ⟨6, [10], s.length⟩] [] := by
  obtain ⟨hl, hw, c, hc, hs, hq⟩ := text_ok h
  have hne : s ≠ [] := by rw [hs]; simp
  have hlen : s.length = (innerP s).length + 2 := by
    have := congrArg List.length hs
    simp at this
    exact this
  refine run_one hne hl hw ?_ (by rfl)
  have hh : s.head? = some c := by rw [hs]; rfl
  have htl : s.tail = innerP s ++ [c] := by
    conv => lhs; rw [hs]
    rfl
  have hn : noteP s = .none := by rw [hs]; exact note_not (by rcases hc with rfl | rfl <;> decide)
  unfold stepP
  simp only [List.drop_zero]
  rw [hh]
  simp only
  rw [if_neg, if_neg (by rcases hc with rfl | rfl <;> decide), if_neg (by rcases hc with rfl | rfl <;> decide), hn]
  · simp only
    rw [if_neg (by rcases hc with rfl | rfl <;> decide), if_neg (by rcases hc with rfl | rfl <;> decide), if_pos hc, htl, hq]
    simp only
    rw [List.take_of_length_le (by omega), hlen, show 0 + 1 + ((innerP s).length + 1) = (innerP s).length + 2 by omega]
    rfl
  · rintro ⟨_, e⟩
    rw [hs] at e
    simp at e
    rcases hc with rfl | rfl
    · exact absurd e.1 (by decide)
    · exact absurd e.1 (by decide)
/-! ### a text written plainly -/
theorem hexd_fact : ∀ q, q < 16 → digN (hexd q).toNat = some q ∧ 0 < (hexd q).toNat ∧ (hexd q).toNat < 128 := by decide
theorem quote_low (c : UInt8) : ∀ x ∈ quoteB c, low x := by
  intro x hx
  unfold quoteB at hx
  unfold low
  have hc := c.toNat_lt
  split at hx
  · rename_i e
    simp at hx
    rcases hx with rfl | rfl
    · decide
    · rcases e with rfl | rfl <;> decide
  · split at hx
    · simp at hx; rcases hx with rfl | rfl <;> decide
    · split at hx
      · simp at hx; rcases hx with rfl | rfl <;> decide
      · split at hx
        · simp at hx; subst hx; omega
        · simp at hx
          rcases hx with rfl | rfl | rfl | rfl
          · decide
          · decide
          · exact (hexd_fact _ (by omega)).2
          · exact (hexd_fact _ (by omega)).2
theorem unq_quote (c : UInt8) (r : List UInt8) : unq (quoteB c ++ r) = (unq r).map (c :: ·) := by
  have hc := c.toNat_lt
  unfold quoteB
  split
  · rename_i e
    show unq (92 :: c :: r) = _
    rw [unq_cons, if_pos rfl, partP_cons]
    rcases e with rfl | rfl
    · rw [show singleP (34 : UInt8).toNat = some 34 from rfl]; rfl
    · rw [show singleP (92 : UInt8).toNat = some 92 from rfl]; rfl
  · rename_i e1
    split
    · rename_i e; subst e
      show unq (92 :: 110 :: r) = _
      rw [unq_cons, if_pos rfl, partP_cons, show singleP (110 : UInt8).toNat = some 10 from rfl]; rfl
    · rename_i e2
      split
      · rename_i e; subst e
        show unq (92 :: 116 :: r) = _
        rw [unq_cons, if_pos rfl, partP_cons, show singleP (116 : UInt8).toNat = some 9 from rfl]; rfl
      · split
        · show unq (c :: r) = _
          rw [unq_cons, if_neg (fun e => e1 (.inr e)), if_neg (by rintro (e | e); exact e1 (.inl e); exact e2 e)]
        · show unq (92 :: 120 :: hexd (c.toNat / 16) :: hexd (c.toNat % 16) :: r) = _
          have f1 := (hexd_fact (c.toNat / 16) (by omega)).1
          have f2 := (hexd_fact (c.toNat % 16) (by omega)).1
          have hd : digitsP 16 2 (hexd (c.toNat / 16) :: hexd (c.toNat % 16) :: r) = some c.toNat := by
            unfold digitsP
            rw [if_pos (by simp)]
            show valL 16 0 [hexd (c.toNat / 16), hexd (c.toNat % 16)] = _
            simp only [valL, f1, f2]
            rw [if_neg (by omega), if_neg (by omega)]
            congr 1
            omega
          rw [unq_cons, if_pos rfl, partP_cons, show singleP (120 : UInt8).toNat = none from rfl]
          simp only [if_true]
          rw [hd]
          simp
theorem unq_quotes : ∀ s : List UInt8, unq (s.flatMap quoteB) = some s
  | [] => rfl
  | c :: t => by rw [List.flatMap_cons, unq_quote, unq_quotes t]; rfl
theorem text_quote (s : List UInt8) (h : s.length ≤ 16000) : textP (quoteP s) = (s, 0) := by
  have hl := quoteP_len s
  have hi : innerP (quoteP s) = s.flatMap quoteB := by
    unfold innerP quoteP
    simp
  have hw : wrongP (quoteP s) = -1 := wrong_low fun x hx => by
    unfold quoteP at hx
    rcases List.mem_cons.1 hx with rfl | hx
    · exact ⟨by decide, by decide⟩
    · rcases List.mem_append.1 hx with hx | hx
      · obtain ⟨c, _, hc⟩ := List.mem_flatMap.1 hx
        exact quote_low c x hc
      · simp at hx; subst hx; exact ⟨by decide, by decide⟩
  have hh : (quoteP s).head? = some 34 := rfl
  have hg : (quoteP s).getLast? = some 34 := by
    unfold quoteP
    rw [← List.cons_append, List.getLast?_append]
    rfl
  unfold textP
  rw [if_neg (by omega), if_pos ⟨hl.1, by rw [hh, hg], by rw [hw]; omega⟩, if_pos hh, hi]
  show (match unq (s.flatMap quoteB) with
    | none => ([], 4)
    | some o => (o, 0)) = _
  rw [unq_quotes]
end Go.Proofs.YtielcpnalepkfaaDoor
