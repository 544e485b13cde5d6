/-
  Layer 2 (token), plain: the cases of one step; what holds of every token. No Go in sight.
-/
import Derived.Test.YtokjnalmjdighaaDoorTokTop
namespace Go.Proofs.YtokjnalmjdighaaDoor
open Go.Lib
/-- One step, case by case. -/
inductive Stp (s : List UInt8) (k : Nat) (l n : List Tok) : Nat → List Tok → List Tok → Prop
  | bom (h0 : k = 0) (h : (s.drop k).take 3 = [239, 187, 191]) : Stp s k l n 3 l n
  | nl (h : (s.drop k).head? = some 10) : Stp s k l n (k + 1) (lineP l k) n
  | blank (c : UInt8) (hc : c = 32 ∨ c = 9 ∨ c = 13) (h : (s.drop k).head? = some c) : Stp s k l n (k + 1) l n
  | note (m : Nat) (h : noteP (s.drop k) = .len m) : Stp s k l n (k + m) (if 10 ∈ (s.drop k).take m then lineP l k else l) (n ++ [⟨0, (s.drop k).take m, k⟩])
  | name (c : UInt8) (h : (s.drop k).head? = some c) (hc : letterB c.toNat = true) : Stp s k l n (k + idLen (s.drop k)) (l ++ [⟨1 + wordK ((s.drop k).take (idLen (s.drop k))), (s.drop k).take (idLen (s.drop k)), k⟩]) n
  | num (c : UInt8) (h : (s.drop k).head? = some c) (hc : figB c.toNat = true) : Stp s k l n (k + idLen (s.drop k)) (l ++ [⟨4, (s.drop k).take (idLen (s.drop k)), k⟩]) n
  | quote (c : UInt8) (m : Nat) (h : (s.drop k).head? = some c) (hc : c = 34 ∨ c = 96) (hq : quo c false (s.drop k).tail = some m) : Stp s k l n (k + 1 + m) (l ++ [⟨5, (s.drop k).take (m + 1), k⟩]) n
  | sign (h : signP (s.drop k) ≠ 0) (hn : noteP (s.drop k) = .none) : Stp s k l n (k + signP (s.drop k)) (l ++ [⟨6, (s.drop k).take (signP (s.drop k)), k⟩]) n
theorem stp_of {s : List UInt8} {k : Nat} {l n l' n' : List Tok} {k' : Nat} (h : stepP s k l n = some (k', l', n')) : Stp s k l n k' l' n' := by
  unfold stepP at h
  simp only at h
  cases hr : (s.drop k).head? with
  | none => rw [hr] at h; simp at h
  | some c =>
    rw [hr] at h
    simp only at h
    split at h
    · rename_i e; simp at h; obtain ⟨rfl, rfl, rfl⟩ := h; exact .bom e.1 e.2
    · split at h
      · rename_i e; subst e; simp at h; obtain ⟨rfl, rfl, rfl⟩ := h; exact .nl hr
      · split at h
        · rename_i e; simp at h; obtain ⟨rfl, rfl, rfl⟩ := h; exact .blank c e hr
        · split at h
          · cases h
          · rename_i m hm
            simp only [Option.some.injEq, Prod.mk.injEq] at h
            obtain ⟨rfl, rfl, rfl⟩ := h
            exact .note m hm
          · rename_i hn
            split at h
            · rename_i hc
              simp only [Option.some.injEq, Prod.mk.injEq] at h
              obtain ⟨rfl, rfl, rfl⟩ := h
              exact .name c hr hc
            · split at h
              · rename_i hc
                simp only [Option.some.injEq, Prod.mk.injEq] at h
                obtain ⟨rfl, rfl, rfl⟩ := h
                exact .num c hr hc
              · split at h
                · rename_i hc
                  split at h
                  · cases h
                  · rename_i m hm
                    simp only [Option.some.injEq, Prod.mk.injEq] at h
                    obtain ⟨rfl, rfl, rfl⟩ := h
                    exact .quote c m hr hc hm
                · split at h
                  · cases h
                  · rename_i hsg
                    simp only [Option.some.injEq, Prod.mk.injEq] at h
                    obtain ⟨rfl, rfl, rfl⟩ := h
                    exact .sign hsg hn
/-- What holds at the start and goes through a step holds at the end. -/
theorem runP_ind {s : List UInt8} (Q : Nat → List Tok → List Tok → Prop) (hs : ∀ k l n k' l' n', k < s.length → Q k l n → Stp s k l n k' l' n' → k' ≤ s.length → Q k' l' n') :
    ∀ (f k : Nat) (l n l2 n2 : List Tok), s.length - k ≤ f → k ≤ s.length → Q k l n → runP s f k l n = .ok (l2, n2) → ∃ l1, Q s.length l1 n2 ∧ l2 = lineP l1 s.length
  | 0, k, l, n, l2, n2, hf, hk, hQ, h => by
    obtain rfl : k = s.length := by omega
    simp [runP] at h
    obtain ⟨rfl, rfl⟩ := h
    exact ⟨l, hQ, rfl⟩
  | f + 1, k, l, n, l2, n2, hf, hk, hQ, h => by
    unfold runP at h
    split at h
    · obtain rfl : k = s.length := by omega
      simp at h
      obtain ⟨rfl, rfl⟩ := h
      exact ⟨l, hQ, rfl⟩
    · split at h
      · cases h
      · rename_i k' l' n' hst
        have hle := stepP_le hst
        exact runP_ind Q hs f k' l' n' l2 n2 (by omega) hle.2 (hs k l n k' l' n' (by omega) hQ (stp_of hst) hle.2) h
theorem scanR_ind {s : List UInt8} (Q : Nat → List Tok → List Tok → Prop) (h0 : Q 0 [] []) (hs : ∀ k l n k' l' n', k < s.length → Q k l n → Stp s k l n k' l' n' → k' ≤ s.length → Q k' l' n') {l n : List Tok} (h : scanR s = .good l n) :
    ∃ l1, Q s.length l1 n ∧ l = lineP l1 s.length := by
  unfold scanR at h
  split at h
  · cases h
  · split at h
    · cases h
    · unfold runR at h
      split at h
      · cases h
      · rename_i l' n' hr
        injection h with h1 h2
        subst h1 h2
        exact runP_ind Q hs s.length 0 [] [] _ _ (by omega) (by omega) h0 hr
theorem stp_le {s : List UInt8} {k : Nat} {l n l' n' : List Tok} {k' : Nat} (h : Stp s k l n k' l' n') : k < k' := by
  cases h with
  | bom h0 _ => omega
  | nl _ => omega
  | blank _ _ _ => omega
  | note m h => have := (noteP_le h).1; omega
  | name c h hc =>
    cases hr : s.drop k with
    | nil => rw [hr] at h; cases h
    | cons d t => rw [hr] at h; simp at h; subst h; have := idLen_pos (c := d) (t := t) (by unfold idB; rw [hc]; rfl); omega
  | num c h hc =>
    cases hr : s.drop k with
    | nil => rw [hr] at h; cases h
    | cons d t => rw [hr] at h; simp at h; subst h; have := idLen_pos (c := d) (t := t) (by unfold idB; rw [hc]; simp); omega
  | quote _ m _ _ hq => omega
  | sign h _ => omega
theorem Inv.stp {s : List UInt8} {k : Nat} {l n l' n' : List Tok} {k' : Nat} (hk : k < s.length) (I : Inv s k l n) (h : Stp s k l n k' l' n') : Inv s k' l' n' := by
  have hlt := stp_le h
  have hs1 : 1 ≤ s.length := by omega
  obtain ⟨ll, nl, good, short⟩ := I
  have snoc : ∀ x : Tok, Good x → x.text.length ≤ s.length → Inv s k' (l ++ [x]) n := fun x hg hx =>
    ⟨by rw [List.length_append, List.length_singleton]; omega, by omega, snoc_all good hg, snoc_all short hx⟩
  have lin : Inv s k' (lineP l k) n := ⟨by have := lineP_len' l k; omega, by omega, lineP_all good (good_line k), lineP_all short (by simpa using hs1)⟩
  cases h with
  | bom _ _ => exact ⟨by omega, by omega, good, short⟩
  | nl _ => exact lin
  | blank _ _ _ => exact ⟨by omega, by omega, good, short⟩
  | note m h =>
    split
    · exact ⟨lin.ll, by rw [List.length_append, List.length_singleton]; omega, lin.good, lin.short⟩
    · exact ⟨by omega, by rw [List.length_append, List.length_singleton]; omega, good, short⟩
  | name c h hc =>
    refine snoc _ ?_ sub_len
    have := wordK_le ((s.drop k).take (idLen (s.drop k)))
    exact ⟨by simp only; omega, fun e => by simp only at e; omega, by simp only; omega⟩
  | num c h hc => exact snoc _ ⟨by simp, fun e => by simp at e, by simp⟩ sub_len
  | quote c m h hc hq => exact snoc _ ⟨by simp, fun e => by simp at e, by simp⟩ sub_len
  | sign h hn => exact snoc _ ⟨by simp, fun _ => signP_mem _ h, by simp⟩ sub_len
/-! ### the kinds -/
/-- What a token's text is, by its kind. -/
structure KindT (t : Tok) : Prop where
  lo : 1 ≤ t.kind
  hi : t.kind ≤ 6
  name : nameB t.text = decide (t.kind = 1)
  w1 : wordK t.text = 1 ↔ t.kind = 2
  w2 : wordK t.text = 2 ↔ t.kind = 3
  num : t.kind = 4 → ∃ c u, t.text = c :: u ∧ figB c.toNat = true
  quote : t.kind = 5 → ∃ c u, t.text = c :: u ∧ (c = 34 ∨ c = 96)
  sign : t.kind = 6 → t.text ∈ [10] :: (signs3 ++ signs2 ++ signs1)
theorem words_head : ∀ t ∈ words1 ++ words2, ∃ c u, t = c :: u ∧ letterB c.toNat = true := by
  intro t ht
  have : ∀ t ∈ words1 ++ words2, (match t with | [] => false | c :: _ => letterB c.toNat) = true := by decide
  have h := this t ht
  cases t with
  | nil => cases h
  | cons c u => exact ⟨c, u, rfl, h⟩
theorem wordK_zero {c : UInt8} {u : List UInt8} (h : letterB c.toNat = false) : wordK (c :: u) = 0 := by
  have n : c :: u ∉ words1 ++ words2 := fun hm => by
    obtain ⟨d, v, e, hd⟩ := words_head _ hm
    injection e with e1 e2
    rw [e1, hd] at h
    cases h
  rw [List.mem_append, not_or] at n
  unfold wordK
  rw [if_neg n.1, if_neg n.2]
theorem let_fig {c : Nat} (h : letterB c = true) : figB c = false := by
  unfold letterB at h; unfold figB
  simp at h ⊢
  omega
theorem fig_let {c : Nat} (h : figB c = true) : letterB c = false := by
  cases e : letterB c with
  | false => rfl
  | true => rw [let_fig e] at h; cases h
theorem head_cons {r : List UInt8} {c : UInt8} (h : r.head? = some c) : ∃ t, r = c :: t := by
  cases r with
  | nil => cases h
  | cons d t => simp at h; exact ⟨t, by rw [h]⟩
theorem take_idLen (r : List UInt8) : r.take (idLen r) = r.takeWhile idB := by
  unfold idLen
  induction r with
  | nil => rfl
  | cons c t ih =>
    rw [List.takeWhile_cons]
    split
    · simp [ih]
    · simp
theorem tw_all : ∀ r : List UInt8, (r.takeWhile idB).all idB = true
  | [] => rfl
  | c :: t => by
    rw [List.takeWhile_cons]
    split
    · rename_i h; rw [List.all_cons, h, tw_all t]; rfl
    · rfl
theorem tw_cons {c : UInt8} {t : List UInt8} (h : idB c = true) : (c :: t).takeWhile idB = c :: t.takeWhile idB := by rw [List.takeWhile_cons, h]; rfl
theorem sign_facts : ∀ t ∈ [10] :: (signs3 ++ signs2 ++ signs1), nameB t = false ∧ wordK t = 0 := by decide +kernel
theorem KindT.ofSign {t : List UInt8} {p : Nat} (h : t ∈ [10] :: (signs3 ++ signs2 ++ signs1)) : KindT ⟨6, t, p⟩ := by
  have f := sign_facts t h
  exact ⟨by simp, by simp, by simp [f.1], by simp [f.2], by simp [f.2], (fun e => by simp at e), (fun e => by simp at e), fun _ => h⟩
theorem KindT.line (p : Nat) : KindT ⟨6, [10], p⟩ := KindT.ofSign (by simp)
theorem KindT.step {s : List UInt8} {k : Nat} {l n l' n' : List Tok} {k' : Nat} (hl : ∀ t ∈ l, KindT t) (h : Stp s k l n k' l' n') : ∀ t ∈ l', KindT t := by
  cases h with
  | bom _ _ => exact hl
  | nl _ => exact lineP_all hl (KindT.line k)
  | blank _ _ _ => exact hl
  | note m _ =>
    split
    · exact lineP_all hl (KindT.line k)
    · exact hl
  | name c hd hc =>
    refine snoc_all hl ?_
    obtain ⟨t, ht⟩ := head_cons hd
    have hid : idB c = true := by unfold idB; rw [hc]; rfl
    rw [take_idLen, ht, tw_cons hid]
    have hw := wordK_le (c :: t.takeWhile idB)
    have ha : (c :: t.takeWhile idB).all idB = true := by rw [← tw_cons hid]; exact tw_all _
    refine ⟨by simp, by simp only; omega, ?_, by simp only; omega, by simp only; omega, (fun e => by simp only at e; omega), (fun e => by simp only at e; omega), (fun e => by simp only at e; omega)⟩
    simp only [nameB, let_fig hc, ha, Bool.not_false, Bool.true_and, Bool.and_true]
    rw [Bool.eq_iff_iff]
    simp only [beq_iff_eq, decide_eq_true_eq]
    omega
  | num c hd hc =>
    refine snoc_all hl ?_
    obtain ⟨t, ht⟩ := head_cons hd
    have hid : idB c = true := by unfold idB; rw [hc]; simp
    rw [take_idLen, ht, tw_cons hid]
    have hw : wordK (c :: t.takeWhile idB) = 0 := wordK_zero (fig_let hc)
    exact ⟨by simp, by simp, by simp [nameB, hc], by simp [hw], by simp [hw], fun _ => ⟨_, _, rfl, hc⟩, (fun e => by simp at e), (fun e => by simp at e)⟩
  | quote c m hd hc hq =>
    refine snoc_all hl ?_
    obtain ⟨t, ht⟩ := head_cons hd
    rw [ht, List.take_succ_cons]
    have hnl : letterB c.toNat = false ∧ idB c = false := by rcases hc with rfl | rfl <;> decide
    have hw : wordK (c :: t.take m) = 0 := wordK_zero hnl.1
    exact ⟨by simp, by simp, by simp [nameB, hnl.2], by simp [hw], by simp [hw], (fun e => by simp at e), fun _ => ⟨_, _, rfl, hc⟩, (fun e => by simp at e)⟩
  | sign hsg hn => exact snoc_all hl (KindT.ofSign (signP_mem _ hsg))
theorem scanR_kinds {s : List UInt8} {l n : List Tok} (h : scanR s = .good l n) : ∀ t ∈ l, KindT t := by
  obtain ⟨l1, h1, rfl⟩ := scanR_ind (fun _ l _ => ∀ t ∈ l, KindT t) (fun t h => by cases h) (fun k l n k' l' n' _ hQ hst _ => KindT.step hQ hst) h
  exact lineP_all h1 (KindT.line _)
/-! ### the lines -/
/-- Behind a line's end that is put in stands what ends a line. -/
def LinesOK (l : List Tok) : Prop := ∀ i (h : i < l.length), l[i].text = [10] → ∃ j, i = j + 1 ∧ ∃ hj : j < l.length, endsT l[j] = true
theorem LinesOK.snoc {l : List Tok} {x : Tok} (h : LinesOK l) (hx : x.text ≠ [10]) : LinesOK (l ++ [x]) := by
  intro i hi ht
  rw [List.length_append, List.length_singleton] at hi
  by_cases e : i < l.length
  · rw [List.getElem_append_left e] at ht
    obtain ⟨j, rfl, hj, hh⟩ := h i e ht
    exact ⟨j, rfl, by rw [List.length_append]; omega, by rw [List.getElem_append_left hj]; exact hh⟩
  · obtain rfl : i = l.length := by omega
    rw [List.getElem_append_right (Nat.le_refl _)] at ht
    simp at ht
    exact absurd ht hx
theorem LinesOK.line {l : List Tok} {p : Nat} (h : LinesOK l) : LinesOK (lineP l p) := by
  unfold lineP
  split
  · rename_i he
    intro i hi ht
    rw [List.length_append, List.length_singleton] at hi
    by_cases e : i < l.length
    · rw [List.getElem_append_left e] at ht
      obtain ⟨j, rfl, hj, hh⟩ := h i e ht
      exact ⟨j, rfl, by rw [List.length_append]; omega, by rw [List.getElem_append_left hj]; exact hh⟩
    · obtain rfl : i = l.length := by omega
      unfold endsP at he
      cases hl : l.getLast? with
      | none => rw [hl] at he; cases he
      | some t =>
        rw [hl] at he
        have hne : l ≠ [] := by intro e; subst e; cases hl
        have hp := List.length_pos_iff.2 hne
        rw [List.getLast?_eq_getElem?] at hl
        have hj : l.length - 1 < l.length := by omega
        rw [List.getElem?_eq_getElem hj] at hl
        injection hl with hl
        refine ⟨l.length - 1, by omega, by rw [List.length_append]; omega, ?_⟩
        rw [List.getElem_append_left hj, hl]
        exact he
  · exact h
theorem sign_ne10 : ∀ t ∈ signs3 ++ signs2 ++ signs1, t ≠ [10] := by decide
theorem signP_mem' (r : List UInt8) (h : signP r ≠ 0) : r.take (signP r) ∈ signs3 ++ signs2 ++ signs1 := by
  unfold signP at h ⊢
  split
  · rename_i e; simp [e.2]
  · split
    · rename_i e; simp [e.2]
    · split
      · rename_i e; simp [e]
      · rename_i h1 h2 h3; simp [h1, h2, h3] at h
theorem LinesOK.step {s : List UInt8} {k : Nat} {l n l' n' : List Tok} {k' : Nat} (hl : LinesOK l) (h : Stp s k l n k' l' n') : LinesOK l' := by
  cases h with
  | bom _ _ => exact hl
  | nl _ => exact hl.line
  | blank _ _ _ => exact hl
  | note m _ =>
    split
    · exact hl.line
    · exact hl
  | name c hd hc =>
    refine hl.snoc ?_
    obtain ⟨t, ht⟩ := head_cons hd
    have hid : idB c = true := by unfold idB; rw [hc]; rfl
    simp only
    rw [take_idLen, ht, tw_cons hid]
    intro e
    injection e with e _
    subst e
    revert hc; decide
  | num c hd hc =>
    refine hl.snoc ?_
    obtain ⟨t, ht⟩ := head_cons hd
    have hid : idB c = true := by unfold idB; rw [hc]; simp
    simp only
    rw [take_idLen, ht, tw_cons hid]
    intro e
    injection e with e _
    subst e
    revert hc; decide
  | quote c m hd hc hq =>
    refine hl.snoc ?_
    obtain ⟨t, ht⟩ := head_cons hd
    simp only
    rw [ht, List.take_succ_cons]
    intro e
    injection e with e _
    subst e
    revert hc; decide
  | sign hsg hn => exact hl.snoc (sign_ne10 _ (signP_mem' _ hsg))
theorem scanR_lines {s : List UInt8} {l n : List Tok} (h : scanR s = .good l n) : LinesOK l ∧ endsP l = false := by
  obtain ⟨l1, h1, rfl⟩ := scanR_ind (fun _ l _ => LinesOK l) (fun i h => by simp at h) (fun k l n k' l' n' _ hQ hst _ => LinesOK.step hQ hst) h
  refine ⟨h1.line, ?_⟩
  unfold lineP
  split
  · simp [endsP, endsT, shuts]
  · rename_i h; simpa using h
end Go.Proofs.YtokjnalmjdighaaDoor
