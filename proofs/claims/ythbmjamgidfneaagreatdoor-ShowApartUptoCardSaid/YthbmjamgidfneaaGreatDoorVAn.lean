import Derived.Test.YthbmjamgidfneaaGreatDoorVAb
import Derived.Test.YthbmjamgidfneaaGreatDoorVAf
import Derived.Test.YthbmjamgidfneaaGreatDoorVAm
set_option maxRecDepth 100000
set_option maxHeartbeats 6400000
namespace Go.Proofs.YthbmjamgidfneaaGreatDoor
open Go.Lib
set_option linter.unusedVariables false
set_option linter.unusedSimpArgs false
theorem typ_nm {f : Nat} {t : Nd} (hk : t.kind = 10) : typF (f + 1) t = if t.kids = [] then t.text else ((t.text ++ [91]) ++ Lib.join (t.kids.map (typF f)) sComma) ++ [93] := by
 rw [typF, if_neg (by omega), if_neg (by omega)]
theorem sig_open (p : Nd → List UInt8) (t : Nd) : ∃ l, sigT p t = 40 :: l := by unfold sigT; exact ⟨_, by rw [List.append_assoc, List.append_assoc]; rfl⟩
theorem func_id (l r : List UInt8) (h : ∃ q, l = 40 :: q) : idR (102 :: 117 :: 110 :: 99 :: l ++ r) = wFunc ∧ idT (102 :: 117 :: 110 :: 99 :: l ++ r) = l ++ r := by
 obtain ⟨q, rfl⟩ := h
 have e : 102 :: 117 :: 110 :: 99 :: (40 :: q) ++ r = [102, 117, 110, 99] ++ (40 :: (q ++ r)) := by simp
 rw [e, idR_app (by decide) (ni_cons (by decide)), idT_app (by decide) (ni_cons (by decide))]
 exact ⟨rfl, rfl⟩
theorem head_app {s r : List UInt8} {c : UInt8} {l : List UInt8} (h : s = c :: l) : (s ++ r).head? = some c := by rw [h]; rfl
theorem e_ty_sl (p : Mo → List UInt8 → Rd) (r : List UInt8) : stepR p .ty (91 :: 93 :: r) = mp (fun x => mkN 11 [] [x]) (p .ty r) := by simp [stepR]
theorem ty_ev : ∀ (f : Nat) (t : Nd), tyF nmB f t = true → ∀ r, FT r → Ev .ty (typF f t ++ r) (strip t) r
 | 0, t, h => by cases h
 | f + 1, t, h => fun r hr => by
  have ih := ty_ev f
  rcases tyF_kind h with hk | hk | hk
  · obtain ⟨h1, h2⟩ := ty_name_parts h hk
    obtain ⟨c, l, hc, hl, hi⟩ := nmB_head h1
    have hid := (nmB_ids h1).1
    have c91 : c ≠ 91 := fun e => by subst e; revert hi; decide
    have nf : t.text ≠ wFunc := nm_not h1 (by decide)
    have ne : t.text ≠ [] := by rw [hc]; simp
    rw [typ_nm hk, strip_eq, hk]
    by_cases e : t.kids = []
    · rw [if_pos e, e]
      refine Ev.of ⟨0, fun n _ => ?_⟩
      rw [e_ty_nm _ _ (by rw [head_app hc]; simp [c91]), idR_app hid hr.ni, idT_app hid hr.ni, if_neg nf, if_neg ne]
      split
      · rename_i q _; exact absurd rfl hr.br
      · rfl
    · obtain ⟨N, h3⟩ := ev_tys (p := typF f) (l := t.kids) (fun x hx r hr => ih x (h2 x hx) r hr) e (93 :: r) rfl
      rw [if_neg e, show t.text ++ [91] ++ Lib.join (t.kids.map (typF f)) sComma ++ [93] ++ r = t.text ++ (91 :: (Lib.join (t.kids.map (typF f)) sComma ++ 93 :: r)) by simp]
      refine Ev.of ⟨N, fun n hn => ?_⟩
      rw [e_ty_nm _ _ (by rw [head_app hc]; simp [c91]), idR_app hid (ni_cons (by decide)), idT_app hid (ni_cons (by decide)), if_neg nf, if_neg ne]
      show (match P n .tys _ with | some (l, 93 :: r') => _ | _ => none) = _
      rw [h3 n hn]
      rfl
  · obtain ⟨_, h2⟩ := ty_slice_parts h hk
    have ht : t.text = [] ∧ ∃ x, t.kids = [x] := by
     rw [tyF, if_neg (by omega), if_pos hk] at h
     obtain ⟨_, h4, h3⟩ := ofB_parts h
     obtain ⟨x, hx, _⟩ := one_kid h3
     exact ⟨h4, x, hx⟩
    obtain ⟨ht, x, hx⟩ := ht
    rw [kid_one hx] at h2
    obtain ⟨N, h3⟩ := ih x h2 r hr
    rw [typ_text11 hk, kid_one hx, strip_eq, hk, ht, hx]
    rw [List.cons_append, List.cons_append]
    refine Ev.of ⟨N, fun n hn => ?_⟩
    rw [e_ty_sl, h3 n hn]
    rfl
  · have h2 := ty_sig_parts h hk
    obtain ⟨N, h3⟩ := ev_sig noT_tx h2 ih (ty_no32 f) (ty_head f) r hr
    rw [typ_text12 h hk]
    obtain ⟨e1, e2⟩ := func_id _ r (sig_open (typF f) t)
    refine Ev.of ⟨N, fun n hn => ?_⟩
    rw [e_ty_nm _ _ (by simp), e1, e2, if_pos rfl]
    exact h3 n hn
mutual
def asEx : Nd → Nd
 | .mk k s l p => if k = 10 then (match l with
  | [] => mkN 18 s []
  | a :: r => mkN 22 [] (mkN 18 s [] :: (asEx a :: asExL r))) else strip (.mk k s l p)
def asExL : List Nd → List Nd
 | [] => []
 | t :: r => asEx t :: asExL r
end
theorem asExL_map : ∀ l : List Nd, asExL l = l.map asEx
 | [] => by rw [asExL]; rfl
 | t :: r => by rw [asExL, asExL_map r]; rfl
theorem asEx_nm {t : Nd} (h : t.kind = 10) : asEx t = if t.kids = [] then mkN 18 t.text [] else mkN 22 [] (mkN 18 t.text [] :: t.kids.map asEx) := by
 cases t with
 | mk k s l p =>
  have h : k = 10 := h
  subst h
  cases l with
  | nil => rw [asEx]; simp [Nd.kids, Nd.text]
  | cons a r => rw [asEx, asExL_map]; simp [Nd.kids, Nd.text]
theorem asEx_other {t : Nd} (h : t.kind ≠ 10) : asEx t = strip t := by
 cases t with
 | mk k s l p =>
  have h : k ≠ 10 := h
  cases l <;> rw [asEx, if_neg (show ¬ k = 10 from h)]
theorem toTyL_map : ∀ l : List Nd, toTyL l = l.map toTy
 | [] => by rw [toTyL]; rfl
 | t :: r => by rw [toTyL, toTyL_map r]; rfl
theorem toTy_asEx : ∀ (f : Nat) (t : Nd), tyF nmB f t = true → toTy (asEx t) = strip t
 | 0, t, h => by cases h
 | f + 1, t, h => by
  have ih := toTy_asEx f
  by_cases hk : t.kind = 10
  · obtain ⟨h1, h2⟩ := ty_name_parts h hk
    rw [asEx_nm hk, strip_eq, hk]
    by_cases e : t.kids = []
    · rw [if_pos e, e]
      unfold mkN
      rw [toTy]
      rfl
    · rw [if_neg e]
      unfold mkN
      rw [toTy, if_neg (by decide), if_pos rfl, toTyL_map, List.map_cons, List.drop_succ_cons, List.drop_zero, List.map_map]
      show Nd.mk 10 t.text (t.kids.map (toTy ∘ asEx)) 0 = _
      congr 1
      exact List.map_congr_left fun x hx => ih x (h2 x hx)
  · rw [asEx_other hk]
    have hk2 : t.kind = 11 ∨ t.kind = 12 := by rcases tyF_kind h with h | h | h; exact absurd h hk; exact .inl h; exact .inr h
    rw [strip_eq]
    generalize t.kids.map strip = l
    cases l <;> rw [toTy, if_neg (by omega), if_neg (by omega)]
structure FU (r : List UInt8) : Prop where
 ni : NI r
 h1 : r.head? ≠ some 40
 h2 : r.head? ≠ some 91
 h3 : r.head? ≠ some 46
 h4 : r.head? ≠ some 123
def CL (r : List UInt8) : Prop := r.head? = some 44 ∨ r.head? = some 41 ∨ r.head? = some 93 ∨ r.head? = some 125
theorem CL.cons {r : List UInt8} (h : CL r) : ∃ c l, r = c :: l ∧ (c = 44 ∨ c = 41 ∨ c = 93 ∨ c = 125) := by
 cases r with
 | nil => simp [CL] at h
 | cons c l =>
  refine ⟨c, l, rfl, ?_⟩
  simpa [CL] using h
theorem fu_cons {c : UInt8} {r : List UInt8} (h : idB c = false ∧ c ≠ 40 ∧ c ≠ 91 ∧ c ≠ 46 ∧ c ≠ 123) : FU (c :: r) :=
 ⟨ni_cons h.1, by simp [h.2.1], by simp [h.2.2.1], by simp [h.2.2.2.1], by simp [h.2.2.2.2]⟩
theorem CL.fu {r : List UInt8} (h : CL r) : FU r := by
 obtain ⟨c, l, rfl, hc⟩ := h.cons
 rcases hc with rfl | rfl | rfl | rfl <;> exact fu_cons (by decide)
theorem CL.ft {r : List UInt8} (h : CL r) : FT r := by
 obtain ⟨c, l, rfl, hc⟩ := h.cons
 rcases hc with rfl | rfl | rfl | rfl <;> exact ft_cons (by decide)
theorem op_no {r : List UInt8} (h : r.head? ≠ some 32) : opAt r = none := by
 unfold opAt
 split
 · exact absurd rfl h
 · rfl
theorem CL.op {r : List UInt8} (h : CL r) : opAt r = none := op_no (by obtain ⟨c, l, rfl, hc⟩ := h.cons; rcases hc with rfl | rfl | rfl | rfl <;> simp)
theorem sf_stop {head : Bool} {deep : Nat} {x : Nd} {r : List UInt8} (h : FU r) : Ev (.sf head deep x) r x r := by
 refine Ev.of ⟨0, fun n _ => ?_⟩
 cases r with
 | nil => rfl
 | cons c l =>
  have h1 := h.h1
  have h2 := h.h2
  have h3 := h.h3
  have h4 := h.h4
  simp only [List.head?_cons, ne_eq, Option.some.injEq] at h1 h2 h3 h4
  unfold stepR
  simp only
  rw [if_neg h1, if_neg h2, if_neg h3, if_neg fun e => h4 e.1]
theorem salet_fig {c : UInt8} (h : letterB c.toNat = true) : figB c.toNat = false := by
 unfold letterB at h
 unfold figB
 simp only [Bool.or_eq_true, Bool.and_eq_true, decide_eq_true_eq, beq_iff_eq] at h
 simp only [Bool.and_eq_false_iff, decide_eq_false_iff_not]
 omega
theorem un_eq (p : Mo → List UInt8 → Rd) (head : Bool) (deep : Nat) (c : UInt8) (r : List UInt8) : stepR p (.un head deep) (c :: r) = (if c = 45 ∨ c = 33 then mp (fun x => mkN 19 [c] [x]) (p (.un head deep) r)
   else if c = 40 then (match p (.ex 1 false deep) r with
    | some (x, 41 :: r') => p (.sf head deep x) r'
    | _ => none)
   else if c = 34 then (match uq r.length r with
    | some (t, r') => p (.sf head deep (mkN 17 t [])) r'
    | none => none)
   else if c = 91 then (match p .ty (c :: r) with
    | some (x, 123 :: r') => (match p (.ars deep) r' with
     | some (l, 125 :: r2) => p (.sf head deep (mkN 24 [] (x :: l.kids))) r2
     | _ => none)
    | some (x, r') => some (x, r')
    | none => none)
   else if figB c.toNat = true then p (.sf head deep (mkN 16 (idR (c :: r)) [])) (idT (c :: r))
   else if letterB c.toNat = true then
    (if idR (c :: r) = wFunc then (match p .sig (idT (c :: r)) with
     | some (g, 32 :: 123 :: r') => (match p (.bl deep) (123 :: r') with
      | some (b, r2) => p (.sf head deep (mkN 25 [] [g, b])) r2
      | none => none)
     | x => x)
    else p (.sf head deep (mkN 18 (idR (c :: r)) [])) (idT (c :: r)))
   else none) := rfl
theorem id_ne {c k : UInt8} (h : idB c = true) (hk : idB k = false) : c ≠ k := fun e => by rw [e, hk] at h; cases h
theorem un_let (p : Mo → List UInt8 → Rd) (head : Bool) (deep : Nat) {c : UInt8} (r : List UInt8) (h : letterB c.toNat = true) (hi : idB c = true) : stepR p (.un head deep) (c :: r) = (if idR (c :: r) = wFunc then (match p .sig (idT (c :: r)) with
     | some (g, 32 :: 123 :: r') => (match p (.bl deep) (123 :: r') with
      | some (b, r2) => p (.sf head deep (mkN 25 [] [g, b])) r2
      | none => none)
     | x => x)
    else p (.sf head deep (mkN 18 (idR (c :: r)) [])) (idT (c :: r))) := by
 rw [un_eq, if_neg fun e => e.elim (id_ne hi (by decide)) (id_ne hi (by decide)), if_neg (id_ne hi (by decide)), if_neg (id_ne hi (by decide)), if_neg (id_ne hi (by decide)), if_neg (by rw [salet_fig h]; simp), if_pos h]
theorem un_name {s r : List UInt8} (hs : nmB s = true) (hr : NI r) (head : Bool) (deep : Nat) : Go2 (.un head deep) (s ++ r) (.sf head deep (mkN 18 s [])) r := by
 rintro y q ⟨N, h⟩
 obtain ⟨c, l, rfl, hl, hi⟩ := nmB_head hs
 have hid := (nmB_ids hs).1
 refine Ev.of ⟨N, fun n hn => ?_⟩
 rw [List.cons_append, un_let _ _ _ _ hl hi, ← List.cons_append, idR_app hid hr, idT_app hid hr, if_neg (nm_not hs (by decide))]
 exact h n hn
theorem plain_ids {s : List UInt8} (h : plainP s = true) : (∀ c ∈ s, idB c = true ∧ figB c.toNat = true) ∧ s ≠ [] := by
 unfold plainP at h
 simp only [Bool.and_eq_true, Bool.or_eq_true, List.all_eq_true, decide_eq_true_eq, beq_iff_eq] at h
 refine ⟨fun c hc => ?_, ?_⟩
 · have := h.1 c hc
   unfold idB figB
   simp [this.1, this.2]
 · rintro rfl
   rcases h.2 with h | h
   · cases h
   · simp at h
theorem un_int {s r : List UInt8} (hs : plainP s = true) (hr : NI r) (head : Bool) (deep : Nat) : Go2 (.un head deep) (s ++ r) (.sf head deep (mkN 16 s [])) r := by
 rintro y q ⟨N, h⟩
 obtain ⟨h1, h2⟩ := plain_ids hs
 cases s with
 | nil => exact absurd rfl h2
 | cons c l =>
  have hc := h1 c (by simp)
  refine Ev.of ⟨N, fun n hn => ?_⟩
  rw [List.cons_append, un_eq, if_neg fun e => e.elim (id_ne hc.1 (by decide)) (id_ne hc.1 (by decide)), if_neg (id_ne hc.1 (by decide)), if_neg (id_ne hc.1 (by decide)), if_neg (id_ne hc.1 (by decide)), if_pos hc.2, ← List.cons_append, idR_app (fun c hc => (h1 c hc).1) hr, idT_app (fun c hc => (h1 c hc).1) hr]
  exact h n hn
theorem hex_ok : ∀ n, n < 256 → hexv (hexd (n / 16)) * 16 + hexv (hexd (n % 16)) = UInt8.ofNat n := by decide +kernel
theorem uq_ok : ∀ (s : List UInt8) (n : Nat) (r : List UInt8), s.length < n → uq n (s.flatMap quoteB ++ 34 :: r) = some (s, r)
 | [], n + 1, r, _ => by simp [uq]
 | c :: s, n + 1, r, h => by
  have ih := uq_ok s n r (by simp at h; omega)
  rw [List.flatMap_cons, List.append_assoc]
  obtain ⟨Q, hQ⟩ : ∃ Q, Q = s.flatMap quoteB := ⟨_, rfl⟩
  rw [← hQ] at ih ⊢
  clear hQ
  unfold quoteB
  by_cases h1 : c = 34 ∨ c = 92
  · rw [if_pos h1]
    rcases h1 with rfl | rfl <;> simp [uq, ih]
  rw [if_neg h1]
  by_cases h2 : c = 10
  · rw [if_pos h2]; subst h2; simp [uq, ih]
  rw [if_neg h2]
  by_cases h3 : c = 9
  · rw [if_pos h3]; subst h3; simp [uq, ih]
  rw [if_neg h3]
  by_cases h4 : 32 ≤ c.toNat ∧ c.toNat ≤ 126
  · rw [if_pos h4]
    have a1 : c ≠ 34 := fun e => h1 (.inl e)
    have a2 : c ≠ 92 := fun e => h1 (.inr e)
    simp [uq, a1, a2, ih]
  · rw [if_neg h4]
    have hx := hex_ok c.toNat c.toNat_lt
    rw [UInt8.ofNat_toNat] at hx
    simp [uq, ih, hx]
theorem un_str (s r : List UInt8) (head : Bool) (deep : Nat) : Go2 (.un head deep) (quoteP s ++ r) (.sf head deep (mkN 17 s [])) r := by
 rintro y q ⟨N, h⟩
 refine Ev.of ⟨N, fun n hn => ?_⟩
 have e : quoteP s ++ r = 34 :: (s.flatMap quoteB ++ 34 :: r) := by unfold quoteP; simp
 have hl : s.length < (s.flatMap quoteB ++ 34 :: r).length := by
  have : s.length ≤ (s.flatMap quoteB).length := by
   clear h e
   induction s with
   | nil => simp
   | cons c s ih =>
    have := (quoteB_len c).1
    rw [List.flatMap_cons, List.length_append, List.length_cons]
    omega
  rw [List.length_append, List.length_cons]
  omega
 rw [e, un_eq, if_neg (by decide), if_neg (by decide), if_pos rfl, uq_ok _ _ _ hl]
 exact h n hn
theorem un_paren {s : List UInt8} {x : Nd} {r : List UInt8} {deep : Nat} (hx : Ev (.ex 1 false deep) (s ++ 41 :: r) x (41 :: r)) (head : Bool) : Go2 (.un head deep) ([40] ++ s ++ [41] ++ r) (.sf head deep x) r := by
 rintro y q ⟨N, h⟩
 obtain ⟨M, h2⟩ := hx
 refine Ev.of ⟨N + M, fun n hn => ?_⟩
 rw [show [40] ++ s ++ [41] ++ r = 40 :: (s ++ 41 :: r) by simp, un_eq, if_neg (by decide), if_pos rfl, h2 n (by omega)]
 exact h n (by omega)
theorem un_unary {c : UInt8} (hc : c = 45 ∨ c = 33) {s r : List UInt8} {x : Nd} {head : Bool} {deep : Nat} (hx : Ev (.un head deep) s x r) : Ev (.un head deep) (c :: s) (mkN 19 [c] [x]) r := by
 obtain ⟨M, h2⟩ := hx
 refine Ev.of ⟨M, fun n hn => ?_⟩
 rw [un_eq, if_pos hc, h2 n hn]
 rfl
theorem sf_eq (p : Mo → List UInt8 → Rd) (head : Bool) (deep : Nat) (l : Nd) (c : UInt8) (r : List UInt8) : stepR p (.sf head deep l) (c :: r) = (if c = 40 then (match p (.ars deep) r with
    | some (a, 41 :: r') => p (.sf head deep (mkN 21 [] (l :: a.kids))) r'
    | _ => none)
   else if c = 91 then (match p (.ars deep) r with
    | some (a, 93 :: r') => p (.sf head deep (mkN 22 [] (l :: a.kids))) r'
    | _ => none)
   else if c = 46 then p (.sf head deep (mkN 23 (idR r) [l])) (idT r)
   else if c = 123 ∧ head = false then (match p (.ars deep) r with
    | some (a, 125 :: r') => p (.sf head deep (mkN 24 [] (toTy l :: a.kids))) r'
    | _ => none)
   else some (l, c :: r)) := rfl
theorem sf_call {A r : List UInt8} {L : Nd} {deep : Nat} (hA : Ev (.ars deep) (A ++ 41 :: r) L (41 :: r)) (head : Bool) (l : Nd) : Go2 (.sf head deep l) ([40] ++ A ++ [41] ++ r) (.sf head deep (mkN 21 [] (l :: L.kids))) r := by
 rintro y q ⟨N, h⟩
 obtain ⟨M, h2⟩ := hA
 refine Ev.of ⟨N + M, fun n hn => ?_⟩
 rw [show [40] ++ A ++ [41] ++ r = 40 :: (A ++ 41 :: r) by simp, sf_eq, if_pos rfl, h2 n (by omega)]
 exact h n (by omega)
theorem sf_idx {A r : List UInt8} {L : Nd} {deep : Nat} (hA : Ev (.ars deep) (A ++ 93 :: r) L (93 :: r)) (head : Bool) (l : Nd) : Go2 (.sf head deep l) ([91] ++ A ++ [93] ++ r) (.sf head deep (mkN 22 [] (l :: L.kids))) r := by
 rintro y q ⟨N, h⟩
 obtain ⟨M, h2⟩ := hA
 refine Ev.of ⟨N + M, fun n hn => ?_⟩
 rw [show [91] ++ A ++ [93] ++ r = 91 :: (A ++ 93 :: r) by simp, sf_eq, if_neg (by decide), if_pos rfl, h2 n (by omega)]
 exact h n (by omega)
theorem sf_lit {A r : List UInt8} {L : Nd} {deep : Nat} (hA : Ev (.ars deep) (A ++ 125 :: r) L (125 :: r)) (l : Nd) : Go2 (.sf false deep l) ([123] ++ A ++ [125] ++ r) (.sf false deep (mkN 24 [] (toTy l :: L.kids))) r := by
 rintro y q ⟨N, h⟩
 obtain ⟨M, h2⟩ := hA
 refine Ev.of ⟨N + M, fun n hn => ?_⟩
 rw [show [123] ++ A ++ [125] ++ r = 123 :: (A ++ 125 :: r) by simp, sf_eq, if_neg (by decide), if_neg (by decide), if_neg (by decide), if_pos ⟨rfl, rfl⟩, h2 n (by omega)]
 exact h n (by omega)
theorem sf_fld {s r : List UInt8} (hs : nmB s = true) (hr : NI r) (head : Bool) (deep : Nat) (l : Nd) : Go2 (.sf head deep l) ([46] ++ s ++ r) (.sf head deep (mkN 23 s [l])) r := by
 rintro y q ⟨N, h⟩
 have hid := (nmB_ids hs).1
 refine Ev.of ⟨N, fun n hn => ?_⟩
 rw [show [46] ++ s ++ r = 46 :: (s ++ r) by simp, sf_eq, if_neg (by decide), if_neg (by decide), if_pos rfl, idR_app hid hr, idT_app hid hr]
 exact h n hn
theorem op_at {o : List UInt8} (h : binB o = true) (s : List UInt8) : opAt ([32] ++ o ++ [32] ++ s) = some (o, s) := by
 unfold binB at h
 have h : o ∈ binS := by simpa using h
 have hm := h
 unfold binS at h
 simp only [List.mem_cons, List.mem_nil_iff, or_false] at h
 rcases h with rfl | rfl | rfl | rfl | rfl | rfl | rfl | rfl | rfl | rfl | rfl | rfl | rfl <;> simp [opAt, binS]
theorem lp_stop {m : Nat} {head : Bool} {deep : Nat} {l : Nd} {r : List UInt8} (h : ∀ o q, opAt r = some (o, q) → tightN o < m) : Ev (.lp m head deep l) r l r := by
 refine Ev.of ⟨0, fun n _ => ?_⟩
 show (match opAt r with | some (o, r) => _ | none => _) = _
 cases ho : opAt r with
 | none => rfl
 | some x =>
  obtain ⟨o, q⟩ := x
  have := h o q ho
  show (if m ≤ tightN o then _ else _) = _
  rw [if_neg (by omega)]
theorem lp_go {m : Nat} {head : Bool} {deep : Nat} {l b : Nd} {o s r : List UInt8} (ho : binB o = true) (hm : m ≤ tightN o) (hb : Ev (.ex (tightN o + 1) head deep) s b r) : Go2 (.lp m head deep l) ([32] ++ o ++ [32] ++ s) (.lp m head deep (mkN 20 o [l, b])) r := by
 rintro y q ⟨N, h⟩
 obtain ⟨M, h2⟩ := hb
 refine Ev.of ⟨N + M, fun n hn => ?_⟩
 show (match opAt _ with | some (o, r) => _ | none => _) = _
 rw [op_at ho]
 show (if m ≤ tightN o then (match P n (.ex (tightN o + 1) head deep) s with | some (b, r') => P n (.lp m head deep (mkN 20 o [l, b])) r' | none => none) else _) = _
 rw [if_pos hm, h2 n (by omega)]
 exact h n (by omega)
theorem ex_of {m : Nat} {head : Bool} {deep : Nat} {s r : List UInt8} {u : Nd} (hu : Ev (.un head deep) s u r) : Go2 (.ex m head deep) s (.lp m head deep u) r := by
 rintro y q ⟨N, h⟩
 obtain ⟨M, h2⟩ := hu
 refine Ev.of ⟨N + M, fun n hn => ?_⟩
 show (match P n (.un head deep) s with | some (u, r) => P n (.lp m head deep u) r | none => none) = _
 rw [h2 n (by omega)]
 exact h n (by omega)
def okc (c : UInt8) : Bool := idB c || c == 34 || c == 40 || c == 45 || c == 33 || c == 91
theorem okc_ne {c k : UInt8} (h : okc c = true) (hk : okc k = false) : c ≠ k := fun e => by rw [e, hk] at h; cases h
theorem ev_ars {deep : Nat} {p : Nd → List UInt8} {q : Nd → Nd} : ∀ {l : List Nd}, (∀ x ∈ l, (∃ c m, p x = c :: m ∧ okc c = true) ∧ ∀ r, CL r → Ev (.ex 1 false deep) (p x ++ r) (q x) r) → ∀ r, (r.head? = some 41 ∨ r.head? = some 93 ∨ r.head? = some 125) → Ev (.ars deep) (Lib.join (l.map p) sComma ++ r) (mkN 0 [] (l.map q)) r
 | [], _, r, hr => Ev.of ⟨0, fun n _ => by
  show (if r.head? = some 41 ∨ r.head? = some 93 ∨ r.head? = some 125 then some (mkN 0 [] [], r) else _) = _
  rw [if_pos hr]
  rfl⟩
 | x :: l, h, r, hr => by
  obtain ⟨⟨c, m, hcm, hc⟩, hx⟩ := h x (by simp)
  have nohead : ∀ z : List UInt8, ¬ ((p x ++ z).head? = some 41 ∨ (p x ++ z).head? = some 93 ∨ (p x ++ z).head? = some 125) := fun z e => by
   rw [hcm, List.cons_append, List.head?_cons] at e
   simp only [Option.some.injEq] at e
   rcases e with e | e | e
   · exact okc_ne hc (by decide) e
   · exact okc_ne hc (by decide) e
   · exact okc_ne hc (by decide) e
  have hcl : CL r := .inr hr
  cases l with
  | nil =>
   obtain ⟨N, h1⟩ := hx r hcl
   refine Ev.of ⟨N, fun n hn => ?_⟩
   rw [List.map_cons, List.map_nil, Lib.join_one]
   show (if _ ∨ _ ∨ _ then _ else match P n (.ex 1 false deep) (p x ++ r) with | some (x, 44 :: 32 :: r) => _ | some (x, r) => _ | none => _) = _
   rw [if_neg (nohead r), h1 n hn]
   obtain ⟨d, q, rfl, hd⟩ := hcl.cons
   have hd : d ≠ 44 := by rintro rfl; simp at hr
   split
   · rename_i e; injection e with e; injection e with _ e; injection e with e _; exact absurd e hd
   · rename_i e; injection e with e; injection e with e1 e2; subst e1 e2; rfl
   · rename_i e; cases e
  | cons y l =>
   obtain ⟨N, h1⟩ := hx (44 :: 32 :: (Lib.join ((y :: l).map p) sComma ++ r)) (.inl rfl)
   obtain ⟨M, h2⟩ := ev_ars (l := y :: l) (fun z hz => h z (by simp [hz])) r hr
   refine Ev.of ⟨N + M, fun n hn => ?_⟩
   rw [List.map_cons, List.map_cons, join_two, show (p x ++ (sComma ++ Lib.join (p y :: l.map p) sComma)) ++ r = p x ++ (44 :: 32 :: (Lib.join ((y :: l).map p) sComma ++ r)) by simp [sComma]]
   show (if _ ∨ _ ∨ _ then _ else match P n (.ex 1 false deep) (p x ++ (44 :: 32 :: (Lib.join ((y :: l).map p) sComma ++ r))) with | some (x, 44 :: 32 :: r) => _ | some (x, r) => _ | none => _) = _
   rw [if_neg (nohead _), h1 n (by omega)]
   show mp _ (P n (.ars deep) _) = _
   rw [h2 n (by omega)]
   rfl
def OC (l : List UInt8) : Prop := ∃ c m, l = c :: m ∧ okc c = true
theorem OC.app {a : List UInt8} (h : OC a) (b : List UInt8) : OC (a ++ b) := by
 obtain ⟨c, m, rfl, hc⟩ := h
 exact ⟨c, m ++ b, rfl, hc⟩
theorem id_okc {c : UInt8} (h : idB c = true) : okc c = true := by unfold okc; rw [h]; rfl
theorem nm_oc {s : List UInt8} (h : nmB s = true) : OC s := by
 obtain ⟨c, l, rfl, _, hi⟩ := nmB_head h
 exact ⟨c, l, rfl, id_okc hi⟩
theorem ty_oc {f : Nat} {t : Nd} (h : tyF nmB f t = true) : OC (typF f t) := by
 obtain ⟨c, l, e, hc⟩ := ty_head f t h
 refine ⟨c, l, e, ?_⟩
 unfold tyC at hc
 rw [Bool.or_eq_true] at hc
 rcases hc with hc | hc
 · exact id_okc (by unfold idB; rw [hc]; rfl)
 · rw [beq_iff_eq] at hc; subst hc; decide
theorem br_oc {ex : ExT} {deep : Nat} {head yes : Bool} {x : Nd} (h : ∀ head, OC (ex deep head x)) : OC (brT ex deep head yes x) := by
 unfold brT
 cases yes with
 | false => exact h head
 | true => exact ⟨40, _, rfl, by decide⟩
theorem ex_oc : ∀ (f : Nat) (t : Nd), exF f t = true → ∀ deep head, OC (exT f deep head t)
 | 0, t, h => by cases h
 | f + 1, t, he => fun deep head => by
  have H := ex_oc f
  rw [exF_succ] at he
  rw [exT_succ]
  unfold exB at he
  unfold exT1
  by_cases h16 : t.kind = 16
  · rw [if_pos h16] at he
    rw [if_neg (by omega), if_neg (by omega), if_neg (by omega), if_neg (by omega), if_neg (by omega), if_neg (by omega), if_neg (by omega), if_neg (by omega)]
    obtain ⟨h1, h2⟩ := plain_ids (namB_parts he).2.1
    cases ht : t.text with
    | nil => exact absurd ht h2
    | cons c l => exact ⟨c, l, rfl, id_okc (h1 c (by rw [ht]; simp)).1⟩
  rw [if_neg h16] at he
  by_cases h17 : t.kind = 17
  · rw [if_pos h17]; exact ⟨34, _, rfl, by decide⟩
  rw [if_neg h17] at he ⊢
  by_cases h18 : t.kind = 18
  · rw [if_pos h18] at he
    rw [if_neg (by omega), if_neg (by omega), if_neg (by omega), if_neg (by omega), if_neg (by omega), if_neg (by omega), if_neg (by omega)]
    exact nm_oc (namB_parts he).2.1
  rw [if_neg h18] at he
  by_cases h19 : t.kind = 19
  · rw [if_pos h19] at he ⊢
    have h2 := (namB_parts he).2.1
    unfold unB at h2
    simp only [Bool.or_eq_true, beq_iff_eq] at h2
    rcases h2 with h2 | h2 <;> rw [h2]
    · exact ⟨45, _, rfl, by decide⟩
    · exact ⟨33, _, rfl, by decide⟩
  rw [if_neg h19] at he ⊢
  by_cases h20 : t.kind = 20
  · rw [if_pos h20] at he ⊢
    obtain ⟨_, _, h3⟩ := namB_parts he
    obtain ⟨x, y, hk, hx1, _⟩ := two_kids h3
    rw [← (kid_two hk).1] at hx1
    rw [List.append_assoc, List.append_assoc, List.append_assoc]
    exact (br_oc fun head => H _ hx1 deep head).app _
  rw [if_neg h20] at he ⊢
  by_cases h21 : t.kind = 21
  · rw [if_pos h21] at he ⊢
    simp only [Bool.and_eq_true, Bool.not_eq_true', List.all_eq_true] at he
    have h3 : 0 < t.kids.length := by
     have := he.2.1
     cases h : t.kids with
     | nil => rw [h] at this; simp at this
     | cons a l => simp
    unfold fstT
    rw [List.append_assoc, List.append_assoc]
    exact (br_oc fun head => H _ (he.2.2 _ (kid_mem' h3)) deep head).app _
  rw [if_neg h21] at he ⊢
  by_cases h22 : t.kind = 22
  · rw [if_pos h22] at he ⊢
    simp only [Bool.and_eq_true, decide_eq_true_eq, List.all_eq_true] at he
    unfold fstT
    rw [List.append_assoc, List.append_assoc]
    exact (br_oc fun head => H _ he.2.2.1 deep head).app _
  rw [if_neg h22] at he ⊢
  by_cases h23 : t.kind = 23
  · rw [if_pos h23] at he ⊢
    obtain ⟨_, _, h3⟩ := namB_parts he
    obtain ⟨x, hx, hx1⟩ := one_kid h3
    rw [← kid_one hx] at hx1
    unfold fstT
    rw [List.append_assoc]
    exact (br_oc fun head => H _ hx1 deep head).app _
  rw [if_neg h23] at he ⊢
  by_cases h24 : t.kind = 24
  · rw [if_pos h24] at he ⊢
    simp only [Bool.and_eq_true, Bool.not_eq_true', List.all_eq_true] at he
    split
    · exact ⟨40, _, rfl, by decide⟩
    · rw [List.append_assoc, List.append_assoc]
      exact (ty_oc he.2.2.2.1).app _
  rw [if_neg h24] at he ⊢
  rw [if_pos (ofB_parts he).1]
  exact ⟨102, _, rfl, by decide⟩
theorem te_ev : ∀ (f : Nat) (t : Nd), tyF nmB f t = true → (t.kind = 10 → ∀ head deep r, NI r → Go2 (.un head deep) (typF f t ++ r) (.sf head deep (asEx t)) r) ∧ (∀ deep r, CL r → Ev (.ex 1 false deep) (typF f t ++ r) (asEx t) r)
 | 0, t, h => by cases h
 | f + 1, t, h => by
  have ih := te_ev f
  have first : t.kind = 10 → ∀ head deep r, NI r → Go2 (.un head deep) (typF (f + 1) t ++ r) (.sf head deep (asEx t)) r := fun hk head deep r hr => by
   obtain ⟨h1, h2⟩ := ty_name_parts h hk
   rw [typ_nm hk, asEx_nm hk]
   by_cases e : t.kids = []
   · rw [if_pos e, if_pos e]; exact un_name h1 hr head deep
   · rw [if_neg e, if_neg e, show t.text ++ [91] ++ Lib.join (t.kids.map (typF f)) sComma ++ [93] ++ r = t.text ++ ([91] ++ Lib.join (t.kids.map (typF f)) sComma ++ [93] ++ r) by simp]
     refine (un_name h1 (ni_cons (by decide)) head deep).trans ?_
     exact sf_idx (L := mkN 0 [] (t.kids.map asEx)) (ev_ars (fun x hx => ⟨ty_oc (h2 x hx), fun r hr => (ih x (h2 x hx)).2 deep r hr⟩) (93 :: r) (.inr (.inl rfl))) head _
  refine ⟨first, fun deep r hr => ?_⟩
  have fin : Ev (.un false deep) (typF (f + 1) t ++ r) (asEx t) r → Ev (.ex 1 false deep) (typF (f + 1) t ++ r) (asEx t) r := fun hu =>
   ex_of hu _ _ (lp_stop fun o q e => by rw [hr.op] at e; cases e)
  refine fin ?_
  rcases tyF_kind h with hk | hk | hk
  · exact first hk false deep r hr.fu.ni _ _ (sf_stop hr.fu)
  · obtain ⟨N, h1⟩ := ty_ev (f + 1) t h r hr.ft
    rw [asEx_other (by omega)]
    refine Ev.of ⟨N, fun n hn => ?_⟩
    have h2 := h1 n hn
    rw [typ_text11 hk, List.cons_append] at h2 ⊢
    rw [un_eq, if_neg (by decide), if_neg (by decide), if_neg (by decide), if_pos rfl, h2]
    obtain ⟨c, l, rfl, hc⟩ := hr.cons
    rcases hc with rfl | rfl | rfl | rfl <;> rfl
  · obtain ⟨N, h1⟩ := ev_sig noT_tx (ty_sig_parts h hk) (ty_ev f) (ty_no32 f) (ty_head f) r hr.ft
    rw [asEx_other (by omega), typ_text12 h hk]
    obtain ⟨e1, e2⟩ := func_id _ r (sig_open (typF f) t)
    refine Ev.of ⟨N, fun n hn => ?_⟩
    rw [List.cons_append] at e1 e2 ⊢
    rw [un_let _ _ _ _ (by decide) (by decide), e1, e2, if_pos rfl, h1 n hn]
    obtain ⟨c, l, rfl, hc⟩ := hr.cons
    rcases hc with rfl | rfl | rfl | rfl <;> rfl
theorem un_slit {f : Nat} {t : Nd} (h : tyF nmB f t = true) (hk : t.kind = 11) {A r : List UInt8} {L : Nd} {deep : Nat} (hA : Ev (.ars deep) (A ++ 125 :: r) L (125 :: r)) (head : Bool) : Go2 (.un head deep) (typF f t ++ [123] ++ A ++ [125] ++ r) (.sf head deep (mkN 24 [] (strip t :: L.kids))) r := by
 rintro y q ⟨N, h0⟩
 obtain ⟨M, h1⟩ := ty_ev f t h (123 :: (A ++ 125 :: r)) (ft_cons (by decide))
 obtain ⟨K, h2⟩ := hA
 refine Ev.of ⟨N + M + K, fun n hn => ?_⟩
 have h1 := h1 n (by omega)
 cases f with
 | zero => cases h
 | succ f =>
  rw [show typF (f + 1) t ++ [123] ++ A ++ [125] ++ r = typF (f + 1) t ++ 123 :: (A ++ 125 :: r) by simp]
  rw [typ_text11 hk, List.cons_append] at h1 ⊢
  rw [un_eq, if_neg (by decide), if_neg (by decide), if_neg (by decide), if_pos rfl, h1]
  show (match P n (.ars deep) (A ++ 125 :: r) with | some (l, 125 :: r2) => P n (.sf head deep (mkN 24 [] (strip t :: l.kids))) r2 | _ => none) = _
  rw [h2 n (by omega)]
  exact h0 n (by omega)
theorem un_func {f : Nat} {g : Nd} (hg : sigB (tyF nmB f) nmB g = true) {B r : List UInt8} {b : Nd} {deep : Nat} (hB : ∃ l, B = 123 :: l) (hb : Ev (.bl deep) (B ++ r) b r) (head : Bool) : Go2 (.un head deep) (wFunc ++ sigT (typF f) g ++ [32] ++ B ++ r) (.sf head deep (mkN 25 [] [strip g, b])) r := by
 rintro y q ⟨N, h0⟩
 obtain ⟨l, rfl⟩ := hB
 obtain ⟨M, h1⟩ := ev_sig nm_tx hg (ty_ev f) (ty_no32 f) (ty_head f) (32 :: 123 :: (l ++ r)) ⟨ni_cons (by decide), by simp, fun c m e => by
  have := (List.cons.inj (List.cons.inj e).2).1
  subst this
  decide⟩
 obtain ⟨K, h2⟩ := hb
 refine Ev.of ⟨N + M + K, fun n hn => ?_⟩
 obtain ⟨e1, e2⟩ := func_id _ (32 :: 123 :: (l ++ r)) (sig_open (typF f) g)
 rw [show wFunc ++ sigT (typF f) g ++ [32] ++ 123 :: l ++ r = 102 :: 117 :: 110 :: 99 :: sigT (typF f) g ++ 32 :: 123 :: (l ++ r) by simp [wFunc]]
 rw [List.cons_append] at e1 e2 ⊢
 rw [un_let _ _ _ _ (by decide) (by decide), e1, e2, if_pos rfl, h1 n (by omega)]
 show (match P n (.bl deep) (123 :: (l ++ r)) with | some (b, r2) => P n (.sf head deep (mkN 25 [] [strip g, b])) r2 | none => none) = _
 have h2 := h2 n (by omega)
 rw [List.cons_append] at h2
 rw [h2]
 exact h0 n (by omega)
def lev (t : Nd) : Nat := if t.kind = 20 then tightN t.text else 9
theorem tight_le (s : List UInt8) : 1 ≤ tightN s ∧ tightN s ≤ 5 := by
 unfold tightN
 repeat' split
 all_goals omega
theorem lev_pos (t : Nd) : 1 ≤ lev t := by
 unfold lev
 split
 · exact (tight_le _).1
 · omega
def A1 (f : Nat) (t : Nd) : Prop := ∀ deep head r, NI r → Go2 (.un head deep) (exT f deep head t ++ r) (.sf head deep (strip t)) r
def A2 (f : Nat) (t : Nd) : Prop := ∀ deep head r, FU r → Ev (.un head deep) (exT f deep head t ++ r) (strip t) r
def A3 (f : Nat) (t : Nd) : Prop := ∀ deep head m r, m ≤ lev t → FU r → (∀ o q, opAt r = some (o, q) → tightN o ≤ lev t) → Go2 (.ex m head deep) (exT f deep head t ++ r) (.lp m head deep (strip t)) r
theorem A1.two {f : Nat} {t : Nd} (h : A1 f t) : A2 f t := fun deep head r hr => h deep head r hr.ni _ _ (sf_stop hr)
theorem A2.three {f : Nat} {t : Nd} (h : A2 f t) : A3 f t := fun deep head m r _ hr _ => ex_of (h deep head r hr)
def EH (f : Nat) : Prop := ∀ t, t.size ≤ f → exF f t = true → (t.kind ≠ 20 → t.kind ≠ 19 → A1 f t) ∧ (t.kind ≠ 20 → A2 f t) ∧ A3 f t
def SH (f : Nat) : Prop := ∀ t, t.size ≤ f → stF f t = true → ∀ deep r, r.head? = some 10 → Ev (.st deep) (stT f deep t ++ r) (strip t) r
theorem ex_ev {f : Nat} {t : Nd} (h : A3 f t) (deep : Nat) (head : Bool) {m : Nat} {r : List UInt8} (hm : m ≤ lev t) (hr : FU r) (ho : ∀ o q, opAt r = some (o, q) → tightN o < m) : Ev (.ex m head deep) (exT f deep head t ++ r) (strip t) r :=
 h deep head m r hm hr (fun o q e => by have := ho o q e; omega) _ _ (lp_stop ho)
theorem ex_ev1 {f : Nat} {t : Nd} (h : A3 f t) (deep : Nat) (head : Bool) {r : List UInt8} (hr : FU r) (ho : opAt r = none) : Ev (.ex 1 head deep) (exT f deep head t ++ r) (strip t) r :=
 ex_ev h deep head (lev_pos t) hr fun o q e => by rw [ho] at e; cases e
theorem br_yes {f : Nat} {t : Nd} (h : A3 f t) (deep : Nat) (head : Bool) (r : List UInt8) : Go2 (.un head deep) (brT (exT f) deep head true t ++ r) (.sf head deep (strip t)) r :=
 un_paren (ex_ev1 h deep false (fu_cons (by decide)) (op_no (by simp))) head
theorem fst_go {f : Nat} {t : Nd} (h1 : t.kind ≠ 20 → t.kind ≠ 19 → A1 f t) (h3 : A3 f t) (deep : Nat) (head : Bool) {r : List UInt8} (hr : NI r) : Go2 (.un head deep) (fstT (exT f) deep head t ++ r) (.sf head deep (strip t)) r := by
 unfold fstT
 cases hy : (t.kind == 19 || t.kind == 20) with
 | true => exact br_yes h3 deep head r
 | false =>
  simp only [Bool.or_eq_false_iff, beq_eq_false_iff_ne] at hy
  exact h1 hy.2 hy.1 deep head r hr
theorem oth_ev {f deep : Nat} {t : Nd} (H : EH f) (hs : ∀ x ∈ t.kids.drop 1, x.size ≤ f) (h : ∀ x ∈ t.kids.drop 1, argB (tyF nmB f) (exF f) x = true) {r : List UInt8} (hr : r.head? = some 41 ∨ r.head? = some 93 ∨ r.head? = some 125) : Ev (.ars deep) (othT (typF f) (exT f) deep t ++ r) (mkN 0 [] ((t.kids.drop 1).map strip)) r := by
 refine ev_ars (fun x hx => ?_) r hr
 have ha := h x hx
 unfold argB at ha
 simp only [Bool.or_eq_true, Bool.and_eq_true] at ha
 unfold partT
 by_cases hk : x.kind = 11 ∨ x.kind = 12
 · rw [if_pos hk]
   have hty : tyF nmB f x = true := by
    rcases ha with ha | ha
    · have := exF_kind ha; omega
    · exact ha.2
   refine ⟨ty_oc hty, fun r hr => ?_⟩
   have := (te_ev f x hty).2 deep r hr
   rwa [asEx_other (by omega)] at this
 · rw [if_neg hk]
   have hex : exF f x = true := by
    rcases ha with ha | ha
    · exact ha
    · have := tyF_kind ha.2
      have h3 : x.kind ≠ 10 := by simpa using ha.1
      omega
   exact ⟨ex_oc f x hex deep false, fun r hr => ex_ev1 (H x (hs x hx) hex).2.2 deep false hr.fu hr.op⟩
end Go.Proofs.YthbmjamgidfneaaGreatDoor
