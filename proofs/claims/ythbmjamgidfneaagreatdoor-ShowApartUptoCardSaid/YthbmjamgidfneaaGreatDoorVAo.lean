import Derived.Test.YthbmjamgidfneaaGreatDoorVAb
import Derived.Test.YthbmjamgidfneaaGreatDoorVAf
import Derived.Test.YthbmjamgidfneaaGreatDoorVAn
set_option maxRecDepth 100000
set_option maxHeartbeats 6400000
namespace Go.Proofs.YthbmjamgidfneaaGreatDoor
open Go.Lib
set_option linter.unusedVariables false
set_option linter.unusedSimpArgs false
abbrev E3 (f : Nat) (t : Nd) : Prop := (t.kind ≠ 20 → t.kind ≠ 19 → A1 f t) ∧ (t.kind ≠ 20 → A2 f t) ∧ A3 f t
theorem fin1 {f : Nat} {t : Nd} (h : A1 f t) : E3 f t := ⟨fun _ _ => h, fun _ => h.two, h.two.three⟩
theorem fin2 {f : Nat} {t : Nd} (hk : t.kind = 19) (h : A2 f t) : E3 f t := ⟨fun _ h19 => absurd hk h19, fun _ => h, h.three⟩
theorem fin3 {f : Nat} {t : Nd} (hk : t.kind = 20) (h : A3 f t) : E3 f t := ⟨fun h20 => absurd hk h20, fun h20 => absurd hk h20, h⟩
theorem no_kids {l : List Nd} (h : kidsB [] l = true) : l = [] := by
 have := kidsB_len h
 exact List.eq_nil_of_length_eq_zero this
theorem strip_at {t : Nd} {k : Int} {s : List UInt8} {l : List Nd} (hk : t.kind = k) (hs : t.text = s) (hl : t.kids = l) : strip t = mkN k s (l.map strip) := by
 rw [strip_eq, hk, hs, hl]; rfl
theorem post_a1 {f : Nat} (H : EH f) {t : Nd} (hs : t.size ≤ f + 1) (h3 : 0 < t.kids.length) (hx : exF f (t.kid 0) = true) (hag : ∀ x ∈ t.kids.drop 1, argB (tyF nmB f) (exF f) x = true) (deep : Nat) (head : Bool) (r : List UInt8) :
  Go2 (.un head deep) (fstT (exT f) deep head (t.kid 0) ++ [40] ++ othT (typF f) (exT f) deep t ++ [41] ++ r) (.sf head deep (mkN 21 [] (t.kids.map strip))) r ∧
  Go2 (.un head deep) (fstT (exT f) deep head (t.kid 0) ++ [91] ++ othT (typF f) (exT f) deep t ++ [93] ++ r) (.sf head deep (mkN 22 [] (t.kids.map strip))) r := by
 have hk0 := H (t.kid 0) (by have := kid_size h3; omega) hx
 have hin : ∀ x ∈ t.kids.drop 1, x.size ≤ f := fun x hx => by have := Nd.size_kid (List.mem_of_mem_drop hx); omega
 have hc : t.kids.map strip = strip (t.kid 0) :: (mkN 0 [] ((t.kids.drop 1).map strip)).kids := by
  conv => lhs; rw [kids_cons h3]
  rfl
 rw [hc]
 constructor
 · rw [show fstT (exT f) deep head (t.kid 0) ++ [40] ++ othT (typF f) (exT f) deep t ++ [41] ++ r = fstT (exT f) deep head (t.kid 0) ++ ([40] ++ othT (typF f) (exT f) deep t ++ [41] ++ r) by simp]
   exact (fst_go hk0.1 hk0.2.2 deep head (ni_cons (by decide))).trans (sf_call (oth_ev H hin hag (.inl rfl)) head _)
 · rw [show fstT (exT f) deep head (t.kid 0) ++ [91] ++ othT (typF f) (exT f) deep t ++ [93] ++ r = fstT (exT f) deep head (t.kid 0) ++ ([91] ++ othT (typF f) (exT f) deep t ++ [93] ++ r) by simp]
   exact (fst_go hk0.1 hk0.2.2 deep head (ni_cons (by decide))).trans (sf_idx (oth_ev H hin hag (.inr (.inl rfl))) head _)
theorem br_ev {f : Nat} {x : Nd} (h : E3 f x) (deep : Nat) (head yes : Bool) (hy : yes = false → x.kind ≠ 20) {r : List UInt8} (hr : FU r) : Ev (.un head deep) (brT (exT f) deep head yes x ++ r) (strip x) r := by
 cases yes with
 | true => exact br_yes h.2.2 deep head r _ _ (sf_stop hr)
 | false => exact h.2.1 (hy rfl) deep head r hr
theorem eh_step (f : Nat) (H : EH f) (HB : ∀ t, t.size ≤ f → blkB (stF f) t = true → ∀ deep r, Ev (.bl deep) (blT (stT f) deep t ++ r) (strip t) r) : EH (f + 1) := by
 intro t hs he
 rw [exF_succ] at he
 unfold exB at he
 by_cases h16 : t.kind = 16
 · rw [if_pos h16] at he
   obtain ⟨_, h2, h3⟩ := namB_parts he
   refine fin1 fun deep head r hr => ?_
   rw [exT_succ, strip_at h16 rfl (no_kids h3)]
   unfold exT1
   rw [if_neg (by omega), if_neg (by omega), if_neg (by omega), if_neg (by omega), if_neg (by omega), if_neg (by omega), if_neg (by omega), if_neg (by omega)]
   exact un_int h2 hr head deep
 rw [if_neg h16] at he
 by_cases h17 : t.kind = 17
 · rw [if_pos h17] at he
   obtain ⟨_, h2, h3⟩ := namB_parts he
   refine fin1 fun deep head r hr => ?_
   rw [exT_succ, strip_at h17 rfl (no_kids h3)]
   unfold exT1
   rw [if_pos h17]
   exact un_str _ r head deep
 rw [if_neg h17] at he
 by_cases h18 : t.kind = 18
 · rw [if_pos h18] at he
   obtain ⟨_, h2, h3⟩ := namB_parts he
   refine fin1 fun deep head r hr => ?_
   rw [exT_succ, strip_at h18 rfl (no_kids h3)]
   unfold exT1
   rw [if_neg (by omega), if_neg (by omega), if_neg (by omega), if_neg (by omega), if_neg (by omega), if_neg (by omega), if_neg (by omega), if_neg (by omega)]
   exact un_name h2 hr head deep
 rw [if_neg h18] at he
 by_cases h19 : t.kind = 19
 · rw [if_pos h19] at he
   obtain ⟨_, h2, h3⟩ := namB_parts he
   obtain ⟨x, hx, hx1⟩ := one_kid h3
   have hxs : x.size ≤ f := by have := size_one hx; omega
   refine fin2 h19 fun deep head r hr => ?_
   rw [exT_succ, strip_at h19 rfl hx]
   unfold exT1
   rw [if_neg (by omega), if_pos h19, kid_one hx]
   have hop : ∃ c, t.text = [c] ∧ (c = 45 ∨ c = 33) := by
    unfold unB at h2
    simp only [Bool.or_eq_true, beq_iff_eq] at h2
    rcases h2 with h2 | h2
    · exact ⟨45, h2, .inl rfl⟩
    · exact ⟨33, h2, .inr rfl⟩
   obtain ⟨c, hc, hc2⟩ := hop
   rw [hc, List.append_assoc, List.cons_append, List.nil_append]
   refine un_unary hc2 (br_ev (H x hxs hx1) deep head _ (fun hy => ?_) hr)
   simp only [Bool.or_eq_false_iff, beq_eq_false_iff_ne] at hy
   exact hy.1
 rw [if_neg h19] at he
 by_cases h20 : t.kind = 20
 · rw [if_pos h20] at he
   obtain ⟨_, h2, h3⟩ := namB_parts he
   obtain ⟨x, y, hk, hx1, hy1⟩ := two_kids h3
   obtain ⟨e0, e1⟩ := kid_two hk
   have hsz := size_two hk
   have HX := H x (by omega) hx1
   have HY := H y (by omega) hy1
   have hlt : lev t = tightN t.text := by unfold lev; rw [if_pos h20]
   refine fin3 h20 fun deep head m r hm hr ho => ?_
   rw [exT_succ, strip_at h20 rfl hk]
   unfold exT1
   rw [if_neg (by omega), if_neg (by omega), if_pos h20, e0, e1]
   rw [hlt] at hm ho
   have hyt := tight_le t.text
   -- the second operand
   have hb : Ev (.ex (tightN t.text + 1) head deep) (brT (exT f) deep head (y.kind == 20 && decide (tightN y.text ≤ tightN t.text)) y ++ r) (strip y) r := by
    have hlow : ∀ o q, opAt r = some (o, q) → tightN o < tightN t.text + 1 := fun o q e => by have := ho o q e; omega
    cases hy : (y.kind == 20 && decide (tightN y.text ≤ tightN t.text)) with
    | true => exact ex_of (br_ev HY deep head true (fun h => by cases h) hr) _ _ (lp_stop hlow)
    | false =>
     have hl : tightN t.text + 1 ≤ lev y := by
      unfold lev
      by_cases h : y.kind = 20
      · rw [if_pos h]
        simp only [Bool.and_eq_false_iff, beq_eq_false_iff_ne, decide_eq_false_iff_not] at hy
        rcases hy with hy | hy
        · exact absurd h hy
        · omega
      · rw [if_neg h]; omega
     exact ex_ev HY.2.2 deep head hl hr hlow
   -- behind the first operand
   have hgo := lp_go (m := m) (head := head) (deep := deep) (l := strip x) h2 hm hb
   have e : brT (exT f) deep head (x.kind == 20 && decide (tightN x.text < tightN t.text)) x ++ [32] ++ t.text ++ [32] ++ brT (exT f) deep head (y.kind == 20 && decide (tightN y.text ≤ tightN t.text)) y ++ r = brT (exT f) deep head (x.kind == 20 && decide (tightN x.text < tightN t.text)) x ++ ([32] ++ t.text ++ [32] ++ (brT (exT f) deep head (y.kind == 20 && decide (tightN y.text ≤ tightN t.text)) y ++ r)) := by simp
   rw [e]
   have hfu : FU ([32] ++ t.text ++ [32] ++ (brT (exT f) deep head (y.kind == 20 && decide (tightN y.text ≤ tightN t.text)) y ++ r)) := fu_cons (by decide)
   refine Go2.trans ?_ hgo
   cases hx : (x.kind == 20 && decide (tightN x.text < tightN t.text)) with
   | true => exact ex_of (br_ev HX deep head true (fun h => by cases h) hfu)
   | false =>
    have hl : tightN t.text ≤ lev x := by
     unfold lev
     by_cases h : x.kind = 20
     · rw [if_pos h]
       simp only [Bool.and_eq_false_iff, beq_eq_false_iff_ne, decide_eq_false_iff_not] at hx
       rcases hx with hx | hx
       · exact absurd h hx
       · omega
     · rw [if_neg h]; omega
    refine HX.2.2 deep head m _ (by omega) hfu fun o q e => ?_
    rw [op_at h2] at e
    injection e with e
    injection e with e _
    subst e
    exact hl
 rw [if_neg h20] at he
 by_cases h21 : t.kind = 21
 · rw [if_pos h21] at he
   simp only [Bool.and_eq_true, Bool.not_eq_true', List.all_eq_true, beq_iff_eq] at he
   have h3 : 0 < t.kids.length := by
    have := he.2.1
    cases h : t.kids with
    | nil => rw [h] at this; simp at this
    | cons a l => simp
   refine fin1 fun deep head r hr => ?_
   rw [exT_succ, strip_at h21 he.1 rfl]
   unfold exT1
   rw [if_neg (by omega), if_neg (by omega), if_neg (by omega), if_pos h21]
   exact (post_a1 H hs h3 (he.2.2 _ (kid_mem' h3)) (fun x hx => exB_arg (he.2.2 x (List.mem_of_mem_drop hx))) deep head r).1
 rw [if_neg h21] at he
 by_cases h22 : t.kind = 22
 · rw [if_pos h22] at he
   simp only [Bool.and_eq_true, decide_eq_true_eq, List.all_eq_true, beq_iff_eq] at he
   refine fin1 fun deep head r hr => ?_
   rw [exT_succ, strip_at h22 he.1 rfl]
   unfold exT1
   rw [if_neg (by omega), if_neg (by omega), if_neg (by omega), if_neg (by omega), if_pos h22]
   exact (post_a1 H hs (by omega) he.2.2.1 he.2.2.2 deep head r).2
 rw [if_neg h22] at he
 by_cases h23 : t.kind = 23
 · rw [if_pos h23] at he
   obtain ⟨_, h2, h3⟩ := namB_parts he
   obtain ⟨x, hx, hx1⟩ := one_kid h3
   have HX := H x (by have := size_one hx; omega) hx1
   refine fin1 fun deep head r hr => ?_
   rw [exT_succ, strip_at h23 rfl hx]
   unfold exT1
   rw [if_neg (by omega), if_neg (by omega), if_neg (by omega), if_neg (by omega), if_neg (by omega), if_pos h23, kid_one hx, show fstT (exT f) deep head x ++ [46] ++ t.text ++ r = fstT (exT f) deep head x ++ ([46] ++ t.text ++ r) by simp]
   exact (fst_go HX.1 HX.2.2 deep head (ni_cons (by decide))).trans (sf_fld h2 hr head deep _)
 rw [if_neg h23] at he
 by_cases h24 : t.kind = 24
 · rw [if_pos h24] at he
   simp only [Bool.and_eq_true, Bool.not_eq_true', List.all_eq_true, beq_iff_eq, bne_iff_ne] at he
   obtain ⟨ht, hne, hk12, hty, hag⟩ := he
   have h3 : 0 < t.kids.length := by
    cases h : t.kids with
    | nil => rw [h] at hne; simp at hne
    | cons a l => simp
   have hin : ∀ x ∈ t.kids.drop 1, x.size ≤ f := fun x hx => by have := Nd.size_kid (List.mem_of_mem_drop hx); omega
   have hargs : ∀ (deep : Nat) (r : List UInt8), Ev (.ars deep) (othT (typF f) (exT f) deep t ++ 125 :: r) (mkN 0 [] ((t.kids.drop 1).map strip)) (125 :: r) := fun deep r => oth_ev H hin (fun x hx => exB_arg (hag x hx)) (.inr (.inr rfl))
   have hc : t.kids.map strip = strip (t.kid 0) :: (mkN 0 [] ((t.kids.drop 1).map strip)).kids := by
    conv => lhs; rw [kids_cons h3]
    rfl
   have named : (t.kid 0).kind = 10 → ∀ deep r, Go2 (.un false deep) (typF f (t.kid 0) ++ [123] ++ othT (typF f) (exT f) deep t ++ [125] ++ r) (.sf false deep (mkN 24 [] (t.kids.map strip))) r := fun hk deep r => by
    rw [show typF f (t.kid 0) ++ [123] ++ othT (typF f) (exT f) deep t ++ [125] ++ r = typF f (t.kid 0) ++ ([123] ++ othT (typF f) (exT f) deep t ++ [125] ++ r) by simp, hc]
    have h2 := sf_lit (hargs deep r) (asEx (t.kid 0))
    rw [toTy_asEx f _ hty] at h2
    exact ((te_ev f _ hty).1 hk false deep _ (ni_cons (by decide))).trans h2
   refine fin1 fun deep head r hr => ?_
   rw [exT_succ, strip_at h24 ht rfl]
   unfold exT1
   rw [if_neg (by omega), if_neg (by omega), if_neg (by omega), if_neg (by omega), if_neg (by omega), if_neg (by omega), if_pos h24]
   by_cases hk : (t.kid 0).kind = 10
   · cases head with
     | true =>
      rw [if_pos ⟨rfl, hk⟩]
      exact un_paren (ex_of (named hk deep (41 :: r) _ _ (sf_stop (fu_cons (by decide)))) _ _ (lp_stop fun o q e => by rw [op_no (by simp)] at e; cases e)) true
     | false =>
      rw [if_neg (fun h => by cases h.1)]
      exact named hk deep r
   · rw [if_neg (fun h => hk h.2), hc]
     have hk11 : (t.kid 0).kind = 11 := by
      rcases tyF_kind hty with h | h | h
      · exact absurd h hk
      · exact h
      · exact absurd h hk12
     exact un_slit hty hk11 (hargs deep r) head
 rw [if_neg h24] at he
 obtain ⟨h25, ht, h3⟩ := ofB_parts he
 obtain ⟨x, y, hk, hx1, hy1⟩ := two_kids h3
 obtain ⟨e0, e1⟩ := kid_two hk
 have hsz := size_two hk
 refine fin1 fun deep head r hr => ?_
 rw [exT_succ, strip_at h25 ht hk]
 unfold exT1
 rw [if_neg (by omega), if_neg (by omega), if_neg (by omega), if_neg (by omega), if_neg (by omega), if_neg (by omega), if_neg (by omega), if_pos h25, e0, e1]
 exact un_func hx1 (by unfold blT; exact ⟨_, by rw [List.append_assoc]; rfl⟩) (HB y (by omega) hy1 deep r) head
def KW : List (List UInt8) := [kVar, kIf, kFor, kRange, kReturn, kBreak, kCont]
theorem kw_words : ∀ w ∈ KW, w ∈ words1 := by decide
theorem kw_nil : [] ∉ KW := by decide
theorem kw_func : wFunc ∉ KW := by decide
def sShort : List UInt8 := [32, 58, 61, 32]
structure NQ (s : List UInt8) : Prop where
 kw : idR s ∉ KW
 c : (idT s).head? ≠ some 44
 a : (idT s).take 4 ≠ sShort
theorem nq_name {a r : List UInt8} (ha : ∀ c ∈ a, idB c = true) (hk : a ∉ KW) (hr : NI r) (h1 : r.head? ≠ some 44) (h2 : r.take 4 ≠ sShort) : NQ (a ++ r) :=
 ⟨by rw [idR_app ha hr]; exact hk, by rw [idT_app ha hr]; exact h1, by rw [idT_app ha hr]; exact h2⟩
theorem nq_head {c : UInt8} {r : List UInt8} (hc : idB c = false ∧ c ≠ 44 ∧ c ≠ 32) : NQ (c :: r) := by
 have hni : NI (c :: r) := ni_cons hc.1
 refine ⟨by rw [idR_ni hni]; exact kw_nil, by rw [idT_ni hni]; simp [hc.2.1], ?_⟩
 rw [idT_ni hni, List.take_succ_cons]
 exact fun e => hc.2.2 (List.cons.inj e).1
theorem take_ne {c : UInt8} {r : List UInt8} (hc : c ≠ 32) : (c :: r).take 4 ≠ sShort := by
 rw [List.take_succ_cons]
 exact fun e => hc (List.cons.inj e).1
theorem nm_kw {s : List UInt8} (h : nmB s = true) : s ∉ KW := fun hm => (nm_word h).1 (kw_words _ hm)
theorem br_nq {ex : ExT} {deep : Nat} {head yes : Bool} {x : Nd} {r : List UInt8} (h : ∀ head, NQ (ex deep head x ++ r)) : NQ (brT ex deep head yes x ++ r) := by
 unfold brT
 cases yes with
 | false => exact h head
 | true =>
  rw [if_pos rfl, List.append_assoc, List.append_assoc]
  exact nq_head (by decide)
theorem bin_first {o : List UInt8} (h : binB o = true) : ∃ c l, o = c :: l ∧ c ≠ 58 := by
 unfold binB at h
 have h : o ∈ binS := by simpa using h
 unfold binS at h
 simp only [List.mem_cons, List.mem_nil_iff, or_false] at h
 rcases h with rfl | rfl | rfl | rfl | rfl | rfl | rfl | rfl | rfl | rfl | rfl | rfl | rfl <;> exact ⟨_, _, rfl, by decide⟩
theorem ex_nq : ∀ (f : Nat) (t : Nd), exF f t = true → ∀ deep head r, NI r → r.head? ≠ some 44 → r.take 4 ≠ sShort → NQ (exT f deep head t ++ r)
 | 0, t, h => by cases h
 | f + 1, t, he => fun deep head r hr h1 h2 => by
  have H := ex_nq f
  rw [exF_succ] at he
  rw [exT_succ]
  unfold exB at he
  unfold exT1
  by_cases h16 : t.kind = 16
  · rw [if_pos h16] at he
    rw [if_neg (by omega), if_neg (by omega), if_neg (by omega), if_neg (by omega), if_neg (by omega), if_neg (by omega), if_neg (by omega), if_neg (by omega)]
    obtain ⟨k1, k2⟩ := plain_ids (namB_parts he).2.1
    refine nq_name (fun c hc => (k1 c hc).1) (fun hm => ?_) hr h1 h2
    cases ht : t.text with
    | nil => exact k2 ht
    | cons c l =>
     have hc := (k1 c (by rw [ht]; simp)).2
     rw [ht] at hm
     have : ∀ w ∈ KW, ∀ c l, w = c :: l → figB c.toNat = false := by
      intro w hw c l e
      unfold KW at hw
      simp only [List.mem_cons, List.mem_nil_iff, or_false] at hw
      rcases hw with rfl | rfl | rfl | rfl | rfl | rfl | rfl <;> (have := (List.cons.inj e).1; subst this; decide)
     rw [this _ hm c l rfl] at hc
     cases hc
  rw [if_neg h16] at he
  by_cases h17 : t.kind = 17
  · rw [if_pos h17]; unfold quoteP; rw [List.cons_append]; exact nq_head (by decide)
  rw [if_neg h17] at he ⊢
  by_cases h18 : t.kind = 18
  · rw [if_pos h18] at he
    rw [if_neg (by omega), if_neg (by omega), if_neg (by omega), if_neg (by omega), if_neg (by omega), if_neg (by omega), if_neg (by omega)]
    have hn := (namB_parts he).2.1
    exact nq_name (nmB_ids hn).1 (nm_kw hn) hr h1 h2
  rw [if_neg h18] at he
  by_cases h19 : t.kind = 19
  · rw [if_pos h19] at he ⊢
    have k := (namB_parts he).2.1
    unfold unB at k
    simp only [Bool.or_eq_true, beq_iff_eq] at k
    rcases k with k | k <;> rw [k, List.append_assoc] <;> exact nq_head (by decide)
  rw [if_neg h19] at he ⊢
  by_cases h20 : t.kind = 20
  · rw [if_pos h20] at he ⊢
    obtain ⟨_, ho, h3⟩ := namB_parts he
    obtain ⟨x, y, hk, hx1, _⟩ := two_kids h3
    rw [← (kid_two hk).1] at hx1
    obtain ⟨c, l, hc, hc2⟩ := bin_first ho
    rw [List.append_assoc, List.append_assoc, List.append_assoc, List.append_assoc]
    refine br_nq fun head => H _ hx1 deep head _ (ni_cons (by decide)) (by simp) ?_
    rw [hc, List.cons_append, List.nil_append, List.cons_append, List.take_succ_cons, List.take_succ_cons]
    exact fun e => hc2 (List.cons.inj (List.cons.inj e).2).1
  rw [if_neg h20] at he ⊢
  have post : exF f (t.kid 0) = true → ∀ (d : UInt8) (z : List UInt8), (idB d = false ∧ d ≠ 44 ∧ d ≠ 32) → NQ (fstT (exT f) deep head (t.kid 0) ++ (d :: z)) := fun hx d z hd => by
   unfold fstT
   exact br_nq fun head => H _ hx deep head _ (ni_cons hd.1) (by simp [hd.2.1]) (take_ne hd.2.2)
  by_cases h21 : t.kind = 21
  · rw [if_pos h21] at he ⊢
    simp only [Bool.and_eq_true, Bool.not_eq_true', List.all_eq_true] at he
    have h3 : 0 < t.kids.length := by
     have := he.2.1
     cases h : t.kids with
     | nil => rw [h] at this; simp at this
     | cons a l => simp
    rw [List.append_assoc, List.append_assoc, List.append_assoc]
    exact post (he.2.2 _ (kid_mem' h3)) 40 _ (by decide)
  rw [if_neg h21] at he ⊢
  by_cases h22 : t.kind = 22
  · rw [if_pos h22] at he ⊢
    simp only [Bool.and_eq_true, decide_eq_true_eq, List.all_eq_true] at he
    rw [List.append_assoc, List.append_assoc, List.append_assoc]
    exact post he.2.2.1 91 _ (by decide)
  rw [if_neg h22] at he ⊢
  by_cases h23 : t.kind = 23
  · rw [if_pos h23] at he ⊢
    obtain ⟨_, _, h3⟩ := namB_parts he
    obtain ⟨x, hx, hx1⟩ := one_kid h3
    rw [← kid_one hx] at hx1
    rw [List.append_assoc, List.append_assoc]
    exact post hx1 46 _ (by decide)
  rw [if_neg h23] at he ⊢
  by_cases h24 : t.kind = 24
  · rw [if_pos h24] at he ⊢
    simp only [Bool.and_eq_true, Bool.not_eq_true', List.all_eq_true] at he
    split
    · rw [List.append_assoc, List.append_assoc]; exact nq_head (by decide)
    · rw [List.append_assoc, List.append_assoc, List.append_assoc]
      have hty := he.2.2.2.1
      cases f with
      | zero => cases hty
      | succ f =>
       rcases tyF_kind hty with hk | hk | hk
       · obtain ⟨k1, _⟩ := ty_name_parts hty hk
         rw [typ_nm hk]
         split
         · exact nq_name (nmB_ids k1).1 (nm_kw k1) (ni_cons (by decide)) (by simp) (take_ne (by decide))
         · rw [List.append_assoc, List.append_assoc, List.append_assoc]
           exact nq_name (nmB_ids k1).1 (nm_kw k1) (ni_cons (by decide)) (by simp) (take_ne (by decide))
       · rw [typ_text11 hk]; exact nq_head (by decide)
       · rw [typ_text12 hty hk]
         obtain ⟨l, hl⟩ := sig_open (typF f) (t.kid 0)
         rw [hl, List.cons_append, List.cons_append, List.cons_append, List.cons_append]
         exact nq_name (a := [102, 117, 110, 99]) (by decide) kw_func (ni_cons (by decide)) (by simp) (take_ne (by decide))
  rw [if_neg h24] at he ⊢
  rw [if_pos (ofB_parts he).1]
  obtain ⟨l, hl⟩ := sig_open (typF f) (t.kid 0)
  rw [hl, List.append_assoc, List.append_assoc, List.append_assoc]
  exact nq_name (a := wFunc) (by decide) kw_func (ni_cons (by decide)) (by simp) (take_ne (by decide))
structure FS (r : List UInt8) : Prop where
 fu : FU r
 op : opAt r = none
 t4 : r.take 4 ≠ sShort
 t3 : r.take 3 ≠ [32, 61, 32]
 t2 : ¬ (r.take 2 = [43, 43] ∨ r.take 2 = [45, 45])
 c : r.head? ≠ some 44
theorem fs_cons {c : UInt8} {r : List UInt8} (h : (idB c = false ∧ c ≠ 40 ∧ c ≠ 91 ∧ c ≠ 46 ∧ c ≠ 123) ∧ c ≠ 32 ∧ c ≠ 43 ∧ c ≠ 45 ∧ c ≠ 44) : FS (c :: r) :=
 ⟨fu_cons h.1, op_no (by simp [h.2.1]), take_ne h.2.1, fun e => h.2.1 (by rw [List.take_succ_cons] at e; exact (List.cons.inj e).1), fun e => by
  rw [List.take_succ_cons] at e
  rcases e with e | e
  · exact h.2.2.1 (List.cons.inj e).1
  · exact h.2.2.2.1 (List.cons.inj e).1, by simp [h.2.2.2.2]⟩
theorem op_none {c : UInt8} {r : List UInt8} (h : ∀ l, c :: l ∉ binS) (hc : c ≠ 32) : opAt (32 :: c :: r) = none := by
 show (if (c :: r).takeWhile (· != 32) ∈ binS then _ else none) = none
 rw [if_neg]
 rw [List.takeWhile_cons_of_pos (by simpa using hc)]
 exact h _
theorem brace_op (r : List UInt8) : opAt (32 :: 123 :: r) = none := op_none (fun l => by simp [binS]) (by decide)
theorem fs_brace (r : List UInt8) : FS (32 :: 123 :: r) :=
 ⟨fu_cons (by decide), brace_op r, by simp [sShort], by simp, by simp, by simp⟩
theorem assign_op (r : List UInt8) : opAt (32 :: 61 :: 32 :: r) = none := by simp [opAt, binS]
theorem short_op (r : List UInt8) : opAt (32 :: 58 :: 61 :: 32 :: r) = none := op_none (fun l => by simp [binS]) (by decide)
theorem si_eq (p : Mo → List UInt8 → Rd) (head : Bool) (deep : Nat) (s : List UInt8) : stepR p (.si head deep) s = (match p (.ex 1 head deep) s with
  | some (e, r) => if r.take 4 = [32, 58, 61, 32] then mp (fun x => mkN 26 e.text [x]) (p (.ex 1 head deep) (r.drop 4))
   else if r.take 3 = [32, 61, 32] then mp (fun x => mkN 27 [] [e, x]) (p (.ex 1 head deep) (r.drop 3))
   else if r.take 2 = [43, 43] ∨ r.take 2 = [45, 45] then some (mkN 28 (r.take 2) [e], r.drop 2)
   else some (mkN 29 [] [e], r)
  | none => none) := rfl
theorem si_ev {f : Nat} (H : EH f) {t : Nd} (hs : t.size ≤ f + 1) (h : SimB (exF f) t) (deep : Nat) (head : Bool) {r : List UInt8} (hr : FS r) : Ev (.si head deep) (simT (exT f) deep head t ++ r) (strip t) r := by
 unfold simT
 rcases h with h | h | h | h
 · have hk := (namB_parts h).1
   rw [if_pos hk]
   unfold shB at h
   obtain ⟨_, h2, h3⟩ := namB_parts h
   obtain ⟨x, hx, hx1⟩ := one_kid h3
   rw [strip_at hk rfl hx, kid_one hx]
   obtain ⟨M, m1⟩ := ex_ev1 (H x (by have := size_one hx; omega) hx1).2.2 deep head hr.fu hr.op
   obtain ⟨N, n1⟩ : Ev (.ex 1 head deep) (t.text ++ (32 :: 58 :: 61 :: 32 :: (exT f deep head x ++ r))) (mkN 18 t.text []) (32 :: 58 :: 61 :: 32 :: (exT f deep head x ++ r)) :=
    ex_of (un_name (bnd_nm h2) (ni_cons (by decide)) head deep _ _ (sf_stop (fu_cons (by decide)))) _ _ (lp_stop fun o q e => by rw [short_op] at e; cases e)
   refine Ev.of ⟨N + M, fun n hn => ?_⟩
   rw [show t.text ++ [32, 58, 61, 32] ++ exT f deep head x ++ r = t.text ++ (32 :: 58 :: 61 :: 32 :: (exT f deep head x ++ r)) by simp, si_eq, n1 n (by omega)]
   show (if _ then mp _ (P n (.ex 1 head deep) (exT f deep head x ++ r)) else _) = _
   rw [if_pos (by simp), m1 n (by omega)]
   rfl
 · have hk := (ofB_parts h).1
   rw [if_neg (by omega), if_pos hk]
   unfold setB at h
   obtain ⟨_, ht, h3⟩ := ofB_parts h
   obtain ⟨x, y, hxy, hx1, hy1⟩ := two_kids h3
   obtain ⟨e0, e1⟩ := kid_two hxy
   have hsz := size_two hxy
   rw [strip_at hk ht hxy, e0, e1]
   obtain ⟨M, m1⟩ := ex_ev1 (H y (by omega) hy1).2.2 deep head hr.fu hr.op
   obtain ⟨N, n1⟩ := ex_ev1 (H x (by omega) hx1).2.2 deep head (r := 32 :: 61 :: 32 :: (exT f deep head y ++ r)) (fu_cons (by decide)) (assign_op _)
   refine Ev.of ⟨N + M, fun n hn => ?_⟩
   rw [show exT f deep head x ++ [32, 61, 32] ++ exT f deep head y ++ r = exT f deep head x ++ (32 :: 61 :: 32 :: (exT f deep head y ++ r)) by simp, si_eq, n1 n (by omega)]
   show (if _ then _ else if _ then mp _ (P n (.ex 1 head deep) (exT f deep head y ++ r)) else _) = _
   rw [if_neg (by simp), if_pos (by simp), m1 n (by omega)]
   rfl
 · have hk := (namB_parts h).1
   rw [if_neg (by omega), if_neg (by omega), if_pos hk]
   unfold incrB at h
   obtain ⟨_, h2, h3⟩ := namB_parts h
   obtain ⟨x, hx, hx1⟩ := one_kid h3
   rw [strip_at hk rfl hx, kid_one hx]
   unfold incB at h2
   simp only [Bool.or_eq_true, beq_iff_eq] at h2
   have HX := (H x (by have := size_one hx; omega) hx1).2.2
   rw [List.append_assoc]
   rcases h2 with h2 | h2
   · rw [h2]
     obtain ⟨N, n1⟩ := ex_ev1 HX deep head (r := 43 :: 43 :: r) (fu_cons (by decide)) (op_no (by simp))
     refine Ev.of ⟨N, fun n hn => ?_⟩
     rw [show [43, 43] ++ r = 43 :: 43 :: r from rfl, si_eq, n1 n hn]
     show (if _ then _ else if _ then _ else if _ then _ else _) = _
     rw [if_neg (by simp), if_neg (by simp), if_pos (by simp)]
     rfl
   · rw [h2]
     obtain ⟨N, n1⟩ := ex_ev1 HX deep head (r := 45 :: 45 :: r) (fu_cons (by decide)) (op_no (by simp))
     refine Ev.of ⟨N, fun n hn => ?_⟩
     rw [show [45, 45] ++ r = 45 :: 45 :: r from rfl, si_eq, n1 n hn]
     show (if _ then _ else if _ then _ else if _ then _ else _) = _
     rw [if_neg (by simp), if_neg (by simp), if_pos (by simp)]
     rfl
 · have hk := (ofB_parts h).1
   rw [if_neg (by omega), if_neg (by omega), if_neg (by omega)]
   unfold callB at h
   obtain ⟨_, ht, h3⟩ := ofB_parts h
   obtain ⟨x, hx, hx1⟩ := one_kid h3
   unfold isCallB at hx1
   rw [Bool.and_eq_true] at hx1
   rw [strip_at hk ht hx, kid_one hx]
   obtain ⟨N, n1⟩ := ex_ev1 (H x (by have := size_one hx; omega) hx1.2).2.2 deep head hr.fu hr.op
   refine Ev.of ⟨N, fun n hn => ?_⟩
   rw [si_eq, n1 n hn]
   show (if _ then _ else if _ then _ else if _ then _ else _) = _
   rw [if_neg (show ¬ r.take 4 = [32, 58, 61, 32] from hr.t4), if_neg hr.t3, if_neg hr.t2]
   rfl
theorem tabs_len (d : Nat) : (tabsT d).length = d := by unfold tabsT; exact List.length_replicate
theorem ev_sts {d : Nat} {st : Nd → List UInt8} : ∀ {l : List Nd}, (∀ x ∈ l, ∀ r, r.head? = some 10 → Ev (.st d) (st x ++ r) (strip x) r) → ∀ r, r.take d ≠ tabsT d → Ev (.sts d) ((l.map fun k => lineT d (st k)).flatten ++ r) (mkN 0 [] (l.map strip)) r
 | [], _, r, hr => Ev.of ⟨0, fun n _ => by
  show (if r.take d = tabsT d then _ else some (mkN 0 [] [], r)) = _
  rw [if_neg hr]
  rfl⟩
 | x :: l, h, r, hr => by
  obtain ⟨N, h1⟩ := h x (by simp) (10 :: ((l.map fun k => lineT d (st k)).flatten ++ r)) rfl
  obtain ⟨M, h2⟩ := ev_sts (l := l) (fun z hz => h z (by simp [hz])) r hr
  refine Ev.of ⟨N + M, fun n hn => ?_⟩
  have e : ((x :: l).map fun k => lineT d (st k)).flatten ++ r = tabsT d ++ (st x ++ 10 :: ((l.map fun k => lineT d (st k)).flatten ++ r)) := by
   rw [List.map_cons, List.flatten_cons]
   unfold lineT
   simp
  have e1 : (tabsT d ++ (st x ++ 10 :: ((l.map fun k => lineT d (st k)).flatten ++ r))).take d = tabsT d := by
   have := List.take_left (l₁ := tabsT d) (l₂ := st x ++ 10 :: ((l.map fun k => lineT d (st k)).flatten ++ r))
   rwa [tabs_len] at this
  have e2 : (tabsT d ++ (st x ++ 10 :: ((l.map fun k => lineT d (st k)).flatten ++ r))).drop d = st x ++ 10 :: ((l.map fun k => lineT d (st k)).flatten ++ r) := by
   have := List.drop_left (l₁ := tabsT d) (l₂ := st x ++ 10 :: ((l.map fun k => lineT d (st k)).flatten ++ r))
   rwa [tabs_len] at this
  rw [e]
  show (if (tabsT d ++ _).take d = tabsT d then (match P n (.st d) ((tabsT d ++ _).drop d) with | some (x, 10 :: r) => mp _ (P n (.sts d) r) | _ => none) else _) = _
  rw [e1, e2, if_pos rfl, h1 n (by omega)]
  show mp _ (P n (.sts d) _) = _
  rw [h2 n (by omega)]
  rfl
theorem blk_ev {f : Nat} (HS : SH f) {t : Nd} (hs : t.size ≤ f + 1) (h : blkB (stF f) t = true) (deep : Nat) (r : List UInt8) : Ev (.bl deep) (blT (stT f) deep t ++ r) (strip t) r := by
 unfold blkB at h
 simp only [Bool.and_eq_true, List.all_eq_true, beq_iff_eq] at h
 rw [strip_at h.1 h.2.1 rfl]
 have hne : (tabsT deep ++ 125 :: r).take (deep + 1) ≠ tabsT (deep + 1) := fun e => by
  have h1 : (tabsT deep ++ 125 :: r).take (deep + 1) = tabsT deep ++ [125] := by
   rw [List.take_append, tabs_len, show deep + 1 - deep = 1 by omega, List.take_of_length_le (by rw [tabs_len]; omega)]
   rfl
  rw [h1] at e
  unfold tabsT at e
  rw [List.replicate_succ'] at e
  have := (List.append_inj e rfl).2
  simp at this
 obtain ⟨N, h1⟩ := ev_sts (d := deep + 1) (st := stT f (deep + 1)) (l := t.kids) (fun x hx r hr => HS x (by have := Nd.size_kid hx; omega) (h.2.2 x hx) (deep + 1) r hr) (tabsT deep ++ 125 :: r) hne
 refine Ev.of ⟨N, fun n hn => ?_⟩
 have e : blT (stT f) deep t ++ r = 123 :: 10 :: ((t.kids.map fun k => lineT (deep + 1) (stT f (deep + 1) k)).flatten ++ (tabsT deep ++ 125 :: r)) := by
  unfold blT
  simp
 have e1 : (tabsT deep ++ 125 :: r).take deep = tabsT deep := by
  have := List.take_left (l₁ := tabsT deep) (l₂ := 125 :: r)
  rwa [tabs_len] at this
 have e2 : (tabsT deep ++ 125 :: r).drop deep = 125 :: r := by
  have := List.drop_left (l₁ := tabsT deep) (l₂ := 125 :: r)
  rwa [tabs_len] at this
 rw [e]
 show (match P n (.sts (deep + 1)) _ with | some (l, r') => if r'.take deep = tabsT deep then (match r'.drop deep with | 125 :: r2 => some (mkN 36 [] l.kids, r2) | _ => none) else none | none => none) = _
 rw [h1 n hn]
 show (if (tabsT deep ++ 125 :: r).take deep = tabsT deep then (match (tabsT deep ++ 125 :: r).drop deep with | 125 :: r2 => some (mkN 36 [] _, r2) | _ => none) else none) = _
 rw [e1, e2, if_pos rfl]
 rfl
end Go.Proofs.YthbmjamgidfneaaGreatDoor
