import Derived.Test.YthbmjamgidfneaaGreatDoorVAb
import Derived.Test.YthbmjamgidfneaaGreatDoorVAf
import Derived.Test.YthbmjamgidfneaaGreatDoorVAo
set_option maxRecDepth 100000
set_option maxHeartbeats 6400000
namespace Go.Proofs.YthbmjamgidfneaaGreatDoor
open Go.Lib
set_option linter.unusedVariables false
set_option linter.unusedSimpArgs false
theorem st_eq (p : Mo → List UInt8 → Rd) (deep : Nat) (s : List UInt8) : stepR p (.st deep) s = (if idR s = kVar then
   (match (match idT ((idT s).drop 1) with
    | 32 :: c :: r3 => if tyC c = true then p .ty (c :: r3) else some (zN, idT ((idT s).drop 1))
    | _ => some (zN, idT ((idT s).drop 1))) with
   | some (x, r4) => if r4.take 3 = [32, 61, 32] then mp (fun e => mkN 5 (idR ((idT s).drop 1)) [x, e]) (p (.ex 1 false deep) (r4.drop 3)) else some (mkN 5 (idR ((idT s).drop 1)) [x, zN], r4)
   | none => none)
  else if idR s = kIf then (match p (.ex 1 true deep) ((idT s).drop 1) with
   | some (c, _ :: r2) => (match p (.bl deep) r2 with
    | some (b, r3) => if r3.take 6 = kElse then mp (fun e => mkN 30 [] [c, b, e]) (p (.st deep) (r3.drop 6)) else some (mkN 30 [] [c, b, zN], r3)
    | none => none)
   | _ => none)
  else if idR s = kFor then
   (if ((idT s).drop 1).head? = some 123 then mp (fun b => mkN 31 [] [zN, zN, zN, b]) (p (.bl deep) ((idT s).drop 1))
    else match rngAt ((idT s).drop 1) with
     | some (n, r2) => (match p (.ex 1 true deep) r2 with
      | some (e, _ :: r3) => mp (fun b => mkN 32 n [e, b]) (p (.bl deep) r3)
      | _ => none)
     | none => (match (if ((idT s).drop 1).head? = some 59 then some (zN, (idT s).drop 1) else p (.si true deep) ((idT s).drop 1)) with
      | some (i, 59 :: _ :: r2) => (match (if r2.head? = some 59 then some (zN, r2) else p (.ex 1 true deep) r2) with
       | some (c, _ :: _ :: r3) => (match (if r3.head? = some 123 then some (zN, 32 :: r3) else p (.si true deep) r3) with
        | some (q, _ :: r4) => mp (fun b => mkN 31 [] [i, c, q, b]) (p (.bl deep) r4)
        | _ => none)
       | _ => none)
      | some (i, _ :: r2) => mp (fun b => mkN 31 [] [zN, i.kid 0, zN, b]) (p (.bl deep) r2)
      | _ => none))
  else if idR s = kReturn then (match idT s with
   | 32 :: r => mp (fun e => mkN 33 [] [e]) (p (.ex 1 false deep) r)
   | r => some (mkN 33 [] [zN], r))
  else if idR s = kBreak then some (mkN 34 [] [], idT s)
  else if idR s = kCont then some (mkN 35 [] [], idT s)
  else if s.head? = some 123 then p (.bl deep) s
  else p (.si false deep) s) := rfl
theorem kw_at {w r : List UInt8} (hw : ∀ c ∈ w, idB c = true) (hr : NI r) : idR (w ++ r) = w ∧ idT (w ++ r) = r := ⟨idR_app hw hr, idT_app hw hr⟩
theorem nl_cons {r : List UInt8} (h : r.head? = some 10) : ∃ l, r = 10 :: l := by
 cases r with
 | nil => cases h
 | cons c l => rw [List.head?_cons] at h; injection h with h; subst h; exact ⟨l, rfl⟩
theorem st_not (p : Mo → List UInt8 → Rd) (deep : Nat) (s : List UInt8) (h : idR s ∉ KW) : stepR p (.st deep) s = (if s.head? = some 123 then p (.bl deep) s else p (.si false deep) s) := by
 have n : ∀ w, w ∈ KW → idR s ≠ w := fun w hw e => h (e ▸ hw)
 rw [st_eq, if_neg (n _ (by decide)), if_neg (n _ (by decide)), if_neg (n _ (by decide)), if_neg (n _ (by decide)), if_neg (n _ (by decide)), if_neg (n _ (by decide))]
theorem st_sim {f : Nat} (H : EH f) {t : Nd} (hs : t.size ≤ f + 1) (h : SimB (exF f) t) (deep : Nat) {r : List UInt8} (hr : r.head? = some 10) (hk : idR (simT (exT f) deep false t ++ r) ∉ KW) (h123 : (simT (exT f) deep false t ++ r).head? ≠ some 123) : Ev (.st deep) (simT (exT f) deep false t ++ r) (strip t) r := by
 obtain ⟨l, rfl⟩ := nl_cons hr
 obtain ⟨N, h1⟩ := si_ev H hs h deep false (fs_cons (by decide) : FS (10 :: l))
 refine Ev.of ⟨N, fun n hn => ?_⟩
 rw [st_not _ _ _ hk, if_neg h123]
 exact h1 n hn
theorem sim_nq {f : Nat} {t : Nd} (h : SimB (exF f) t) (deep : Nat) (head : Bool) {r : List UInt8} (hr : FS r) :
  idR (simT (exT f) deep head t ++ r) ∉ KW ∧ OC (simT (exT f) deep head t) ∧ rngAt (simT (exT f) deep head t ++ r) = none := by
 have rn : ∀ {s : List UInt8}, NQ s → rngAt s = none := fun {s} h => by
  unfold rngAt
  rw [if_neg (fun e => h.kw (by rw [e]; decide))]
  have hc := h.c
  have ha := h.a
  cases hs : idT s with
  | nil => rfl
  | cons c l =>
   rw [hs] at hc ha
   rw [List.head?_cons] at hc
   have hc2 : c ≠ 44 := fun e => hc (by rw [e])
   have ht : (c :: l).take 10 ≠ [32, 58, 61, 32] ++ kRange ++ [32] := fun e => ha (by
    have := congrArg (List.take 4) e
    rw [List.take_take] at this
    exact this)
   show (match c :: l with | 44 :: 32 :: r => _ | r => _) = _
   split
   · rename_i e; exact absurd (List.cons.inj e).1 hc2
   · rw [if_neg ht]
 have viaNQ : ∀ {s : List UInt8}, NQ (s ++ r) → OC s → idR (s ++ r) ∉ KW ∧ OC s ∧ rngAt (s ++ r) = none := fun h1 h2 => ⟨h1.kw, h2, rn h1⟩
 unfold simT
 rcases h with h | h | h | h
 · have hk := (namB_parts h).1
   rw [if_pos hk]
   unfold shB at h
   obtain ⟨_, h2, h3⟩ := namB_parts h
   obtain ⟨x, hx, hx1⟩ := one_kid h3
   have hn := bnd_nm h2
   rw [kid_one hx, show t.text ++ [32, 58, 61, 32] ++ exT f deep head x ++ r = t.text ++ (32 :: 58 :: 61 :: 32 :: (exT f deep head x ++ r)) by simp]
   have hid := (nmB_ids hn).1
   have e1 := idR_app (r := 32 :: 58 :: 61 :: 32 :: (exT f deep head x ++ r)) hid (ni_cons (by decide))
   have e2 := idT_app (r := 32 :: 58 :: 61 :: 32 :: (exT f deep head x ++ r)) hid (ni_cons (by decide))
   refine ⟨by rw [e1]; exact nm_kw hn, ?_, ?_⟩
   · rw [List.append_assoc]; exact (nm_oc hn).app _
   · unfold rngAt
     rw [e1, e2, if_neg (fun e => nm_kw hn (by rw [e]; decide))]
     show (if (32 :: 58 :: 61 :: 32 :: (exT f deep head x ++ r)).take 10 = _ then _ else none) = none
     rw [if_neg]
     intro e
     have hq := (ex_nq f x hx1 deep head r hr.fu.ni hr.c hr.t4).kw
     have e3 : (exT f deep head x ++ r).take 6 = kRange ++ [32] := by
      have := congrArg (List.drop 4) e
      rw [List.drop_take] at this
      exact this
     have e4 : exT f deep head x ++ r = kRange ++ (32 :: (exT f deep head x ++ r).drop 6) := by
      conv => lhs; rw [← List.take_append_drop 6 (exT f deep head x ++ r), e3]
      simp
     rw [e4, (kw_at (by decide) (ni_cons (by decide))).1] at hq
     exact hq (by decide)
 · have hk := (ofB_parts h).1
   rw [if_neg (by omega), if_pos hk]
   unfold setB at h
   obtain ⟨_, ht, h3⟩ := ofB_parts h
   obtain ⟨x, y, hxy, hx1, hy1⟩ := two_kids h3
   obtain ⟨e0, e1⟩ := kid_two hxy
   rw [e0, e1]
   refine viaNQ ?_ ((by rw [List.append_assoc]; exact (ex_oc f x hx1 deep head).app _))
   rw [List.append_assoc, List.append_assoc]
   exact ex_nq f x hx1 deep head _ (ni_cons (by decide)) (by simp) (by simp [sShort])
 · have hk := (namB_parts h).1
   rw [if_neg (by omega), if_neg (by omega), if_pos hk]
   unfold incrB at h
   obtain ⟨_, h2, h3⟩ := namB_parts h
   obtain ⟨x, hx, hx1⟩ := one_kid h3
   rw [kid_one hx]
   refine viaNQ ?_ ((ex_oc f x hx1 deep head).app _)
   unfold incB at h2
   simp only [Bool.or_eq_true, beq_iff_eq] at h2
   rw [List.append_assoc]
   rcases h2 with h2 | h2 <;> rw [h2] <;> exact ex_nq f x hx1 deep head _ (ni_cons (by decide)) (by simp) (take_ne (by decide))
 · have hk := (ofB_parts h).1
   rw [if_neg (by omega), if_neg (by omega), if_neg (by omega)]
   unfold callB at h
   obtain ⟨_, ht, h3⟩ := ofB_parts h
   obtain ⟨x, hx, hx1⟩ := one_kid h3
   unfold isCallB at hx1
   rw [Bool.and_eq_true] at hx1
   rw [kid_one hx]
   exact viaNQ (ex_nq f x hx1.2 deep head r hr.fu.ni hr.c hr.t4) (ex_oc f x hx1.2 deep head)
theorem oc_head {s r : List UInt8} (h : OC s) {c : UInt8} (hc : okc c = false) : (s ++ r).head? ≠ some c := by
 obtain ⟨d, m, rfl, hd⟩ := h
 rw [List.cons_append, List.head?_cons]
 intro e
 injection e with e
 exact okc_ne hd hc e
theorem s_var {f : Nat} (H : EH f) {t : Nd} (hs : t.size ≤ f + 1) (hk : t.kind = 5) (h : varB (tyF nmB f) (exF f) t = true) (deep : Nat) {r : List UInt8} (hr : r.head? = some 10) : Ev (.st deep) (varT (typF f) (exT f) deep t ++ r) (strip t) r := by
 obtain ⟨q, rfl⟩ := nl_cons hr
 unfold varB at h
 rw [Bool.and_eq_true] at h
 obtain ⟨_, h2, h3⟩ := namB_parts h.1
 obtain ⟨x, y, hxy, hx1, hy1⟩ := two_kids h3
 obtain ⟨e0, e1⟩ := kid_two hxy
 have hsz := size_two hxy
 have hid := (nmB_ids h2).1
 unfold orB at hx1 hy1
 simp only [Bool.or_eq_true] at hx1 hy1
 rw [strip_at hk rfl hxy]
 unfold varT wVar
 rw [e0, e1]
 obtain ⟨V, hV⟩ : ∃ V, V = (if y.kind = 0 then [] else [32, 61, 32] ++ exT f deep false y) ++ 10 :: q := ⟨_, rfl⟩
 have vft : FT V := by
  rw [hV]
  split
  · exact ft_cons (by decide)
  · exact ⟨ni_cons (by decide), by simp, fun c l e => by
     have := (List.cons.inj (List.cons.inj e).2).1
     subst this
     decide⟩
 -- the value
 have hval : ∃ N, ∀ n, N ≤ n → ∀ z, (if V.take 3 = [32, 61, 32] then mp (fun e => mkN 5 t.text [z, e]) (P n (.ex 1 false deep) (V.drop 3)) else some (mkN 5 t.text [z, zN], V) : Rd) = some (mkN 5 t.text [z, strip y], 10 :: q) := by
  by_cases e : y.kind = 0
  · have hz : strip y = zN := strip_empty (hy1.elim id fun h => by have := exF_kind h; omega)
    rw [if_pos e, List.nil_append] at hV
    refine ⟨0, fun n _ z => ?_⟩
    rw [hV, if_neg (by simp), hz]
  · have hex := hy1.resolve_left fun h => e (emptyB_kind h)
    rw [if_neg e] at hV
    obtain ⟨N, h4⟩ := ex_ev1 (H y (by omega) hex).2.2 deep false (r := 10 :: q) (fu_cons (by decide)) (op_no (by simp))
    refine ⟨N, fun n hn z => ?_⟩
    rw [hV, if_pos (by simp)]
    show mp _ (P n (.ex 1 false deep) (exT f deep false y ++ 10 :: q)) = _
    rw [h4 n hn]
    rfl
 obtain ⟨N, h4⟩ := hval
 obtain ⟨T, hT⟩ : ∃ T, T = (if x.kind = 0 then [] else [32] ++ typF f x) ++ V := ⟨_, rfl⟩
 have es : [118, 97, 114] ++ [32] ++ t.text ++ (if x.kind = 0 then [] else [32] ++ typF f x) ++ (if y.kind = 0 then [] else [32, 61, 32] ++ exT f deep false y) ++ 10 :: q = kVar ++ (32 :: (t.text ++ T)) := by rw [hT, hV]; simp [kVar]
 have hTni : NI T := by
  rw [hT]
  split
  · exact vft.ni
  · exact ni_cons (by decide)
 have htyp : ∃ M, ∀ n, M ≤ n → (match T with
    | 32 :: c :: r3 => if tyC c = true then P n .ty (c :: r3) else some (zN, T)
    | _ => some (zN, T) : Rd) = some (strip x, V) := by
  by_cases e : x.kind = 0
  · have hz : strip x = zN := strip_empty (hx1.elim id fun h => by have := tyF_kind h; omega)
    rw [if_pos e, List.nil_append] at hT
    subst hT
    refine ⟨0, fun n _ => ?_⟩
    rw [hz]
    split
    · rename_i c r3 
      rw [if_neg (by rw [vft.sp _ _ rfl]; simp)]
    · rfl
  · have hty := hx1.resolve_left fun h => e (emptyB_kind h)
    rw [if_neg e] at hT
    obtain ⟨M, h5⟩ := ty_ev f x hty V vft
    obtain ⟨c, m, hcm, hc⟩ := ty_head f x hty
    refine ⟨M, fun n hn => ?_⟩
    have h6 := h5 n hn
    rw [hcm] at hT h6
    rw [hT]
    show (if tyC c = true then P n .ty (c :: (m ++ V)) else _) = _
    rw [if_pos hc]
    exact h6
 obtain ⟨M, h5⟩ := htyp
 refine Ev.of ⟨N + M, fun n hn => ?_⟩
 rw [es, st_eq]
 obtain ⟨k1, k2⟩ := kw_at (w := kVar) (r := 32 :: (t.text ++ T)) (by decide) (ni_cons (by decide))
 rw [k1, k2, if_pos rfl, List.drop_succ_cons, List.drop_zero, idR_app hid hTni, idT_app hid hTni, h5 n (by omega)]
 exact h4 n (by omega) (strip x)
theorem s_ret {f : Nat} (H : EH f) {t : Nd} (hs : t.size ≤ f + 1) (h : ofB 33 [orB emptyB (exF f)] t = true) (deep : Nat) {r : List UInt8} (hr : r.head? = some 10) : Ev (.st deep) ([114, 101, 116, 117, 114, 110] ++ (if (t.kid 0).kind = 0 then [] else [32] ++ exT f deep false (t.kid 0)) ++ r) (strip t) r := by
 obtain ⟨q, rfl⟩ := nl_cons hr
 obtain ⟨hk, ht, h3⟩ := ofB_parts h
 obtain ⟨x, hx, hx1⟩ := one_kid h3
 unfold orB at hx1
 simp only [Bool.or_eq_true] at hx1
 rw [strip_at hk ht hx, kid_one hx]
 have nk : ∀ w ∈ [kVar, kIf, kFor], kReturn ≠ w := by decide
 by_cases e : x.kind = 0
 · have hz : strip x = zN := strip_empty (hx1.elim id fun h => by have := exF_kind h; omega)
   rw [if_pos e, List.append_nil]
   refine Ev.of ⟨0, fun n _ => ?_⟩
   obtain ⟨k1, k2⟩ := kw_at (w := kReturn) (r := 10 :: q) (by decide) (ni_cons (by decide))
   rw [show [114, 101, 116, 117, 114, 110] ++ 10 :: q = kReturn ++ 10 :: q from rfl, st_eq, k1, k2, if_neg (nk _ (by decide)), if_neg (nk _ (by decide)), if_neg (nk _ (by decide)), if_pos rfl, List.map_cons, hz]
   rfl
 · have hex := hx1.resolve_left fun h => e (emptyB_kind h)
   obtain ⟨N, h4⟩ := ex_ev1 (H x (by have := size_one hx; omega) hex).2.2 deep false (r := 10 :: q) (fu_cons (by decide)) (op_no (by simp))
   rw [if_neg e]
   refine Ev.of ⟨N, fun n hn => ?_⟩
   obtain ⟨k1, k2⟩ := kw_at (w := kReturn) (r := 32 :: (exT f deep false x ++ 10 :: q)) (by decide) (ni_cons (by decide))
   rw [show [114, 101, 116, 117, 114, 110] ++ ([32] ++ exT f deep false x) ++ 10 :: q = kReturn ++ 32 :: (exT f deep false x ++ 10 :: q) by simp [kReturn], st_eq, k1, k2, if_neg (nk _ (by decide)), if_neg (nk _ (by decide)), if_neg (nk _ (by decide)), if_pos rfl]
   show mp _ (P n (.ex 1 false deep) (exT f deep false x ++ 10 :: q)) = _
   rw [h4 n hn]
   rfl
theorem s_word {w : List UInt8} {k : Int} (hw : w = kBreak ∧ k = 34 ∨ w = kCont ∧ k = 35) {t : Nd} (h : ofB k [] t = true) (deep : Nat) {r : List UInt8} (hr : r.head? = some 10) : Ev (.st deep) (w ++ r) (strip t) r := by
 obtain ⟨q, rfl⟩ := nl_cons hr
 obtain ⟨hk, ht, h3⟩ := ofB_parts h
 rw [strip_at hk ht (no_kids h3)]
 refine Ev.of ⟨0, fun n _ => ?_⟩
 have n1 : ∀ z ∈ [kVar, kIf, kFor, kReturn], kBreak ≠ z := by decide
 have n2 : ∀ z ∈ [kVar, kIf, kFor, kReturn, kBreak], kCont ≠ z := by decide
 rcases hw with ⟨rfl, rfl⟩ | ⟨rfl, rfl⟩
 · obtain ⟨k1, k2⟩ := kw_at (w := kBreak) (r := 10 :: q) (by decide) (ni_cons (by decide))
   rw [st_eq, k1, k2, if_neg (n1 _ (by decide)), if_neg (n1 _ (by decide)), if_neg (n1 _ (by decide)), if_neg (n1 _ (by decide)), if_pos rfl]
   rfl
 · obtain ⟨k1, k2⟩ := kw_at (w := kCont) (r := 10 :: q) (by decide) (ni_cons (by decide))
   rw [st_eq, k1, k2, if_neg (n2 _ (by decide)), if_neg (n2 _ (by decide)), if_neg (n2 _ (by decide)), if_neg (n2 _ (by decide)), if_neg (n2 _ (by decide)), if_pos rfl]
   rfl
theorem bl_head {st : StT} {deep : Nat} {t : Nd} : ∃ l, blT st deep t = 123 :: l := by unfold blT; exact ⟨_, by rw [List.append_assoc]; rfl⟩
theorem s_if {f : Nat} (H : EH f) (HS : SH f) {t : Nd} (hs : t.size ≤ f + 1) (h : ifsB (exF f) (stF f) t = true) (deep : Nat) {r : List UInt8} (hr : r.head? = some 10) :
  Ev (.st deep) ([105, 102, 32] ++ exT f deep true (t.kid 0) ++ [32] ++ blT (stT f) deep (t.kid 1) ++ (if (t.kid 2).kind = 0 then [] else [32, 101, 108, 115, 101, 32] ++ stT f deep (t.kid 2)) ++ r) (strip t) r := by
 obtain ⟨q, rfl⟩ := nl_cons hr
 unfold ifsB at h
 obtain ⟨hk, ht, h3⟩ := ofB_parts h
 obtain ⟨x, y, z, hxy, hx1, hy1, hz1⟩ := three_kids h3
 obtain ⟨e0, e1, e2⟩ := kid_three hxy
 have hsz := size_three hxy
 rw [strip_at hk ht hxy, e0, e1, e2]
 obtain ⟨V, hV⟩ : ∃ V, V = (if z.kind = 0 then [] else [32, 101, 108, 115, 101, 32] ++ stT f deep z) ++ 10 :: q := ⟨_, rfl⟩
 obtain ⟨bl, hbl⟩ := bl_head (st := stT f) (deep := deep) (t := y)
 obtain ⟨N, h1⟩ := ex_ev1 (H x (by omega) hx1).2.2 deep true (r := 32 :: (blT (stT f) deep y ++ V)) (by rw [hbl]; exact fu_cons (by decide)) (by rw [hbl]; exact brace_op _)
 obtain ⟨M, h2⟩ := blk_ev HS (t := y) (by omega) hy1 deep V
 have hel : ∃ K, ∀ n, K ≤ n → (if V.take 6 = kElse then mp (fun e => mkN 30 [] [strip x, strip y, e]) (P n (.st deep) (V.drop 6)) else some (mkN 30 [] [strip x, strip y, zN], V) : Rd) = some (mkN 30 [] [strip x, strip y, strip z], 10 :: q) := by
  unfold orB at hz1
  simp only [Bool.or_eq_true] at hz1
  by_cases e : z.kind = 0
  · have hz : strip z = zN := strip_empty (by
     rcases hz1 with (h | h) | h
     · exact h
     · unfold blkB at h
       simp only [Bool.and_eq_true, beq_iff_eq] at h
       have := h.1; omega
     · unfold ifB at h
       simp only [Bool.and_eq_true, beq_iff_eq] at h
       have := h.1; omega)
    rw [if_pos e, List.nil_append] at hV
    refine ⟨0, fun n _ => ?_⟩
    rw [hV, if_neg (by simp [kElse]), hz]
  · have hst : stF f z = true := by
     rcases hz1 with (h | h) | h
     · exact absurd (emptyB_kind h) e
     · exact stF_block (by omega) h
     · unfold ifB at h
       rw [Bool.and_eq_true] at h
       exact h.2
    rw [if_neg e] at hV
    obtain ⟨K, h4⟩ := HS z (by omega) hst deep (10 :: q) rfl
    refine ⟨K, fun n hn => ?_⟩
    rw [hV, if_pos (by simp [kElse])]
    show mp _ (P n (.st deep) (stT f deep z ++ 10 :: q)) = _
    rw [h4 n hn]
    rfl
 obtain ⟨K, h4⟩ := hel
 have nk : kIf ≠ kVar := by decide
 refine Ev.of ⟨N + M + K, fun n hn => ?_⟩
 have es : [105, 102, 32] ++ exT f deep true x ++ [32] ++ blT (stT f) deep y ++ (if z.kind = 0 then [] else [32, 101, 108, 115, 101, 32] ++ stT f deep z) ++ 10 :: q = kIf ++ (32 :: (exT f deep true x ++ (32 :: (blT (stT f) deep y ++ V)))) := by rw [hV]; simp [kIf]
 obtain ⟨k1, k2⟩ := kw_at (w := kIf) (r := 32 :: (exT f deep true x ++ (32 :: (blT (stT f) deep y ++ V)))) (by decide) (ni_cons (by decide))
 rw [es, st_eq, k1, k2, if_neg nk, if_pos rfl, List.drop_succ_cons, List.drop_zero, h1 n (by omega)]
 show (match P n (.bl deep) (blT (stT f) deep y ++ V) with | some (b, r3) => if r3.take 6 = kElse then mp (fun e => mkN 30 [] [strip x, b, e]) (P n (.st deep) (r3.drop 6)) else some (mkN 30 [] [strip x, b, zN], r3) | none => none) = _
 rw [h2 n (by omega)]
 exact h4 n (by omega)
theorem sast_for (p : Mo → List UInt8 → Rd) (deep : Nat) (s : List UInt8) : stepR p (.st deep) (kFor ++ (32 :: s)) = (if s.head? = some 123 then mp (fun b => mkN 31 [] [zN, zN, zN, b]) (p (.bl deep) s)
    else match rngAt s with
     | some (n, r2) => (match p (.ex 1 true deep) r2 with
      | some (e, _ :: r3) => mp (fun b => mkN 32 n [e, b]) (p (.bl deep) r3)
      | _ => none)
     | none => (match (if s.head? = some 59 then some (zN, s) else p (.si true deep) s) with
      | some (i, 59 :: _ :: r2) => (match (if r2.head? = some 59 then some (zN, r2) else p (.ex 1 true deep) r2) with
       | some (c, _ :: _ :: r3) => (match (if r3.head? = some 123 then some (zN, 32 :: r3) else p (.si true deep) r3) with
        | some (q, _ :: r4) => mp (fun b => mkN 31 [] [i, c, q, b]) (p (.bl deep) r4)
        | _ => none)
       | _ => none)
      | some (i, _ :: r2) => mp (fun b => mkN 31 [] [zN, i.kid 0, zN, b]) (p (.bl deep) r2)
      | _ => none)) := by
 obtain ⟨k1, k2⟩ := kw_at (w := kFor) (r := 32 :: s) (by decide) (ni_cons (by decide))
 have n1 : kFor ≠ kVar := by decide
 have n2 : kFor ≠ kIf := by decide
 rw [st_eq, k1, k2, if_neg n1, if_neg n2, if_pos rfl, List.drop_succ_cons, List.drop_zero]
 all_goals rfl
theorem rng_semi {c : UInt8} {s : List UInt8} (h : idB c = false ∧ c ≠ 44 ∧ c ≠ 32) : rngAt (c :: s) = none := by
 have hni : NI (c :: s) := ni_cons h.1
 have hk : [] ≠ kRange := by decide
 unfold rngAt
 rw [idR_ni hni, idT_ni hni, if_neg hk]
 split
 · rename_i e; exact absurd (List.cons.inj e).1 h.2.1
 · rw [if_neg (fun e => h.2.2 (by rw [List.take_succ_cons] at e; exact (List.cons.inj e).1))]
theorem s_for {f : Nat} (H : EH f) (HS : SH f) {t : Nd} (hs : t.size ≤ f + 1) (h : ofB 31 [orB (orB emptyB (shB (exF f))) (orB (setB (exF f)) (incrB (exF f))), orB emptyB (exF f), orB (orB emptyB (setB (exF f))) (orB (incrB (exF f)) (callB (exF f))), blkB (stF f)] t = true) (deep : Nat) {r : List UInt8} (hr : r.head? = some 10) :
  Ev (.st deep) (loopT (exT f) (stT f) deep t ++ r) (strip t) r := by
 obtain ⟨hk, ht, h3⟩ := ofB_parts h
 obtain ⟨x, y, z, u, hxy, hx1, hy1, hz1, hu1⟩ := four_kids h3
 obtain ⟨e0, e1, e2, e3⟩ := kid_four hxy
 have hsz := size_four hxy
 unfold orB at hx1 hy1 hz1
 simp only [Bool.or_eq_true] at hx1 hy1 hz1
 have hx0 : x.kind = 0 → strip x = zN := fun e => strip_empty (by
  rcases hx1 with (h | h) | (h | h)
  · exact h
  · have := (namB_parts h).1; omega
  · have := (ofB_parts h).1; omega
  · have := (namB_parts h).1; omega)
 have hz0 : z.kind = 0 → strip z = zN := fun e => strip_empty (by
  rcases hz1 with (h | h) | (h | h)
  · exact h
  · have := (ofB_parts h).1; omega
  · have := (namB_parts h).1; omega
  · have := (ofB_parts h).1; omega)
 have hy0 : y.kind = 0 → strip y = zN := fun e => strip_empty (hy1.elim id fun h => by have := exF_kind h; omega)
 have hx2 : x.kind ≠ 0 → SimB (exF f) x := fun h => by
  rcases hx1 with (h1 | h1) | (h1 | h1)
  · exact absurd (emptyB_kind h1) h
  · exact .inl h1
  · exact .inr (.inl h1)
  · exact .inr (.inr (.inl h1))
 have hy2 : y.kind ≠ 0 → exF f y = true := fun h => hy1.resolve_left fun h' => h (emptyB_kind h')
 have hz2 : z.kind ≠ 0 → SimB (exF f) z := fun h => by
  rcases hz1 with (h1 | h1) | (h1 | h1)
  · exact absurd (emptyB_kind h1) h
  · exact .inr (.inl h1)
  · exact .inr (.inr (.inl h1))
  · exact .inr (.inr (.inr h1))
 rw [strip_at hk ht hxy]
 obtain ⟨bl, hbl⟩ := bl_head (st := stT f) (deep := deep) (t := u)
 obtain ⟨B, hB⟩ : ∃ B, B = blT (stT f) deep u ++ r := ⟨_, rfl⟩
 have hB1 : B = 123 :: (bl ++ r) := by rw [hB, hbl]; rfl
 obtain ⟨NB, hb⟩ := blk_ev HS (t := u) (by omega) hu1 deep r
 rw [← hB] at hb
 unfold loopT wFor
 rw [e0, e1, e2, e3]
 by_cases h0 : x.kind ≠ 0 ∨ z.kind ≠ 0
 · rw [if_pos h0]
   -- the tail
   obtain ⟨Z, hZ⟩ : ∃ Z, Z = (if z.kind = 0 then [] else simT (exT f) deep true z ++ [32]) ++ B := ⟨_, rfl⟩
   have hpost : ∃ K, ∀ n, K ≤ n → (if Z.head? = some 123 then some (zN, 32 :: Z) else P n (.si true deep) Z : Rd) = some (strip z, 32 :: B) := by
    by_cases e : z.kind = 0
    · rw [if_pos e, List.nil_append] at hZ
      exact ⟨0, fun n _ => by rw [hZ, hB1, if_pos (by simp), hz0 e]⟩
    · rw [if_neg e] at hZ
      obtain ⟨K, h4⟩ := si_ev H (t := z) (by omega) (hz2 e) deep true (r := 32 :: B) (by rw [hB1]; exact fs_brace _)
      have hnq := sim_nq (hz2 e) deep true (r := 32 :: B) (by rw [hB1]; exact fs_brace _)
      refine ⟨K, fun n hn => ?_⟩
      rw [hZ, List.append_assoc, if_neg (oc_head hnq.2.1 (by decide))]
      exact h4 n hn
   obtain ⟨K, hp⟩ := hpost
   obtain ⟨Y, hY⟩ : ∃ Y, Y = (if y.kind = 0 then [] else exT f deep true y) ++ 59 :: 32 :: Z := ⟨_, rfl⟩
   have hcond : ∃ L, ∀ n, L ≤ n → (if Y.head? = some 59 then some (zN, Y) else P n (.ex 1 true deep) Y : Rd) = some (strip y, 59 :: 32 :: Z) := by
    by_cases e : y.kind = 0
    · rw [if_pos e, List.nil_append] at hY
      exact ⟨0, fun n _ => by rw [hY, if_pos (by simp), hy0 e]⟩
    · rw [if_neg e] at hY
      obtain ⟨L, h4⟩ := ex_ev1 (H y (by omega) (hy2 e)).2.2 deep true (r := 59 :: 32 :: Z) (fu_cons (by decide)) (op_no (by simp))
      refine ⟨L, fun n hn => ?_⟩
      rw [hY, if_neg (oc_head (ex_oc f y (hy2 e) deep true) (by decide))]
      exact h4 n hn
   obtain ⟨L, hc⟩ := hcond
   obtain ⟨X, hX⟩ : ∃ X, X = (if x.kind = 0 then [] else simT (exT f) deep true x) ++ 59 :: 32 :: Y := ⟨_, rfl⟩
   have hinit : rngAt X = none ∧ X.head? ≠ some 123 ∧ ∃ J, ∀ n, J ≤ n → (if X.head? = some 59 then some (zN, X) else P n (.si true deep) X : Rd) = some (strip x, 59 :: 32 :: Y) := by
    by_cases e : x.kind = 0
    · rw [if_pos e, List.nil_append] at hX
      exact ⟨by rw [hX]; exact rng_semi (by decide), by rw [hX]; simp, 0, fun n _ => by rw [hX, if_pos (by simp), hx0 e]⟩
    · rw [if_neg e] at hX
      have hfs : FS (59 :: 32 :: Y) := fs_cons (by decide)
      obtain ⟨J, h4⟩ := si_ev H (t := x) (by omega) (hx2 e) deep true hfs
      have hnq := sim_nq (hx2 e) deep true hfs
      refine ⟨by rw [hX]; exact hnq.2.2, by rw [hX]; exact oc_head hnq.2.1 (by decide), J, fun n hn => ?_⟩
      rw [hX, if_neg (oc_head hnq.2.1 (by decide))]
      exact h4 n hn
   obtain ⟨hr1, hr2, J, hi⟩ := hinit
   refine Ev.of ⟨J + L + K + NB, fun n hn => ?_⟩
   rw [show [102, 111, 114] ++ [32] ++ ((if x.kind = 0 then [] else simT (exT f) deep true x) ++ [59, 32] ++ (if y.kind = 0 then [] else exT f deep true y) ++ [59, 32] ++ (if z.kind = 0 then [] else simT (exT f) deep true z ++ [32])) ++ blT (stT f) deep u ++ r = kFor ++ (32 :: X) by rw [hX, hY, hZ, hB]; simp [kFor]]
   rw [sast_for, if_neg hr2, hr1]
   show (match (if X.head? = some 59 then some (zN, X) else P n (.si true deep) X : Rd) with | some (i, 59 :: _ :: r2) => _ | some (i, _ :: r2) => _ | _ => none) = _
   rw [hi n (by omega)]
   show (match (if Y.head? = some 59 then some (zN, Y) else P n (.ex 1 true deep) Y : Rd) with | some (c, _ :: _ :: r3) => _ | _ => none) = _
   rw [hc n (by omega)]
   show (match (if Z.head? = some 123 then some (zN, 32 :: Z) else P n (.si true deep) Z : Rd) with | some (q, _ :: r4) => _ | _ => none) = _
   rw [hp n (by omega)]
   show mp _ (P n (.bl deep) B) = _
   rw [hb n (by omega)]
   rfl
 · rw [if_neg h0]
   have hxk : x.kind = 0 := Decidable.byContradiction fun h => h0 (.inl h)
   have hzk : z.kind = 0 := Decidable.byContradiction fun h => h0 (.inr h)
   by_cases e : y.kind = 0
   · rw [if_pos e]
     refine Ev.of ⟨NB, fun n hn => ?_⟩
     rw [show [102, 111, 114] ++ [32] ++ [] ++ blT (stT f) deep u ++ r = kFor ++ (32 :: B) by rw [hB]; simp [kFor], sast_for, if_pos (by rw [hB1]; rfl), hb n hn, List.map_cons, List.map_cons, List.map_cons, hx0 hxk, hy0 e, hz0 hzk]
     rfl
   · rw [if_neg e]
     have hex := hy2 e
     have hnl : FS (32 :: B) := by rw [hB1]; exact fs_brace _
     obtain ⟨L, h4⟩ := ex_ev1 (H y (by omega) hex).2.2 deep true hnl.fu hnl.op
     have hnq := ex_nq f y hex deep true (32 :: B) hnl.fu.ni hnl.c hnl.t4
     have hoc := ex_oc f y hex deep true
     have hrng : rngAt (exT f deep true y ++ 32 :: B) = none := by
      unfold rngAt
      rw [if_neg (fun e => hnq.kw (by rw [e]; decide))]
      have hc := hnq.c
      have ha := hnq.a
      cases hs : idT (exT f deep true y ++ 32 :: B) with
      | nil => rfl
      | cons c l =>
       rw [hs] at hc ha
       rw [List.head?_cons] at hc
       have hc2 : c ≠ 44 := fun e => hc (by rw [e])
       have ht : (c :: l).take 10 ≠ [32, 58, 61, 32] ++ kRange ++ [32] := fun e => ha (by
        have := congrArg (List.take 4) e
        rw [List.take_take] at this
        exact this)
       show (match c :: l with | 44 :: 32 :: r => _ | r => _) = _
       split
       · rename_i e; exact absurd (List.cons.inj e).1 hc2
       · rw [if_neg ht]
     refine Ev.of ⟨L + NB + 1, fun n hn => ?_⟩
     rw [show [102, 111, 114] ++ [32] ++ (exT f deep true y ++ [32]) ++ blT (stT f) deep u ++ r = kFor ++ (32 :: (exT f deep true y ++ 32 :: B)) by rw [hB]; simp [kFor], sast_for, if_neg (oc_head hoc (by decide)), hrng]
     show (match (if (exT f deep true y ++ 32 :: B).head? = some 59 then some (zN, exT f deep true y ++ 32 :: B) else P n (.si true deep) (exT f deep true y ++ 32 :: B) : Rd) with | some (i, 59 :: _ :: r2) => _ | some (i, _ :: r2) => _ | _ => none) = _
     rw [if_neg (oc_head hoc (by decide))]
     have hsi : P n (.si true deep) (exT f deep true y ++ 32 :: B) = some (mkN 29 [] [strip y], 32 :: B) := by
      cases n with
      | zero => omega
      | succ n =>
       show stepR (P n) (.si true deep) _ = _
       rw [si_eq, h4 n (by omega)]
       show (if _ then _ else if _ then _ else if _ then _ else _) = _
       rw [if_neg (show ¬ (32 :: B).take 4 = [32, 58, 61, 32] from hnl.t4), if_neg hnl.t3, if_neg hnl.t2]
     rw [hsi]
     show mp _ (P n (.bl deep) B) = _
     rw [hb n (by omega), List.map_cons, List.map_cons, List.map_cons, hx0 hxk, hz0 hzk]
     rfl
theorem rngA_at {s : List UInt8} (h : rngB s = true) (z : List UInt8) : rngAt (rngT s ++ kRange ++ (32 :: z)) = some (s, z) := by
 have tail : ∀ a : List UInt8, nmB a = true → ∀ z, idR (a ++ ([32, 58, 61, 32] ++ kRange ++ 32 :: z)) = a ∧ idT (a ++ ([32, 58, 61, 32] ++ kRange ++ 32 :: z)) = [32, 58, 61, 32] ++ kRange ++ 32 :: z := fun a ha z =>
  kw_at (nmB_ids ha).1 (ni_cons (by decide))
 have one : ∀ a : List UInt8, nmB a = true → a.flatMap (fun c => if c = 44 then [44, 32] else [c]) = a := fun a ha => by
  have := (nmB_ids ha).1
  clear ha
  induction a with
  | nil => rfl
  | cons c a ih =>
   rw [List.flatMap_cons, ih fun d hd => this d (by simp [hd]), if_neg (id_ne (this c (by simp)) (by decide))]
   rfl
 have nr : ∀ a : List UInt8, nmB a = true → a ≠ kRange := fun a ha e => nm_kw ha (by rw [e]; decide)
 unfold rngB at h
 by_cases hc : s.contains 44 = true
 · rw [if_pos hc, Bool.and_eq_true] at h
   have hy := bnd_nm h.2
   have hsp : s = s.takeWhile (· != 44) ++ 44 :: (s.dropWhile (· != 44)).drop 1 := by
    conv => lhs; rw [← List.takeWhile_append_dropWhile (p := (· != 44)) (l := s)]
    cases hd : s.dropWhile (· != 44) with
    | nil => rw [hd] at hy; exact absurd hy (by decide)
    | cons y l =>
     have := List.head?_dropWhile_not (· != 44) s
     rw [hd] at this
     have : y = 44 := by simpa using this
     rw [this]; rfl
   obtain ⟨a, ha⟩ : ∃ a, a = s.takeWhile (· != 44) := ⟨_, rfl⟩
   obtain ⟨b, hb⟩ : ∃ b, b = (s.dropWhile (· != 44)).drop 1 := ⟨_, rfl⟩
   rw [← ha, ← hb] at hsp
   rw [← ha] at h
   rw [← hb] at hy
   subst hsp
   have hx := h.1
   have hne : a ++ 44 :: b ≠ [] := by simp
   unfold rngT
   rw [if_neg hne, List.flatMap_append, List.flatMap_cons, one a hx, one b hy, if_pos rfl]
   have e : a ++ ([44, 32] ++ b) ++ [32, 58, 61, 32] ++ kRange ++ 32 :: z = a ++ (44 :: 32 :: (b ++ ([32, 58, 61, 32] ++ kRange ++ 32 :: z))) := by simp
   rw [e]
   obtain ⟨k1, k2⟩ := kw_at (w := a) (r := 44 :: 32 :: (b ++ ([32, 58, 61, 32] ++ kRange ++ 32 :: z))) (nmB_ids hx).1 (ni_cons (by decide))
   obtain ⟨k3, k4⟩ := tail b hy z
   unfold rngAt
   rw [k1, k2, if_neg (nr a hx)]
   show (if (idT (b ++ ([32, 58, 61, 32] ++ kRange ++ 32 :: z))).take 10 = _ then some (a ++ 44 :: idR (b ++ ([32, 58, 61, 32] ++ kRange ++ 32 :: z)), (idT (b ++ ([32, 58, 61, 32] ++ kRange ++ 32 :: z))).drop 10) else none) = _
   rw [k3, k4, if_pos (show List.take 10 ([32, 58, 61, 32] ++ kRange ++ 32 :: z) = [32, 58, 61, 32] ++ kRange ++ [32] from rfl)]
   rfl
 · rw [if_neg hc] at h
   simp only [Bool.or_eq_true, beq_iff_eq] at h
   unfold rngT
   rcases h with h | h
   · rw [if_pos h, h, List.nil_append]
     obtain ⟨k1, k2⟩ := kw_at (w := kRange) (r := 32 :: z) (by decide) (ni_cons (by decide))
     unfold rngAt
     rw [k1, k2, if_pos rfl]
     rfl
   · have hn := bnd_nm h
     have hne : s ≠ [] := (nmB_ids hn).2
     rw [if_neg hne, one s hn]
     have e : s ++ [32, 58, 61, 32] ++ kRange ++ 32 :: z = s ++ ([32, 58, 61, 32] ++ kRange ++ 32 :: z) := by simp
     obtain ⟨k3, k4⟩ := tail s hn z
     unfold rngAt
     rw [e, k3, k4, if_neg (nr s hn)]
     show (if ([32, 58, 61, 32] ++ kRange ++ 32 :: z).take 10 = _ then some (s, ([32, 58, 61, 32] ++ kRange ++ 32 :: z).drop 10) else none) = _
     rw [if_pos (show List.take 10 ([32, 58, 61, 32] ++ kRange ++ 32 :: z) = [32, 58, 61, 32] ++ kRange ++ [32] from rfl)]
     rfl
theorem s_range {f : Nat} (H : EH f) (HS : SH f) {t : Nd} (hs : t.size ≤ f + 1) (h : namB rngB 32 [exF f, blkB (stF f)] t = true) (deep : Nat) {r : List UInt8} (hr : r.head? = some 10) :
  Ev (.st deep) (wFor ++ [32] ++ rngT t.text ++ [114, 97, 110, 103, 101, 32] ++ exT f deep true (t.kid 0) ++ [32] ++ blT (stT f) deep (t.kid 1) ++ r) (strip t) r := by
 obtain ⟨hk, hn, h3⟩ := namB_parts h
 obtain ⟨x, y, hxy, hx1, hy1⟩ := two_kids h3
 obtain ⟨e0, e1⟩ := kid_two hxy
 have hsz := size_two hxy
 rw [strip_at hk rfl hxy, e0, e1]
 obtain ⟨bl, hbl⟩ := bl_head (st := stT f) (deep := deep) (t := y)
 obtain ⟨B, hB⟩ : ∃ B, B = blT (stT f) deep y ++ r := ⟨_, rfl⟩
 have hB1 : B = 123 :: (bl ++ r) := by rw [hB, hbl]; rfl
 obtain ⟨NB, hb⟩ := blk_ev HS (t := y) (by omega) hy1 deep r
 rw [← hB] at hb
 have hnl : FS (32 :: B) := by rw [hB1]; exact fs_brace _
 obtain ⟨L, h4⟩ := ex_ev1 (H x (by omega) hx1).2.2 deep true hnl.fu hnl.op
 have hra := rngA_at hn (exT f deep true x ++ 32 :: B)
 obtain ⟨S, hS⟩ : ∃ S, S = rngT t.text ++ kRange ++ (32 :: (exT f deep true x ++ 32 :: B)) := ⟨_, rfl⟩
 rw [← hS] at hra
 have h123 : S.head? ≠ some 123 := by
  rw [hS]
  unfold rngT
  split
  · simp [kRange]
  · rename_i hne
    have hids := rng_ids hn
    cases htx : t.text with
    | nil => exact absurd htx hne
    | cons c l =>
     have hc := hids c (by rw [htx]; simp)
     rw [List.flatMap_cons]
     rcases hc with hc | hc
     · rw [if_neg (id_ne hc (by decide))]
       simp only [List.cons_append, List.nil_append, List.head?_cons]
       intro e
       injection e with e
       exact id_ne hc (by decide) e
     · rw [if_pos hc]
       simp
 refine Ev.of ⟨L + NB, fun n hn => ?_⟩
 rw [show wFor ++ [32] ++ rngT t.text ++ [114, 97, 110, 103, 101, 32] ++ exT f deep true x ++ [32] ++ blT (stT f) deep y ++ r = kFor ++ (32 :: S) by rw [hS, hB]; simp [kFor, wFor, kRange], sast_for, if_neg h123, hra]
 show (match P n (.ex 1 true deep) (exT f deep true x ++ 32 :: B) with | some (e, _ :: r3) => mp (fun b => mkN 32 t.text [e, b]) (P n (.bl deep) r3) | _ => none) = _
 rw [h4 n (by omega)]
 show mp _ (P n (.bl deep) B) = _
 rw [hb n (by omega)]
 rfl
theorem sh_step (f : Nat) (H : EH f) (HS : SH f) : SH (f + 1) := by
 intro t hs he deep r hr
 obtain ⟨q, hq⟩ := nl_cons hr
 have hfs : FS r := by rw [hq]; exact fs_cons (by decide)
 have sim : SimB (exF f) t → Ev (.st deep) (simT (exT f) deep false t ++ r) (strip t) r := fun h => by
  have hn := sim_nq h deep false hfs
  exact st_sim H hs h deep hr hn.1 (oc_head hn.2.1 (by decide))
 rw [stF_succ] at he
 rw [stT_succ]
 unfold stB at he
 unfold stT1
 by_cases h5 : t.kind = 5
 · rw [if_pos h5] at he ⊢
   exact s_var H hs h5 he deep hr
 rw [if_neg h5] at he ⊢
 by_cases h26 : t.kind = 26
 · rw [if_pos h26] at he
   rw [if_pos (.inl h26)]
   exact sim (.inl he)
 rw [if_neg h26] at he
 by_cases h27 : t.kind = 27
 · rw [if_pos h27] at he
   rw [if_pos (.inr (.inl h27))]
   exact sim (.inr (.inl he))
 rw [if_neg h27] at he
 by_cases h28 : t.kind = 28
 · rw [if_pos h28] at he
   rw [if_pos (.inr (.inr (.inl h28)))]
   exact sim (.inr (.inr (.inl he)))
 rw [if_neg h28] at he
 by_cases h29 : t.kind = 29
 · rw [if_pos h29] at he
   rw [if_pos (.inr (.inr (.inr h29)))]
   exact sim (.inr (.inr (.inr he)))
 rw [if_neg h29] at he
 rw [if_neg (by omega)]
 by_cases h30 : t.kind = 30
 · rw [if_pos h30] at he ⊢
   exact s_if H HS hs he deep hr
 rw [if_neg h30] at he ⊢
 by_cases h31 : t.kind = 31
 · rw [if_pos h31] at he ⊢
   exact s_for H HS hs he deep hr
 rw [if_neg h31] at he ⊢
 by_cases h32 : t.kind = 32
 · rw [if_pos h32] at he ⊢
   exact s_range H HS hs he deep hr
 rw [if_neg h32] at he ⊢
 by_cases h33 : t.kind = 33
 · rw [if_pos h33] at he ⊢
   exact s_ret H hs he deep hr
 rw [if_neg h33] at he ⊢
 by_cases h34 : t.kind = 34
 · rw [if_pos h34] at he ⊢
   exact s_word (.inl ⟨rfl, rfl⟩) he deep hr
 rw [if_neg h34] at he ⊢
 by_cases h35 : t.kind = 35
 · rw [if_pos h35] at he ⊢
   exact s_word (.inr ⟨rfl, rfl⟩) he deep hr
 rw [if_neg h35] at he ⊢
 obtain ⟨N, h1⟩ := blk_ev HS hs he deep r
 obtain ⟨l, hl⟩ := bl_head (st := stT f) (deep := deep) (t := t)
 refine Ev.of ⟨N, fun n hn => ?_⟩
 have hni : NI (blT (stT f) deep t ++ r) := by rw [hl]; exact ni_cons (by decide)
 rw [st_not _ _ _ (by rw [idR_ni hni]; exact kw_nil), if_pos (by rw [hl]; rfl)]
 exact h1 n hn
theorem eh_all : ∀ f, EH f ∧ SH f
 | 0 => ⟨fun t hs => by have := t.size_pos; omega, fun t hs => by have := t.size_pos; omega⟩
 | f + 1 => by
  have ih := eh_all f
  exact ⟨eh_step f ih.1 fun t ht h deep r => blk_ev ih.2 (by omega) h deep r, sh_step f ih.1 ih.2⟩
theorem ex_apart {f g : Nat} {a b : Nd} (ha : a.size ≤ f) (hb : b.size ≤ g) (h1 : exF f a = true) (h2 : exF g b = true) (h : exT f 0 false a = exT g 0 false b) : strip a = strip b := by
 have k1 := ex_ev1 ((eh_all f).1 a ha h1).2.2 0 false (r := []) ⟨(fun c h => by cases h), by simp, by simp, by simp, by simp⟩ (op_no (by simp))
 have k2 := ex_ev1 ((eh_all g).1 b hb h2).2.2 0 false (r := []) ⟨(fun c h => by cases h), by simp, by simp, by simp, by simp⟩ (op_no (by simp))
 rw [h] at k1
 exact (k1.one k2).1
theorem ty_apart {f g : Nat} {a b : Nd} (h1 : tyF nmB f a = true) (h2 : tyF nmB g b = true) (h : typF f a = typF g b) : strip a = strip b := by
 have k1 := ty_ev f a h1 [] ⟨(fun c h => by cases h), by simp, (fun c l h => by cases h)⟩
 have k2 := ty_ev g b h2 [] ⟨(fun c h => by cases h), by simp, (fun c l h => by cases h)⟩
 rw [h] at k1
 exact (k1.one k2).1
end Go.Proofs.YthbmjamgidfneaaGreatDoor
