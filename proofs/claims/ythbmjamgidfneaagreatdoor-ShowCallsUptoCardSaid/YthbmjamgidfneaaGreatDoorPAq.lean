import Derived.Test.YthbmjamgidfneaaGreatDoorPAb
import Derived.Test.YthbmjamgidfneaaGreatDoorPAe
import Derived.Test.YthbmjamgidfneaaGreatDoorPAp
import Derived.Test.YthbmjamgidfneaaGreatDoorPAj
set_option maxRecDepth 100000
set_option maxHeartbeats 6400000
namespace Go.Proofs.YthbmjamgidfneaaGreatDoor
open Go.RowKit Go.Lib Go.BigFrame
set_option linter.unusedVariables false
set_option linter.unusedSimpArgs false
theorem join_flat (sep : List UInt8) : ∀ (l : List (List UInt8)) (a : List UInt8), Lib.join (a :: l) sep = a ++ (l.map fun x => sep ++ x).flatten
 | [], a => by simp [Lib.join, List.intercalate]
 | b :: l, a => by
  have h := join_flat sep l b
  have e : Lib.join (a :: b :: l) sep = a ++ sep ++ Lib.join (b :: l) sep := by simp [Lib.join, List.intercalate, List.intersperse]
  rw [e, h]; simp
def optP (sep x : List UInt8) : List UInt8 := if x = [] then [] else sep ++ x
theorem betw_flat (sep : List UInt8) (l : List (List UInt8)) (a : List UInt8) (ha : a ≠ []) : betw sep (a :: l) = a ++ (l.map (optP sep)).flatten := by
 unfold betw
 have e : (a :: l).filter (fun p => !p.isEmpty) = a :: l.filter (fun p => !p.isEmpty) := by
  rw [List.filter_cons_of_pos (by simpa using ha)]
 rw [e, join_flat]
 congr 1
 induction l with
 | nil => rfl
 | cons b l ih =>
  by_cases hb : b = []
  · subst hb
    rw [List.filter_cons_of_neg (by simp)]
    simp only [List.map_cons, List.flatten_cons, optP, if_pos, List.nil_append]
    exact ih (by rw [List.filter_cons_of_pos (by simpa using ha)])
  · rw [List.filter_cons_of_pos (by simpa using hb)]
    simp only [List.map_cons, List.flatten_cons]
    rw [ih (by rw [List.filter_cons_of_pos (by simpa using ha)])]
    simp only [optP, if_neg hb]
theorem optP_ne {sep x : List UInt8} (h : x ≠ []) : optP sep x = sep ++ x := by unfold optP; rw [if_neg h]
theorem optP_opt {sep : List UInt8} {p : Nd → List UInt8} {t : Nd} (h : t.kind ≠ 0 → p t ≠ []) : optP sep (optT p t) = if t.kind = 0 then [] else sep ++ p t := by
 unfold optT
 by_cases hk : t.kind = 0
 · rw [if_pos hk, if_pos hk]; rfl
 · rw [if_neg hk, if_neg hk, optP_ne (h hk)]
theorem isStrs_lit {w : World} {B : Nat} {l : List (List UInt8)} {n : Nat} {ty : TypeId} {fz : Nat × Nat} (h : w.heap[B]? = some (.cells (l.map fun s => Value.string ⟨s.toArray⟩).toArray ty fz)) (hn : n = l.length) : IsStrs none' w (.slice (some ⟨B, 0, none⟩) n n) l := by
 subst hn
 refine ⟨_, l.length, rfl, Nat.le_refl _, (fun h => by cases h), fun _ => ⟨B, 0, rfl, fun h => h, heap_lt h, fun i hi => ⟨[.string ⟨l[i].toArray⟩], fun j v hj => ?_, rfl⟩⟩⟩
 match j, hj with
 | 0, hj =>
  simp at hj; subst hj
  have := cell_at h i
  rw [Nat.zero_add, Nat.mul_one, Nat.add_zero, this]
  simp [hi]
def ExD (f : Nat) (t : Nd) : Prop := t.size ≤ f ∧ exF f t = true
theorem exT1_ne {ty : Nd → List UInt8} {ex : ExT} {st : StT} {deep : Nat} {head : Bool} {t : Nd} {p q r : Nd → Bool} (h : exB p q r t = true) : exT1 ty ex st deep head t ≠ [] := by
 unfold exB at h
 unfold exT1
 have nm0 : ∀ {s : List UInt8}, nmB s = true → s ≠ [] := fun h e => by subst e; rw [nmB_nil'] at h; cases h
 by_cases h17 : t.kind = 17
 · rw [if_pos h17]; unfold quoteP; simp
 rw [if_neg h17]
 rw [if_neg h17] at h
 by_cases h19 : t.kind = 19
 · rw [if_pos h19]
   rw [if_neg (by omega), if_neg (by omega), if_pos h19] at h
   have := (namB_parts h).2.1
   unfold unB at this
   simp only [Bool.or_eq_true, beq_iff_eq] at this
   rcases this with e | e <;> rw [e] <;> simp
 rw [if_neg h19]
 by_cases h20 : t.kind = 20
 · rw [if_pos h20]; simp
 rw [if_neg h20]
 by_cases h21 : t.kind = 21
 · rw [if_pos h21]; simp
 rw [if_neg h21]
 by_cases h22 : t.kind = 22
 · rw [if_pos h22]; simp
 rw [if_neg h22]
 by_cases h23 : t.kind = 23
 · rw [if_pos h23]; simp
 rw [if_neg h23]
 by_cases h24 : t.kind = 24
 · rw [if_pos h24]; split <;> simp
 rw [if_neg h24]
 by_cases h25 : t.kind = 25
 · rw [if_pos h25]; unfold wFunc; simp
 rw [if_neg h25]
 by_cases h16 : t.kind = 16
 · rw [if_pos h16] at h
   have := (namB_parts h).2.1
   intro e
   rw [e] at this
   revert this
   decide
 rw [if_neg h16] at h
 by_cases h18 : t.kind = 18
 · rw [if_pos h18] at h
   exact nm0 (namB_parts h).2.1
 rw [if_neg h18, if_neg h19, if_neg h20, if_neg h21, if_neg h22, if_neg h23, if_neg h24] at h
 exact absurd (ofB_parts h).1 h25
theorem exT_ne {f deep : Nat} {head : Bool} {t : Nd} (h : exF f t = true) : exT f deep head t ≠ [] := by
 cases f with
 | zero => cases h
 | succ f => exact exT1_ne h
theorem var1_any (f : Nat) (H : ExpH f) (deep : Nat) (hd : deep + f ≤ 1200000) (hf : f ≤ 1100000) (B : Nat) (t : Nd) (ht : ExD f t) (v : Value) (w : World) (hm : MaxL w) (hb : w.heap[B]? = some (.cells #[.int .i64 (deep : Nat), .bool false] 50 (0, 0))) (hv : NdV none' w t v) :
  Calls Tryz.prog 90 #[v, .pointer (some ⟨B, 0, none⟩)] w (StrPost ([61, 32] ++ exT f deep false t) w) := by
 have HL := (lens_all f deep hd).1 t ht.1 ht.2 false
 have hts := ht.1
 have CE := hid fun W (X : Ext none' w W) => H deep false hd t ht.1 ht.2 v W (maxL_later hm X) (hv.ext X fun _ _ h => h)
 obtain ⟨y, rfl, hy⟩ := hv
 obtain ⟨a1, cap1, rfl, _⟩ := hy
 obtain ⟨q, hq⟩ : ∃ q, exT f deep false t = q := ⟨_, rfl⟩
 rw [hq] at CE HL ⊢
 have hql : q.length ≤ 10000000000000 := by omega
 have cat1 := str_cat [61, 32] q
 obtain ⟨W0, hW0⟩ : ∃ W0, W0 = w.alloc (.cells #[.int .i64 t.kind, .string ⟨t.text.toArray⟩, .slice a1 t.kids.length cap1, .int .i64 t.pos] 24) := ⟨_, rfl⟩
 have X0 := hid (show Ext none' w W0 by rw [hW0]; exact (Ext.refl _ _).alloc _)
 have G0 := hid (X0.out.heap hb fun h => h)
 have G1 := hid (show W0.heap[w.heap.size]? = some (.cells #[.int .i64 t.kind, .string ⟨t.text.toArray⟩, .slice a1 t.kids.length cap1, .int .i64 t.pos] 24 (0, 0)) by rw [hW0]; exact heap_alloc_at rfl _)
 obtain ⟨C, hC⟩ : ∃ C, C = w.heap.size := ⟨_, rfl⟩
 rw [← hC] at G1
 clear hq HL ht hm H hd hf hts hb
 go_enter Tryz.func90, Tryz.ntmps90
 go_upto_region 1 with (fail)
 rw [← hW0, ← hC]
 clear hW0 hC
 have x0 := cell_at G0.out 0
 have x1 := cell_at G0.out 1
 have c0 := cell_at G1.out 0
 have c1 := cell_at G1.out 1
 have c2 := cell_at G1.out 2
 have c3 := cell_at G1.out 3
 simp only [List.getElem?_toArray, List.getElem?_cons_zero, List.getElem?_cons_succ] at x0 x1 c0 c1 c2 c3
 go_wp2_with fail
 refine (CE.out _ X0.out).mono ?_
 rintro e w1 ⟨rfl, X1⟩
 have X1 := hid (X0.out.trans X1)
 clear x0 x1 c0 c1 c2 c3
 go_wp2_with fail
 go_ret
 exact ⟨rfl, X1.out⟩
theorem var1_tell (f : Nat) (H : ExpH f) (deep : Nat) (hd : deep + f ≤ 1200000) (hf : f ≤ 1100000) (B : Nat) (w : World) (hm : MaxL w) (hb : w.heap[B]? = some (.cells #[.int .i64 (deep : Nat), .bool false] 50 (0, 0))) :
  TellV (ExD f) (fun x => [61, 32] ++ exT f deep false x) w (.func (.func 90) #[] #[.pointer (some ⟨B, 0, none⟩)]) :=
 ⟨_, _, _, rfl, Go.Proofs.enters_of Tryz.func90 (by kernel_rfl) rfl, fun t ht W x X hx => var1_any f H deep hd hf B t ht x W (maxL_later hm X) (X.heap hb fun h => h) hx⟩
theorem shvar_any (f : Nat) (H : ExpH f) (deep : Nat) (hd : deep + (f + 1) ≤ 1200000) (hf : f + 1 ≤ 1100000) (t : Nd) (ht : t.size ≤ f + 1) (he : varB (tyF nmB f) (exF f) t = true) (v : Value) (w : World) (hm : MaxL w) (hv : NdV none' w t v) :
  Calls Tryz.prog 45 #[shV deep false, v] w (StrPost (varT (typF f) (exT f) deep t) w) := by
 obtain ⟨y, rfl, hy⟩ := hv
 have HY := hid hy
 obtain ⟨a1, cap1, rfl, hcap, _⟩ := hy
 have hkl : t.kids.length ≤ 1100000 := by have := t.kids_len; omega
 obtain ⟨B, hB⟩ : ∃ B, B = w.heap.size := ⟨_, rfl⟩
 have BX := TwoBox.mk' (deep := deep) (head := false) (cs := #[.int .i64 t.kind, .string ⟨t.text.toArray⟩, .slice a1 t.kids.length cap1, .int .i64 t.pos]) hB
 obtain ⟨W0, hW0⟩ : ∃ W0, W0 = ((w.alloc (.cells #[.int .i64 (deep : Nat), .bool false] 50)).alloc (.cells #[.int .i64 t.kind, .string ⟨t.text.toArray⟩, .slice a1 t.kids.length cap1, .int .i64 t.pos] 24)) := ⟨_, rfl⟩
 rw [← hW0] at BX
 have BX := hid BX
 obtain ⟨rr, hrr⟩ : ∃ r, r = varT (typF f) (exT f) deep t := ⟨_, rfl⟩
 rw [← hrr]
 have he2 := he
 unfold varB at he2
 simp only [Bool.and_eq_true] at he2
 obtain ⟨hk5, htn, h3⟩ := namB_parts he2.1
 obtain ⟨x, y, hkx, hx1, hy1⟩ := two_kids h3
 obtain ⟨hx0, hy0⟩ := kid_two hkx
 have hsz := size_two hkx
 have hl : t.kids.length = 2 := by rw [hkx]; rfl
 have htl := nmB_len _ htn
 have hxD : x.kind ≠ 0 → TyD f x := fun h0 => by
  unfold orB at hx1
  simp only [Bool.or_eq_true] at hx1
  exact ⟨by omega, hx1.resolve_left fun h => h0 (emptyB_kind h)⟩
 have hyD : y.kind ≠ 0 → ExD f y := fun h0 => by
  unfold orB at hy1
  simp only [Bool.or_eq_true] at hy1
  exact ⟨by omega, hy1.resolve_left fun h => h0 (emptyB_kind h)⟩
 obtain ⟨o1, ho1⟩ : ∃ o, optT (fun x => [61, 32] ++ exT f deep false x) (t.kid 1) = o := ⟨_, rfl⟩
 obtain ⟨o0, ho0⟩ : ∃ o, optT (typF f) (t.kid 0) = o := ⟨_, rfl⟩
 have C1 := hid fun W (X : Ext none' W0 W) v' (hv' : NdV none' W (t.kid 1) v') => optional_any (ExD f) (fun x => [61, 32] ++ exT f deep false x) (t.kid 1) v' _ W hv' (var1_tell f H deep (by omega) (by omega) B W (maxL_later hm (BX.out.x.trans X)) (X.heap BX.out.g0 fun h => h)) (by rw [hy0]; exact hyD)
 have C0 := hid fun W v' (hv' : NdV none' W (t.kid 0) v') => optional_any (TyD f) (typF f) (t.kid 0) v' _ W hv' (typ_tell (typ_any f (by unfold bigD; omega)) W) (by rw [hx0]; exact hxD)
 have hl1 : o1.length ≤ 4000000 * y.size := by
  rw [← ho1, hy0]
  unfold optT
  split
  · simp
  · rename_i h0
    have := (lens_all f deep (by omega)).1 y (hyD h0).1 (hyD h0).2 false
    simp only [List.length_append, List.length_cons, List.length_nil]; omega
 have hl0 : o0.length ≤ 4000000 * x.size := by
  rw [← ho0, hx0]
  unfold optT
  split
  · simp
  · rename_i h0
    have := ty_len (hxD h0).2 (hxD h0).1
    omega
 have HR := hid (show betw [32] [wVar, t.text, o0, o1] = rr by
  have hn : t.text ≠ [] := fun e => by rw [e, nmB_nil'] at htn; cases htn
  rw [hrr, betw_flat _ _ _ (by unfold wVar; simp), ← ho0, ← ho1]
  unfold varT
  simp only [List.map_cons, List.map_nil, List.flatten_cons, List.flatten_nil, List.append_nil, List.append_assoc]
  rw [optP_ne hn, optP_opt fun h => ty_ne (by rw [hx0] at h ⊢; exact (hxD h).2), optP_opt fun h => by simp]
  simp)
 have CB := hid fun W u (hu : IsStrs none' W u [wVar, t.text, o0, o1]) => between_any [32] _ u W hu (by simp) (by simp only [Lib.lens, List.length_cons, List.length_nil, List.map_cons, List.map_nil, List.sum_cons, List.sum_nil, wVar]; omega)
 rw [HR.out] at CB
 rw [ho1] at C1
 rw [ho0] at C0
 unfold wVar at CB
 have y0 : (0 : Int) < (t.kids.length : Int) := by omega
 have y1 : (1 : Int) < (t.kids.length : Int) := by omega
 have hmf := mkf_run
 clear hrr ht hd hf hk5 he he2 htn h3 hkx hx1 hy1 hx0 hy0 hsz hl hxD hyD ho1 ho0 H hl1 hl0 HR
 go_enter Tryz.func45, Tryz.ntmps45
 go_upto_region 1 with (fail)
 rw [← hW0, ← hB]
 clear hW0 hB
 obtain ⟨b, off, z0, rfl, hbw, k00, k01, k02, k03, hz0⟩ := kid_val (HY.out.ext isNd_good BX.out.x fun _ _ h => h) 0 (by omega)
 obtain ⟨b', off', z1, e1, hbw1, k10, k11, k12, k13, hz1⟩ := kid_val (HY.out.ext isNd_good BX.out.x fun _ _ h => h) 1 (by omega)
 injection e1 with e1
 injection e1 with e1 e2 _
 subst e1 e2
 simp only [Nat.zero_mul, Nat.one_mul, Nat.add_zero] at k00 k01 k02 k03 k10 k11 k12 k13
 have HZ0 := hid hz0
 obtain ⟨a2, cap2, rfl, _⟩ := hz0
 have HZ1 := hid hz1
 obtain ⟨a3, cap3, rfl, _⟩ := hz1
 obtain ⟨x0, x1⟩ := cell2 BX.out.g0
 obtain ⟨c0, c1, c2, c3⟩ := cell4 BX.out.g1
 go_wp2_with fail
 refine (C1.out _ (Ext.refl _ _) _ ⟨_, rfl, HZ1.out⟩).mono ?_
 rintro e w1 ⟨rfl, X1⟩
 have X1 := hid X1
 clear x0 x1 c0 c1 c2 c3
 have m00 := (X1.out.cell (p := ⟨b, off, none⟩) hbw (fun h => h)).trans k00
 have m01 := (X1.out.cell (p := ⟨b, off + 1, none⟩) hbw (fun h => h)).trans k01
 have m02 := (X1.out.cell (p := ⟨b, off + 2, none⟩) hbw (fun h => h)).trans k02
 have m03 := (X1.out.cell (p := ⟨b, off + 3, none⟩) hbw (fun h => h)).trans k03
 have hbw1 := Nat.lt_of_lt_of_le hbw X1.out.size
 clear k00 k01 k02 k03 k10 k11 k12 k13
 go_upto_region 2 with (fail)
 have BX := hid (BX.out.ext X1.out)
 obtain ⟨x0, x1⟩ := cell2L fun t' : LaterF none' w1 => t'.x.heap BX.out.g0 fun h => h
 obtain ⟨c0, c1, c2, c3⟩ := cell4L fun t' : LaterF none' w1 => t'.x.heap BX.out.g1 fun h => h
 have m00 := fun t' : LaterF none' w1 => (t'.x.cell (p := ⟨b, off, none⟩) hbw1 (fun h => h)).trans m00
 have m01 := fun t' : LaterF none' w1 => (t'.x.cell (p := ⟨b, off + 1, none⟩) hbw1 (fun h => h)).trans m01
 have m02 := fun t' : LaterF none' w1 => (t'.x.cell (p := ⟨b, off + 2, none⟩) hbw1 (fun h => h)).trans m02
 have m03 := fun t' : LaterF none' w1 => (t'.x.cell (p := ⟨b, off + 3, none⟩) hbw1 (fun h => h)).trans m03
 refine region_q none' w1 (.qs [0, 1, 2, 3, 4, 5, 7] (.one 6 true (.one 8 false (.one 9 false (.one 10 false .fin))))) (by kernel_rfl) (by kernel_rfl) (fun dst v c a w h => by cases dst <;> exact h) ?_
 refine ⟨In.of (Ext.refl _ _).drew, ?_⟩
 change wpQuiet _ _ (fun w' => ∃ t : LaterF none' w1, w' = t.w) _ _ _
 simp only [sel, List.getElem?_cons_succ, List.getElem?_cons_zero]
 repeat (go_big_quiet_step (fail))
 refine wpQuiet_nil ?_
 simp only [wpTreeQ, stepT, sel, List.getElem?_cons_succ, List.getElem?_cons_zero]
 have D1 := hid (Ext.refl none' w1).drew
 clear x0 x1 c0 c1 c2 c3 m00 m01 m02 m03
 go_wp2_with fail
 refine (C0.out _ _ ⟨_, rfl, HZ0.out.ext isNd_good (X1.out.trans D1.out) fun _ _ h => h⟩).mono ?_
 rintro e w2 ⟨rfl, X2⟩
 have XX := hid (D1.out.trans X2)
 go_wp2_with fail
 refine ⟨In.of XX.out, ?_⟩
 go_wp2_with fail
 have Y := hid ((Ext.refl none' w2).alloc (.cells #[.string ⟨#[118, 97, 114]⟩, .string ⟨t.text.toArray⟩, .string ⟨o0.toArray⟩, .string ⟨o1.toArray⟩] 9))
 refine (CB.out _ _ (isStrs_lit (heap_alloc_at rfl _) rfl)).mono ?_
 rintro e w3 ⟨rfl, X3⟩
 have XX := hid (XX.out.trans (Y.out.trans X3))
 go_wp2_with fail
 go_ret
 exact ⟨rfl, BX.out.x.trans XX.out⟩
def TilD (f : Nat) (x : Nd) : Prop := x.size ≤ f ∧ namB tldB 15 [tyF nmB f] x = true
def tilF (ty : Nd → List UInt8) (x : Nd) : List UInt8 := x.text ++ ty (x.kid 0)
theorem tldB_len {s : List UInt8} (h : tldB s = true) : s.length ≤ 1 := by
 unfold tldB at h
 simp only [Bool.or_eq_true, beq_iff_eq] at h
 rcases h with e | e <;> rw [e] <;> simp
theorem til_any (f : Nat) (hf : f ≤ 1100000) (t : Nd) (ht : TilD f t) (v : Value) (w : World) (hv : NdV none' w t v) : Calls Tryz.prog 49 #[v] w (StrPost (tilF (typF f) t) w) := by
 obtain ⟨hts, he⟩ := ht
 obtain ⟨hk, htn, h3⟩ := namB_parts he
 obtain ⟨x', hkx, hx1⟩ := one_kid h3
 have hx0' := kid_one hkx
 have hsz := size_one hkx
 have hl : 0 < t.kids.length := by rw [hkx]; simp
 have htl := tldB_len htn
 have hb := ty_len hx1 (show x'.size ≤ f by omega)
 have CT := hid fun W v' (hv' : NdV none' W (t.kid 0) v') => typ_any f (by unfold bigD; omega) (t.kid 0) (by rw [hx0']; exact ⟨by omega, hx1⟩) v' W hv'
 have hql : (typF f (t.kid 0)).length ≤ 10000000000000 := by rw [hx0']; omega
 obtain ⟨x, rfl, hx⟩ := hv
 have HX := hid hx
 obtain ⟨a1, cap1, rfl, _⟩ := hx
 unfold tilF
 obtain ⟨q, hq⟩ : ∃ q, typF f (t.kid 0) = q := ⟨_, rfl⟩
 rw [hq] at CT hql ⊢
 have h1z : (0 : Int) < (t.kids.length : Int) := by omega
 have cat1 := str_cat t.text q
 clear hq he hk htn h3 hkx hx1 hx0' hsz hts hf hb
 go_enter Tryz.func49, Tryz.ntmps49
 go_upto_region 1 with (fail)
 obtain ⟨W1, hW1⟩ : ∃ W1, W1 = w.alloc (.cells #[.int .i64 t.kind, .string ⟨t.text.toArray⟩, .slice a1 t.kids.length cap1, .int .i64 t.pos] 24) := ⟨_, rfl⟩
 rw [← hW1]
 have X1 := hid (show Ext none' w W1 by rw [hW1]; exact (Ext.refl _ _).alloc _)
 have g0 : W1.heap[w.heap.size]? = some (.cells #[.int .i64 t.kind, .string ⟨t.text.toArray⟩, .slice a1 t.kids.length cap1, .int .i64 t.pos] 24 (0, 0)) := by rw [hW1]; exact heap_alloc_at rfl _
 have HX := hid (HX.out.ext isNd_good X1.out fun _ _ h => h)
 obtain ⟨b, off, x0, rfl, hbw, k0, k1, k2, k3, hx0⟩ := kid_val HX.out 0 hl
 simp only [Nat.zero_mul, Nat.add_zero] at k0 k1 k2 k3
 have HX0 := hid hx0
 obtain ⟨a2, cap2, rfl, _⟩ := hx0
 have y1 := fun t' : LaterF none' W1 => cell_at (t'.x.heap g0 fun h => h) 1
 have y2 := fun t' : LaterF none' W1 => cell_at (t'.x.heap g0 fun h => h) 2
 have z0 := fun t' : LaterF none' W1 => (t'.x.cell (p := ⟨b, off, none⟩) hbw (fun h => h)).trans k0
 have z1 := fun t' : LaterF none' W1 => (t'.x.cell (p := ⟨b, off + 1, none⟩) hbw (fun h => h)).trans k1
 have z2 := fun t' : LaterF none' W1 => (t'.x.cell (p := ⟨b, off + 2, none⟩) hbw (fun h => h)).trans k2
 have z3 := fun t' : LaterF none' W1 => (t'.x.cell (p := ⟨b, off + 3, none⟩) hbw (fun h => h)).trans k3
 simp only [List.getElem?_toArray, List.getElem?_cons_zero, List.getElem?_cons_succ] at y1 y2
 clear hW1 g0 k0 k1 k2 k3
 refine region_q none' W1 (.qs [0, 1, 2, 3, 4, 5] (.one 6 true (.one 7 false (.one 8 false .fin)))) (by kernel_rfl) (by kernel_rfl) (fun dst v c a w h => by cases dst <;> exact h) ?_
 refine ⟨In.of (Ext.refl _ _).drew, ?_⟩
 change wpQuiet _ _ (fun w' => ∃ t : LaterF none' W1, w' = t.w) _ _ _
 simp only [sel, List.getElem?_cons_succ, List.getElem?_cons_zero]
 repeat (go_big_quiet_step (fail))
 refine wpQuiet_nil ?_
 simp only [wpTreeQ, stepT, sel, List.getElem?_cons_succ, List.getElem?_cons_zero]
 have D1 := hid (Ext.refl none' W1).drew
 clear y1 y2 z0 z1 z2 z3
 go_wp2_with fail
 refine (CT.out _ _ ⟨_, rfl, HX0.out.ext isNd_good D1.out fun _ _ h => h⟩).mono ?_
 rintro e w2 ⟨rfl, X2⟩
 have X2 := hid (D1.out.trans X2)
 go_wp2_with fail
 refine ⟨In.of X2.out, ?_⟩
 go_wp2_with fail
 go_ret
 exact ⟨rfl, X1.out.trans X2.out⟩
theorem til_tell (f : Nat) (hf : f ≤ 1100000) (w : World) : TellV (TilD f) (tilF (typF f)) w (.func (.func 49) #[] #[]) :=
 TellV.top (Go.Proofs.enters_of Tryz.func49 (by kernel_rfl) rfl) fun t ht W x hx => til_any f hf t ht x W hx
def TyiD (f : Nat) (t : Nd) : Prop := t.size ≤ f + 1 ∧ (interB (tyF nmB f) t = true ∨ (t.size ≤ f ∧ tyF nmB f t = true))
theorem interB_parts {ty : Nd → Bool} {t : Nd} (h : interB ty t = true) : t.kind = 14 ∧ t.text = [] ∧ t.kids ≠ [] ∧ ∀ x ∈ t.kids, namB tldB 15 [ty] x = true := by
 unfold interB at h
 simp only [Bool.and_eq_true, beq_iff_eq, Bool.not_eq_true', List.all_eq_true] at h
 refine ⟨h.1, h.2.1, fun e => ?_, h.2.2.2⟩
 have := h.2.2.1
 rw [e] at this; simp at this
theorem tilF_len {f : Nat} {x : Nd} (h : TilD f x) : (tilF (typF f) x).length + 1250000 ≤ 4000000 * x.size := by
 obtain ⟨hs, h⟩ := h
 obtain ⟨_, h2, h3⟩ := namB_parts h
 obtain ⟨y, hk, hy⟩ := one_kid h3
 have := size_one hk
 have := tldB_len h2
 have := ty_len hy (show y.size ≤ f by omega)
 unfold tilF
 rw [kid_one hk, List.length_append]
 omega
theorem inT_len {f : Nat} {t : Nd} (h : TyiD f t) : (inT (typF f) t).length + 1250000 ≤ 4000000 * t.size := by
 obtain ⟨hs, h⟩ := h
 unfold inT
 rcases h with h | ⟨h1, h2⟩
 · obtain ⟨hk, _, hne, hall⟩ := interB_parts h
   rw [if_pos hk]
   have hz := size_kids t
   have hl := lens_le (p := tilF (typF f)) (c := 1250000) (l := t.kids) fun x hx => tilF_len ⟨by have := Nd.size_kid hx; omega, hall x hx⟩
   have hj := join_take (t.kids.map (tilF (typF f))) [32, 124, 32]
   rw [List.length_map] at hj
   have e : (t.kids.map fun x => x.text ++ typF f (x.kid 0)) = t.kids.map (tilF (typF f)) := rfl
   rw [e]
   simp only [List.length_append, List.length_cons, List.length_nil] at hj ⊢
   have := List.length_pos_iff.2 hne
   omega
 · have := tyF_kind h2
   rw [if_neg (by omega)]
   exact ty_len h2 h1
theorem inT_ne {f : Nat} {t : Nd} (h : TyiD f t) : inT (typF f) t ≠ [] := by
 obtain ⟨hs, h⟩ := h
 unfold inT
 rcases h with h | ⟨h1, h2⟩
 · rw [if_pos (interB_parts h).1]; simp
 · have := tyF_kind h2
   rw [if_neg (by omega)]
   exact ty_ne h2
theorem typi_any (f : Nat) (hf : f + 1 ≤ 1100000) : TypH (TyiD f) (inT (typF f)) := by
 intro t ht v w hv
 have hql := inT_len ht
 obtain ⟨hs, h⟩ := ht
 unfold inT at hql ⊢
 rcases h with h | ⟨h1, h2⟩
 · obtain ⟨hk, htx, hne, hall⟩ := interB_parts h
   rw [if_pos hk] at hql ⊢
   have e : (t.kids.map fun x => x.text ++ typF f (x.kid 0)) = t.kids.map (tilF (typF f)) := rfl
   rw [e] at hql ⊢
   have hl := lens_le (p := tilF (typF f)) (c := 1250000) (l := t.kids) fun x hx => tilF_len ⟨by have := Nd.size_kid hx; omega, hall x hx⟩
   have hz := size_kids t
   have hkl := t.kids_len
   have CE := hid fun W v' (hs' : IsSl 4 IsNd none' W v' t.kids) => each_any (TilD f) (tilF (typF f)) [32, 124, 32] t.kids v' _ W hs' (til_tell f (by omega) W) (fun i hi => ⟨by have := Nd.size_kid (List.getElem_mem hi); omega, hall _ (List.getElem_mem hi)⟩) (by unfold bigD; omega) (by simp only [List.length_cons, List.length_nil]; omega)
   obtain ⟨q, hq⟩ : ∃ q, Lib.join (t.kids.map (tilF (typF f))) [32, 124, 32] = q := ⟨_, rfl⟩
   rw [hq] at CE hql ⊢
   have hq2 : q.length ≤ 10000000000000 := by simp only [List.length_append, List.length_cons, List.length_nil] at hql; omega
   have cat1 := str_cat [105, 110, 116, 101, 114, 102, 97, 99, 101, 123, 32] q
   have cat2 := str_cat ([105, 110, 116, 101, 114, 102, 97, 99, 101, 123, 32] ++ q) [32, 125]
   simp only [List.append_assoc, List.cons_append, List.nil_append] at cat1 cat2
   obtain ⟨x, rfl, hx⟩ := hv
   have HX := hid hx
   obtain ⟨a1, cap1, rfl, _⟩ := hx
   rw [hk]
   have X1 := hid ((Ext.refl none' w).alloc (.cells #[.int .i64 14, .string ⟨t.text.toArray⟩, .slice a1 t.kids.length cap1, .int .i64 t.pos] 24))
   clear htx hq e hall hne hk hl hz hkl hql hs h hf
   go_enter Tryz.func22, Tryz.ntmps22
   go_wp2_with fail
   refine (CE.out _ _ (HX.out.ext isNd_good X1.out fun _ _ h => h)).mono ?_
   rintro e w2 ⟨rfl, X2⟩
   have X2 := hid (X1.out.trans X2)
   go_wp2_with fail
   go_ret
   exact ⟨by simp, X2.out⟩
 · have := tyF_kind h2
   rw [if_neg (by omega)]
   exact typ_any f (by unfold bigD; omega) t ⟨h1, h2⟩ v w hv
theorem par_kid {f : Nat} {x : Nd} (hs : x.size ≤ f + 1) (h : parB (tyF nmB f) x = true) : 0 < x.kids.length ∧ TyiD f (x.kid 0) ∧ x.text.length ≤ 100 ∧ x.text ≠ [] := by
 obtain ⟨_, h2, h3⟩ := namB_parts h
 obtain ⟨y, hk, hy⟩ := one_kid h3
 have := size_one hk
 rw [kid_one hk]
 refine ⟨by rw [hk]; simp, ⟨by omega, ?_⟩, nmB_len _ h2, fun e => by rw [e, nmB_nil'] at h2; cases h2⟩
 unfold orB nam1B at hy
 simp only [Bool.or_eq_true, Bool.and_eq_true] at hy
 rcases hy with hy | hy
 · exact .inr ⟨by omega, hy.2⟩
 · exact .inl hy
theorem parF_text {p : Nd → List UInt8} {x : Nd} (h1 : x.text ≠ []) (h2 : p (x.kid 0) ≠ []) : parF p x = x.text ++ [32] ++ p (x.kid 0) := by
 unfold parF
 rw [betw_flat _ _ _ h1]
 simp only [List.map_cons, List.map_nil, List.flatten_cons, List.flatten_nil, List.append_nil]
 rw [optP_ne h2]; simp
theorem pars_len {f : Nat} {t : Nd} (hs : t.size ≤ f + 1) (h : parsB (tyF nmB f) t = true) : (parsT (typF f) t).length + 1250000 ≤ 4000000 * t.size ∧ Lib.lens (t.kids.map (parF (inT (typF f)))) + 100 * t.kids.length ≤ 4000000 * t.size ∧ t.kids.map (parF (inT (typF f))) = t.kids.map fun x => x.text ++ [32] ++ inT (typF f) (x.kid 0) := by
 have hall : ∀ x ∈ t.kids, parB (tyF nmB f) x = true := by
  unfold parsB listB at h
  simp only [Bool.and_eq_true, List.all_eq_true] at h
  first | exact h.2.2 | exact h.2
 have hz := size_kids t
 have hmap : t.kids.map (parF (inT (typF f))) = t.kids.map fun x => x.text ++ [32] ++ inT (typF f) (x.kid 0) := List.map_congr_left fun x hx => by
  obtain ⟨h1, h2, h3, h4⟩ := par_kid (by have := Nd.size_kid hx; omega) (hall x hx)
  exact parF_text h4 (inT_ne h2)
 have hl := lens_le (p := parF (inT (typF f))) (c := 1240000) (l := t.kids) fun x hx => by
  obtain ⟨h1, h2, h3, h4⟩ := par_kid (by have := Nd.size_kid hx; omega) (hall x hx)
  have h5 := inT_len h2
  have h6 := Nd.size_kid (kid_mem' (t := x) (i := 0) h1)
  rw [parF_text h4 (inT_ne h2)]
  simp only [List.length_append, List.length_cons, List.length_nil]
  omega
 have hj := join_take (t.kids.map (parF (inT (typF f)))) sComma
 rw [List.length_map] at hj
 have hcm : sComma.length = 2 := rfl
 rw [hcm] at hj
 refine ⟨?_, by omega, hmap⟩
 unfold parsT
 split
 · have := t.size_pos
   simp; omega
 · rename_i hne
   have := List.length_pos_iff.2 hne
   rw [← hmap]
   simp only [List.length_append, List.length_cons, List.length_nil]
   omega
theorem shparams_any (f : Nat) (hf : f + 1 ≤ 1100000) (t : Nd) (ht : t.size ≤ f + 1) (he : parsB (tyF nmB f) t = true) (v : Value) (w : World) (hv : NdV none' w t v) : Calls Tryz.prog 39 #[v] w (StrPost (parsT (typF f) t) w) := by
 obtain ⟨h1, h2, h3⟩ := pars_len ht he
 have hall : ∀ x ∈ t.kids, parB (tyF nmB f) x = true := by
  unfold parsB listB at he
  simp only [Bool.and_eq_true, List.all_eq_true] at he
  first | exact he.2.2 | exact he.2
 have hkl := t.kids_len
 have hcm : sComma.length = 2 := rfl
 unfold parsT at h1 ⊢
 rw [← h3] at h1 ⊢
 have CE := hid fun W v' (hs' : IsSl 4 IsNd none' W v' t.kids) => each_any (ParD (TyiD f) (inT (typF f))) (parF (inT (typF f))) sComma t.kids v' _ W hs' (param_tell (typi_any f hf) W) (fun i hi => by
  have hm := List.getElem_mem hi
  obtain ⟨g1, g2, g3, g4⟩ := par_kid (by have := Nd.size_kid hm; omega) (hall _ hm)
  refine ⟨g1, g2, ?_⟩
  have := inT_len g2
  have := Nd.size_kid (kid_mem' (t := t.kids[i]) (i := 0) g1)
  have := Nd.size_kid hm
  omega) (by unfold bigD; omega) (by rw [hcm]; omega)
 obtain ⟨x, rfl, hx⟩ := hv
 have HX := hid hx
 obtain ⟨a1, cap1, rfl, _⟩ := hx
 have X1 := hid ((Ext.refl none' w).alloc (.cells #[.int .i64 t.kind, .string ⟨t.text.toArray⟩, .slice a1 t.kids.length cap1, .int .i64 t.pos] 24))
 by_cases h0 : t.kids = []
 · rw [if_pos h0]
   have hz : (t.kids.length == 0) = true := by rw [h0]; rfl
   have hz2 : ((t.kids.length : Int) == 0) = true := by rw [h0]; rfl
   have hz3 : t.kids.length = 0 := by rw [h0]; rfl
   rw [hz3]
   clear h0 h1 h2 h3 hall hkl hz hz2 hz3 hf ht he
   go_enter Tryz.func39, Tryz.ntmps39
   go_wp2_with fail
   go_ret
   exact ⟨rfl, (Ext.refl _ _).alloc _⟩
 · rw [if_neg h0] at h1 ⊢
   have hp := List.length_pos_iff.2 h0
   have hz : (t.kids.length == 0) = false := by simpa using h0
   have hz2 : ((t.kids.length : Int) == 0) = false := by rw [beq_eq_false_iff_ne]; omega
   obtain ⟨q, hq⟩ : ∃ q, Lib.join (t.kids.map (parF (inT (typF f)))) sComma = q := ⟨_, rfl⟩
   rw [hq] at CE h1 ⊢
   have hq2 : q.length ≤ 10000000000000 := by simp only [List.length_append, List.length_cons, List.length_nil] at h1; omega
   have cat1 := str_cat [91] q
   have cat2 := str_cat (91 :: q) [93]
   simp only [List.append_assoc, List.cons_append, List.nil_append] at cat1 cat2
   clear h0 h1 h2 h3 hall hkl hq hf ht he hp
   go_enter Tryz.func39, Tryz.ntmps39
   go_wp2_with fail
   refine (CE.out _ _ (HX.out.ext isNd_good X1.out fun _ _ h => h)).mono ?_
   rintro e w2 ⟨rfl, X2⟩
   have X2 := hid (X1.out.trans X2)
   go_wp2_with fail
   go_ret
   exact ⟨by simp, X2.out⟩
theorem ss_short (f : Nat) (H : ExpH f) (deep : Nat) (head : Bool) (hd : deep + (f + 1) ≤ 1200000) (hf : f + 1 ≤ 1100000) (t : Nd) (ht : t.size ≤ f + 1) (hk : t.kind = 26) (he : shB (exF f) t = true) (v : Value) (w : World) (hm : MaxL w) (hv : NdV none' w t v) :
  Calls Tryz.prog 56 #[shV deep head, v] w (StrPost (t.text ++ [32, 58, 61, 32] ++ exT f deep head (t.kid 0)) w) := by
 obtain ⟨y, rfl, hy⟩ := hv
 have HY := hid hy
 obtain ⟨a1, cap1, rfl, hcap, _⟩ := hy
 have hkl : t.kids.length ≤ 1100000 := by have := t.kids_len; omega
 rw [hk]
 clear hk
 obtain ⟨B, hB⟩ : ∃ B, B = w.heap.size := ⟨_, rfl⟩
 have BX := TwoBox.mk' (deep := deep) (head := head) (cs := #[.int .i64 26, .string ⟨t.text.toArray⟩, .slice a1 t.kids.length cap1, .int .i64 t.pos]) hB
 obtain ⟨W0, hW0⟩ : ∃ W0, W0 = ((w.alloc (.cells #[.int .i64 (deep : Nat), .bool head] 50)).alloc (.cells #[.int .i64 26, .string ⟨t.text.toArray⟩, .slice a1 t.kids.length cap1, .int .i64 t.pos] 24)) := ⟨_, rfl⟩
 rw [← hW0] at BX
 have BX := hid BX
 obtain ⟨rr, hrr⟩ : ∃ r, r = t.text ++ [32, 58, 61, 32] ++ exT f deep head (t.kid 0) := ⟨_, rfl⟩
 rw [← hrr]
 obtain ⟨hk2, htn, h3⟩ := namB_parts he
 obtain ⟨x, hkx, hx1⟩ := one_kid h3
 have hx0 := kid_one hkx
 have hsz := size_one hkx
 have hl : t.kids.length = 1 := by rw [hkx]; rfl
 have y0 : (0 : Int) < (t.kids.length : Int) := by omega
 have htl := bndB_len htn
 have hbl0 := (lens_all f deep (by omega)).1 x (by omega) hx1 head
 have C0 := hid fun W (X : Ext none' w W) v' (hv' : NdV none' W (t.kid 0) v') => H deep head (by omega) (t.kid 0) (by rw [hx0]; omega) (by rw [hx0]; exact hx1) v' W (maxL_later hm X) hv'
 have hbm0 : (exT f deep head (t.kid 0)).length ≤ 10000000000000 := by rw [hx0]; omega
 obtain ⟨q0, hq0⟩ : ∃ q, exT f deep head (t.kid 0) = q := ⟨_, rfl⟩
 rw [hq0] at C0 hbm0 hrr
 have cat1 := str_cat t.text [32, 58, 61, 32]
 have cat2 := str_cat (t.text ++ [32, 58, 61, 32]) q0
 simp only [List.append_assoc, List.cons_append, List.nil_append] at cat1 cat2
 have HR := hid hrr
 have hmf := mkf_run
 clear hrr ht hd hf he hk2 htn h3 hkx hx1 hx0 hsz hl hbl0 hq0 H
 go_enter Tryz.func56, Tryz.ntmps56
 go_upto_region 1 with (fail)
 rw [← hW0, ← hB]
 clear hW0 hB
 obtain ⟨x0, x1⟩ := cell2 BX.out.g0
 obtain ⟨c0, c1, c2, c3⟩ := cell4 BX.out.g1
 go_upto_region 4 with (fail)
 clear x0 x1 c0 c1 c2 c3
 obtain ⟨b, off, z0, rfl, hbw, k00, k01, k02, k03, hz0⟩ := kid_val (HY.out.ext isNd_good BX.out.x fun _ _ h => h) 0 (by omega)
 simp only [Nat.zero_mul, Nat.add_zero] at k00 k01 k02 k03
 have HZ0 := hid hz0
 obtain ⟨a2, cap2, rfl, _⟩ := hz0
 have m00 := fun t' : LaterF none' W0 => (t'.x.cell (p := ⟨b, off, none⟩) hbw (fun h => h)).trans k00
 have m01 := fun t' : LaterF none' W0 => (t'.x.cell (p := ⟨b, off + 1, none⟩) hbw (fun h => h)).trans k01
 have m02 := fun t' : LaterF none' W0 => (t'.x.cell (p := ⟨b, off + 2, none⟩) hbw (fun h => h)).trans k02
 have m03 := fun t' : LaterF none' W0 => (t'.x.cell (p := ⟨b, off + 3, none⟩) hbw (fun h => h)).trans k03
 clear k00 k01 k02 k03
 obtain ⟨x0, x1⟩ := cell2L fun t' : LaterF none' W0 => t'.x.heap BX.out.g0 fun h => h
 obtain ⟨c0, c1, c2, c3⟩ := cell4L fun t' : LaterF none' W0 => t'.x.heap BX.out.g1 fun h => h
 refine region_q none' W0 (.qs [0, 1, 2, 3, 4, 5, 6] (.one 7 true (.one 8 false (.one 9 false .fin)))) (by kernel_rfl) (by kernel_rfl) (fun dst v c a w h => by cases dst <;> exact h) ?_
 refine ⟨In.of (Ext.refl _ _).drew, ?_⟩
 change wpQuiet _ _ (fun w' => ∃ t : LaterF none' W0, w' = t.w) _ _ _
 simp only [sel, List.getElem?_cons_succ, List.getElem?_cons_zero]
 repeat (go_big_quiet_step (fail))
 refine wpQuiet_nil ?_
 simp only [wpTreeQ, stepT, sel, List.getElem?_cons_succ, List.getElem?_cons_zero]
 have D1 := hid (Ext.refl none' W0).drew
 clear x0 x1 c0 c1 c2 c3 m00 m01 m02 m03
 go_wp2_with fail
 refine (C0.out _ (BX.out.x.trans D1.out) _ ⟨_, rfl, HZ0.out.ext isNd_good D1.out fun _ _ h => h⟩).mono ?_
 rintro e w2 ⟨rfl, X2⟩
 have XX := hid (D1.out.trans X2)
 go_wp2_with fail
 refine ⟨In.of XX.out, ?_⟩
 go_wp2_with fail
 go_ret
 exact ⟨by rw [HR.out]; simp, BX.out.x.trans XX.out⟩
theorem ss_set (f : Nat) (H : ExpH f) (deep : Nat) (head : Bool) (hd : deep + (f + 1) ≤ 1200000) (hf : f + 1 ≤ 1100000) (t : Nd) (ht : t.size ≤ f + 1) (hk : t.kind = 27) (he : setB (exF f) t = true) (v : Value) (w : World) (hm : MaxL w) (hv : NdV none' w t v) :
  Calls Tryz.prog 56 #[shV deep head, v] w (StrPost (exT f deep head (t.kid 0) ++ [32, 61, 32] ++ exT f deep head (t.kid 1)) w) := by
 obtain ⟨y, rfl, hy⟩ := hv
 have HY := hid hy
 obtain ⟨a1, cap1, rfl, hcap, _⟩ := hy
 have hkl : t.kids.length ≤ 1100000 := by have := t.kids_len; omega
 rw [hk]
 clear hk
 obtain ⟨B, hB⟩ : ∃ B, B = w.heap.size := ⟨_, rfl⟩
 have BX := TwoBox.mk' (deep := deep) (head := head) (cs := #[.int .i64 27, .string ⟨t.text.toArray⟩, .slice a1 t.kids.length cap1, .int .i64 t.pos]) hB
 obtain ⟨W0, hW0⟩ : ∃ W0, W0 = ((w.alloc (.cells #[.int .i64 (deep : Nat), .bool head] 50)).alloc (.cells #[.int .i64 27, .string ⟨t.text.toArray⟩, .slice a1 t.kids.length cap1, .int .i64 t.pos] 24)) := ⟨_, rfl⟩
 rw [← hW0] at BX
 have BX := hid BX
 obtain ⟨rr, hrr⟩ : ∃ r, r = exT f deep head (t.kid 0) ++ [32, 61, 32] ++ exT f deep head (t.kid 1) := ⟨_, rfl⟩
 rw [← hrr]
 obtain ⟨hk2, htn, h3⟩ := ofB_parts he
 obtain ⟨x, y, hkx, hx1, hy1⟩ := two_kids h3
 obtain ⟨hx0, hy0⟩ := kid_two hkx
 have hsz := size_two hkx
 have hl : t.kids.length = 2 := by rw [hkx]; rfl
 have y0 : (0 : Int) < (t.kids.length : Int) := by omega
 have y1 : (1 : Int) < (t.kids.length : Int) := by omega
 have hbl0 := (lens_all f deep (by omega)).1 x (by omega) hx1 head
 have C0 := hid fun W (X : Ext none' w W) v' (hv' : NdV none' W (t.kid 0) v') => H deep head (by omega) (t.kid 0) (by rw [hx0]; omega) (by rw [hx0]; exact hx1) v' W (maxL_later hm X) hv'
 have hbm0 : (exT f deep head (t.kid 0)).length ≤ 10000000000000 := by rw [hx0]; omega
 obtain ⟨q0, hq0⟩ : ∃ q, exT f deep head (t.kid 0) = q := ⟨_, rfl⟩
 rw [hq0] at C0 hbm0 hrr
 have hbl1 := (lens_all f deep (by omega)).1 y (by omega) hy1 head
 have C1 := hid fun W (X : Ext none' w W) v' (hv' : NdV none' W (t.kid 1) v') => H deep head (by omega) (t.kid 1) (by rw [hy0]; omega) (by rw [hy0]; exact hy1) v' W (maxL_later hm X) hv'
 have hbm1 : (exT f deep head (t.kid 1)).length ≤ 10000000000000 := by rw [hy0]; omega
 obtain ⟨q1, hq1⟩ : ∃ q, exT f deep head (t.kid 1) = q := ⟨_, rfl⟩
 rw [hq1] at C1 hbm1 hrr
 have cat1 := str_cat q0 [32, 61, 32]
 have cat2 := str_cat (q0 ++ [32, 61, 32]) q1
 simp only [List.append_assoc, List.cons_append, List.nil_append] at cat1 cat2
 have HR := hid hrr
 have hmf := mkf_run
 clear hrr ht hd hf he hk2 htn h3 hkx hx1 hx0 hsz hl hbl0 hq0 H hy1 hy0 hbl1 hq1
 go_enter Tryz.func56, Tryz.ntmps56
 go_upto_region 1 with (fail)
 rw [← hW0, ← hB]
 clear hW0 hB
 obtain ⟨x0, x1⟩ := cell2 BX.out.g0
 obtain ⟨c0, c1, c2, c3⟩ := cell4 BX.out.g1
 go_upto_region 6 with (fail)
 clear x0 x1 c0 c1 c2 c3
 obtain ⟨b, off, z0, rfl, hbw, k00, k01, k02, k03, hz0⟩ := kid_val (HY.out.ext isNd_good BX.out.x fun _ _ h => h) 0 (by omega)
 obtain ⟨b', off', z1, e1, hbw1, k10, k11, k12, k13, hz1⟩ := kid_val (HY.out.ext isNd_good BX.out.x fun _ _ h => h) 1 (by omega)
 injection e1 with e1
 injection e1 with e1 e2 _
 subst e1 e2
 simp only [Nat.zero_mul, Nat.one_mul, Nat.add_zero] at k00 k01 k02 k03 k10 k11 k12 k13
 have HZ0 := hid hz0
 obtain ⟨a2, cap2, rfl, _⟩ := hz0
 have HZ1 := hid hz1
 obtain ⟨a3, cap3, rfl, _⟩ := hz1
 have m00 := fun t' : LaterF none' W0 => (t'.x.cell (p := ⟨b, off, none⟩) hbw (fun h => h)).trans k00
 have m01 := fun t' : LaterF none' W0 => (t'.x.cell (p := ⟨b, off + 1, none⟩) hbw (fun h => h)).trans k01
 have m02 := fun t' : LaterF none' W0 => (t'.x.cell (p := ⟨b, off + 2, none⟩) hbw (fun h => h)).trans k02
 have m03 := fun t' : LaterF none' W0 => (t'.x.cell (p := ⟨b, off + 3, none⟩) hbw (fun h => h)).trans k03
 have m10 := fun t' : LaterF none' W0 => (t'.x.cell (p := ⟨b, off + 4, none⟩) hbw (fun h => h)).trans k10
 have m11 := fun t' : LaterF none' W0 => (t'.x.cell (p := ⟨b, off + 4 + 1, none⟩) hbw (fun h => h)).trans k11
 have m12 := fun t' : LaterF none' W0 => (t'.x.cell (p := ⟨b, off + 4 + 2, none⟩) hbw (fun h => h)).trans k12
 have m13 := fun t' : LaterF none' W0 => (t'.x.cell (p := ⟨b, off + 4 + 3, none⟩) hbw (fun h => h)).trans k13
 clear k00 k01 k02 k03 k10 k11 k12 k13
 obtain ⟨x0, x1⟩ := cell2L fun t' : LaterF none' W0 => t'.x.heap BX.out.g0 fun h => h
 obtain ⟨c0, c1, c2, c3⟩ := cell4L fun t' : LaterF none' W0 => t'.x.heap BX.out.g1 fun h => h
 refine region_q none' W0 (.qs [0, 1, 2, 3, 6, 7, 8, 9] (.one 4 true (.qs [5] (.one 10 true (.qs [11, 12] .fin))))) (by kernel_rfl) (by kernel_rfl) (fun dst v c a w h => by cases dst <;> exact h) ?_
 refine ⟨In.of (Ext.refl _ _).drew, ?_⟩
 change wpQuiet _ _ (fun w' => ∃ t : LaterF none' W0, w' = t.w) _ _ _
 simp only [sel, List.getElem?_cons_succ, List.getElem?_cons_zero]
 repeat (go_big_quiet_step (fail))
 refine wpQuiet_nil ?_
 simp only [wpTreeQ, stepT, sel, List.getElem?_cons_succ, List.getElem?_cons_zero]
 have D1 := hid (Ext.refl none' W0).drew
 clear x0 x1 c0 c1 c2 c3 m00 m01 m02 m03 m10 m11 m12 m13
 go_wp2_with fail
 refine (C0.out _ (BX.out.x.trans D1.out) _ ⟨_, rfl, HZ0.out.ext isNd_good D1.out fun _ _ h => h⟩).mono ?_
 rintro e w2 ⟨rfl, X2⟩
 have XX := hid (D1.out.trans X2)
 go_wp2_with fail
 refine ⟨In.of XX.out, In.of XX.out, ?_⟩
 change wpQuiet _ _ (fun w' => ∃ t : LaterF none' W0, w' = t.w) _ _ _
 repeat (go_big_quiet_step (fail))
 refine wpQuiet_nil ?_
 go_wp2_with fail
 refine (C1.out _ (BX.out.x.trans XX.out) _ ⟨_, rfl, HZ1.out.ext isNd_good XX.out fun _ _ h => h⟩).mono ?_
 rintro e w3 ⟨rfl, X2⟩
 have XX := hid (XX.out.trans X2)
 go_wp2_with fail
 refine ⟨In.of XX.out, In.of XX.out, ?_⟩
 change wpQuiet _ _ (fun w' => ∃ t : LaterF none' W0, w' = t.w) _ _ _
 repeat (go_big_quiet_step (fail))
 refine wpQuiet_nil ?_
 go_wp2_with fail
 go_ret
 exact ⟨by rw [HR.out]; simp, BX.out.x.trans XX.out⟩
theorem ss_inc (f : Nat) (H : ExpH f) (deep : Nat) (head : Bool) (hd : deep + (f + 1) ≤ 1200000) (hf : f + 1 ≤ 1100000) (t : Nd) (ht : t.size ≤ f + 1) (hk : t.kind = 28) (he : incrB (exF f) t = true) (v : Value) (w : World) (hm : MaxL w) (hv : NdV none' w t v) :
  Calls Tryz.prog 56 #[shV deep head, v] w (StrPost (exT f deep head (t.kid 0) ++ t.text) w) := by
 obtain ⟨y, rfl, hy⟩ := hv
 have HY := hid hy
 obtain ⟨a1, cap1, rfl, hcap, _⟩ := hy
 have hkl : t.kids.length ≤ 1100000 := by have := t.kids_len; omega
 rw [hk]
 clear hk
 obtain ⟨B, hB⟩ : ∃ B, B = w.heap.size := ⟨_, rfl⟩
 have BX := TwoBox.mk' (deep := deep) (head := head) (cs := #[.int .i64 28, .string ⟨t.text.toArray⟩, .slice a1 t.kids.length cap1, .int .i64 t.pos]) hB
 obtain ⟨W0, hW0⟩ : ∃ W0, W0 = ((w.alloc (.cells #[.int .i64 (deep : Nat), .bool head] 50)).alloc (.cells #[.int .i64 28, .string ⟨t.text.toArray⟩, .slice a1 t.kids.length cap1, .int .i64 t.pos] 24)) := ⟨_, rfl⟩
 rw [← hW0] at BX
 have BX := hid BX
 obtain ⟨rr, hrr⟩ : ∃ r, r = exT f deep head (t.kid 0) ++ t.text := ⟨_, rfl⟩
 rw [← hrr]
 obtain ⟨hk2, htn, h3⟩ := namB_parts he
 obtain ⟨x, hkx, hx1⟩ := one_kid h3
 have hx0 := kid_one hkx
 have hsz := size_one hkx
 have hl : t.kids.length = 1 := by rw [hkx]; rfl
 have y0 : (0 : Int) < (t.kids.length : Int) := by omega
 have htl := incB_len htn
 have hbl0 := (lens_all f deep (by omega)).1 x (by omega) hx1 head
 have C0 := hid fun W (X : Ext none' w W) v' (hv' : NdV none' W (t.kid 0) v') => H deep head (by omega) (t.kid 0) (by rw [hx0]; omega) (by rw [hx0]; exact hx1) v' W (maxL_later hm X) hv'
 have hbm0 : (exT f deep head (t.kid 0)).length ≤ 10000000000000 := by rw [hx0]; omega
 obtain ⟨q0, hq0⟩ : ∃ q, exT f deep head (t.kid 0) = q := ⟨_, rfl⟩
 rw [hq0] at C0 hbm0 hrr
 have cat1 := str_cat q0 t.text
 have HR := hid hrr
 have hmf := mkf_run
 clear hrr ht hd hf he hk2 htn h3 hkx hx1 hx0 hsz hl hbl0 hq0 H
 go_enter Tryz.func56, Tryz.ntmps56
 go_upto_region 1 with (fail)
 rw [← hW0, ← hB]
 clear hW0 hB
 obtain ⟨x0, x1⟩ := cell2 BX.out.g0
 obtain ⟨c0, c1, c2, c3⟩ := cell4 BX.out.g1
 go_upto_region 8 with (fail)
 clear x0 x1 c0 c1 c2 c3
 obtain ⟨b, off, z0, rfl, hbw, k00, k01, k02, k03, hz0⟩ := kid_val (HY.out.ext isNd_good BX.out.x fun _ _ h => h) 0 (by omega)
 simp only [Nat.zero_mul, Nat.add_zero] at k00 k01 k02 k03
 have HZ0 := hid hz0
 obtain ⟨a2, cap2, rfl, _⟩ := hz0
 have m00 := fun t' : LaterF none' W0 => (t'.x.cell (p := ⟨b, off, none⟩) hbw (fun h => h)).trans k00
 have m01 := fun t' : LaterF none' W0 => (t'.x.cell (p := ⟨b, off + 1, none⟩) hbw (fun h => h)).trans k01
 have m02 := fun t' : LaterF none' W0 => (t'.x.cell (p := ⟨b, off + 2, none⟩) hbw (fun h => h)).trans k02
 have m03 := fun t' : LaterF none' W0 => (t'.x.cell (p := ⟨b, off + 3, none⟩) hbw (fun h => h)).trans k03
 clear k00 k01 k02 k03
 obtain ⟨x0, x1⟩ := cell2L fun t' : LaterF none' W0 => t'.x.heap BX.out.g0 fun h => h
 obtain ⟨c0, c1, c2, c3⟩ := cell4L fun t' : LaterF none' W0 => t'.x.heap BX.out.g1 fun h => h
 refine region_q none' W0 (.qs [0, 1, 2, 3, 5, 6] (.one 4 true (.one 7 false (.one 8 false .fin)))) (by kernel_rfl) (by kernel_rfl) (fun dst v c a w h => by cases dst <;> exact h) ?_
 refine ⟨In.of (Ext.refl _ _).drew, ?_⟩
 change wpQuiet _ _ (fun w' => ∃ t : LaterF none' W0, w' = t.w) _ _ _
 simp only [sel, List.getElem?_cons_succ, List.getElem?_cons_zero]
 repeat (go_big_quiet_step (fail))
 refine wpQuiet_nil ?_
 simp only [wpTreeQ, stepT, sel, List.getElem?_cons_succ, List.getElem?_cons_zero]
 have D1 := hid (Ext.refl none' W0).drew
 clear x0 x1 c0 c1 c2 c3 m00 m01 m02 m03
 go_wp2_with fail
 refine (C0.out _ (BX.out.x.trans D1.out) _ ⟨_, rfl, HZ0.out.ext isNd_good D1.out fun _ _ h => h⟩).mono ?_
 rintro e w2 ⟨rfl, X2⟩
 have XX := hid (D1.out.trans X2)
 go_wp2_with fail
 refine ⟨In.of XX.out, ?_⟩
 go_wp2_with fail
 go_ret
 exact ⟨by rw [HR.out]; rfl, BX.out.x.trans XX.out⟩
theorem ss_call (f : Nat) (H : ExpH f) (deep : Nat) (head : Bool) (hd : deep + (f + 1) ≤ 1200000) (hf : f + 1 ≤ 1100000) (t : Nd) (ht : t.size ≤ f + 1) (hk : t.kind = 29) (he : callB (exF f) t = true) (v : Value) (w : World) (hm : MaxL w) (hv : NdV none' w t v) :
  Calls Tryz.prog 56 #[shV deep head, v] w (StrPost (exT f deep head (t.kid 0)) w) := by
 obtain ⟨y, rfl, hy⟩ := hv
 have HY := hid hy
 obtain ⟨a1, cap1, rfl, hcap, _⟩ := hy
 have hkl : t.kids.length ≤ 1100000 := by have := t.kids_len; omega
 rw [hk]
 clear hk
 obtain ⟨B, hB⟩ : ∃ B, B = w.heap.size := ⟨_, rfl⟩
 have BX := TwoBox.mk' (deep := deep) (head := head) (cs := #[.int .i64 29, .string ⟨t.text.toArray⟩, .slice a1 t.kids.length cap1, .int .i64 t.pos]) hB
 obtain ⟨W0, hW0⟩ : ∃ W0, W0 = ((w.alloc (.cells #[.int .i64 (deep : Nat), .bool head] 50)).alloc (.cells #[.int .i64 29, .string ⟨t.text.toArray⟩, .slice a1 t.kids.length cap1, .int .i64 t.pos] 24)) := ⟨_, rfl⟩
 rw [← hW0] at BX
 have BX := hid BX
 obtain ⟨rr, hrr⟩ : ∃ r, r = exT f deep head (t.kid 0) := ⟨_, rfl⟩
 rw [← hrr]
 obtain ⟨hk2, htn, h3⟩ := ofB_parts he
 obtain ⟨x, hkx, hx1⟩ := one_kid h3
 have hx0 := kid_one hkx
 have hsz := size_one hkx
 have hl : t.kids.length = 1 := by rw [hkx]; rfl
 have y0 : (0 : Int) < (t.kids.length : Int) := by omega
 unfold isCallB at hx1
 simp only [Bool.and_eq_true] at hx1
 replace hx1 := hx1.2
 have hbl0 := (lens_all f deep (by omega)).1 x (by omega) hx1 head
 have C0 := hid fun W (X : Ext none' w W) v' (hv' : NdV none' W (t.kid 0) v') => H deep head (by omega) (t.kid 0) (by rw [hx0]; omega) (by rw [hx0]; exact hx1) v' W (maxL_later hm X) hv'
 have hbm0 : (exT f deep head (t.kid 0)).length ≤ 10000000000000 := by rw [hx0]; omega
 obtain ⟨q0, hq0⟩ : ∃ q, exT f deep head (t.kid 0) = q := ⟨_, rfl⟩
 rw [hq0] at C0 hbm0 hrr
 have HR := hid hrr
 have hmf := mkf_run
 clear hrr ht hd hf he hk2 htn h3 hkx hx1 hx0 hsz hl hbl0 hq0 H
 go_enter Tryz.func56, Tryz.ntmps56
 go_upto_region 1 with (fail)
 rw [← hW0, ← hB]
 clear hW0 hB
 obtain ⟨x0, x1⟩ := cell2 BX.out.g0
 obtain ⟨c0, c1, c2, c3⟩ := cell4 BX.out.g1
 go_upto_region 9 with (fail)
 clear x0 x1 c0 c1 c2 c3
 obtain ⟨b, off, z0, rfl, hbw, k00, k01, k02, k03, hz0⟩ := kid_val (HY.out.ext isNd_good BX.out.x fun _ _ h => h) 0 (by omega)
 simp only [Nat.zero_mul, Nat.add_zero] at k00 k01 k02 k03
 have HZ0 := hid hz0
 obtain ⟨a2, cap2, rfl, _⟩ := hz0
 have m00 := fun t' : LaterF none' W0 => (t'.x.cell (p := ⟨b, off, none⟩) hbw (fun h => h)).trans k00
 have m01 := fun t' : LaterF none' W0 => (t'.x.cell (p := ⟨b, off + 1, none⟩) hbw (fun h => h)).trans k01
 have m02 := fun t' : LaterF none' W0 => (t'.x.cell (p := ⟨b, off + 2, none⟩) hbw (fun h => h)).trans k02
 have m03 := fun t' : LaterF none' W0 => (t'.x.cell (p := ⟨b, off + 3, none⟩) hbw (fun h => h)).trans k03
 clear k00 k01 k02 k03
 obtain ⟨x0, x1⟩ := cell2L fun t' : LaterF none' W0 => t'.x.heap BX.out.g0 fun h => h
 obtain ⟨c0, c1, c2, c3⟩ := cell4L fun t' : LaterF none' W0 => t'.x.heap BX.out.g1 fun h => h
 refine region_q none' W0 (.qs [0, 1, 2, 3] (.one 4 true (.one 5 false .fin))) (by kernel_rfl) (by kernel_rfl) (fun dst v c a w h => by cases dst <;> exact h) ?_
 refine ⟨In.of (Ext.refl _ _).drew, ?_⟩
 change wpQuiet _ _ (fun w' => ∃ t : LaterF none' W0, w' = t.w) _ _ _
 simp only [sel, List.getElem?_cons_succ, List.getElem?_cons_zero]
 repeat (go_big_quiet_step (fail))
 refine wpQuiet_nil ?_
 simp only [wpTreeQ, stepT, sel, List.getElem?_cons_succ, List.getElem?_cons_zero]
 have D1 := hid (Ext.refl none' W0).drew
 clear x0 x1 c0 c1 c2 c3 m00 m01 m02 m03
 go_wp2_with fail
 refine (C0.out _ (BX.out.x.trans D1.out) _ ⟨_, rfl, HZ0.out.ext isNd_good D1.out fun _ _ h => h⟩).mono ?_
 rintro e w2 ⟨rfl, X2⟩
 have XX := hid (D1.out.trans X2)
 go_wp2_with fail
 refine ⟨In.of XX.out, ?_⟩
 go_wp2_with fail
 go_ret
 exact ⟨by rw [HR.out]; rfl, BX.out.x.trans XX.out⟩
def SimD (f : Nat) (t : Nd) : Prop := t.size ≤ f + 1 ∧ (shB (exF f) t = true ∨ setB (exF f) t = true ∨ incrB (exF f) t = true ∨ callB (exF f) t = true)
theorem shsim_any (f : Nat) (H : ExpH f) (deep : Nat) (head : Bool) (hd : deep + (f + 1) ≤ 1200000) (hf : f + 1 ≤ 1100000) (t : Nd) (ht : SimD f t) (v : Value) (w : World) (hm : MaxL w) (hv : NdV none' w t v) :
  Calls Tryz.prog 56 #[shV deep head, v] w (StrPost (simT (exT f) deep head t) w) := by
 obtain ⟨ht, he⟩ := ht
 unfold simT
 rcases he with he | he | he | he
 · have hk := (namB_parts he).1
   rw [if_pos hk]
   exact ss_short f H deep head hd hf t ht hk he v w hm hv
 · have hk := (ofB_parts he).1
   rw [if_neg (by omega), if_pos hk]
   exact ss_set f H deep head hd hf t ht hk he v w hm hv
 · have hk := (namB_parts he).1
   rw [if_neg (by omega), if_neg (by omega), if_pos hk]
   exact ss_inc f H deep head hd hf t ht hk he v w hm hv
 · have hk := (ofB_parts he).1
   rw [if_neg (by omega), if_neg (by omega), if_neg (by omega)]
   exact ss_call f H deep head hd hf t ht hk he v w hm hv
theorem sim_tell (f : Nat) (H : ExpH f) (deep : Nat) (head : Bool) (hd : deep + (f + 1) ≤ 1200000) (hf : f + 1 ≤ 1100000) (w : World) (hm : MaxL w) : TellV (SimD f) (simT (exT f) deep head) w (.func (.func 56) #[shV deep head] #[]) :=
 ⟨_, _, _, rfl, Go.Proofs.enters_of Tryz.func56 (by kernel_rfl) rfl, fun t ht W x X hx => shsim_any f H deep head hd hf t ht x W (maxL_later hm X) hx⟩
theorem ex_tell (f : Nat) (H : ExpH f) (deep : Nat) (head : Bool) (hd : deep + f ≤ 1200000) (w : World) (hm : MaxL w) : TellV (ExD f) (exT f deep head) w (.func (.func 23) #[shV deep head] #[]) :=
 ⟨_, _, _, rfl, Go.Proofs.enters_of Tryz.func23 (by kernel_rfl) rfl, fun t ht W x X hx => H deep head hd t ht.1 ht.2 x W (maxL_later hm X) hx⟩
end Go.Proofs.YthbmjamgidfneaaGreatDoor
