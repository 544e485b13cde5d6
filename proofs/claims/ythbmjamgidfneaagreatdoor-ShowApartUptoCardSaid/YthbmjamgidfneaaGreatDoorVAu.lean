import Derived.Test.YthbmjamgidfneaaGreatDoorVAb
import Derived.Test.YthbmjamgidfneaaGreatDoorVAf
import Derived.Test.YthbmjamgidfneaaGreatDoorVAt
import Derived.Test.YthbmjamgidfneaaGreatDoorVAj
set_option maxRecDepth 100000
set_option maxHeartbeats 6400000
namespace Go.Proofs.YthbmjamgidfneaaGreatDoor
open Go.RowKit Go.Lib Go.BigFrame
set_option linter.unusedVariables false
set_option linter.unusedSimpArgs false
def StD (f : Nat) (t : Nd) : Prop := t.size ≤ f ∧ stF f t = true
theorem else_any (f : Nat) (HS : StmH f) (deep : Nat) (hd : deep + f ≤ 1200000) (hf : f ≤ 1100000) (B : Nat) (t : Nd) (ht : StD f t) (v : Value) (w : World) (hm : MaxL w) (hb : w.heap[B]? = some (.cells #[.int .i64 (deep : Nat), .bool false] 50 (0, 0))) (hv : NdV none' w t v) :
  Calls Tryz.prog 57 #[v, .pointer (some ⟨B, 0, none⟩)] w (StrPost ([101, 108, 115, 101, 32] ++ stT f deep t) w) := by
 have HL := (lens_all f deep hd).2 t ht.1 ht.2
 have hts := ht.1
 have CE := hid fun W (X : Ext none' w W) => HS deep hd t ht.1 ht.2 v W (maxL_later hm X) (hv.ext X fun _ _ h => h)
 obtain ⟨y, rfl, hy⟩ := hv
 obtain ⟨a1, cap1, rfl, _⟩ := hy
 obtain ⟨q, hq⟩ : ∃ q, stT f deep t = q := ⟨_, rfl⟩
 rw [hq] at CE HL ⊢
 have hql : q.length ≤ 10000000000000 := by omega
 have cat1 := str_cat [101, 108, 115, 101, 32] q
 obtain ⟨W0, hW0⟩ : ∃ W0, W0 = w.alloc (.cells #[.int .i64 t.kind, .string ⟨t.text.toArray⟩, .slice a1 t.kids.length cap1, .int .i64 t.pos] 24) := ⟨_, rfl⟩
 have X0 := hid (show Ext none' w W0 by rw [hW0]; exact (Ext.refl _ _).alloc _)
 have G0 := hid (X0.out.heap hb fun h => h)
 have G1 := hid (show W0.heap[w.heap.size]? = some (.cells #[.int .i64 t.kind, .string ⟨t.text.toArray⟩, .slice a1 t.kids.length cap1, .int .i64 t.pos] 24 (0, 0)) by rw [hW0]; exact heap_alloc_at rfl _)
 obtain ⟨C, hC⟩ : ∃ C, C = w.heap.size := ⟨_, rfl⟩
 rw [← hC] at G1
 clear hq HL ht hm HS hd hf hts hb
 go_enter Tryz.func57, Tryz.ntmps57
 go_upto_region 1 with (fail)
 rw [← hW0, ← hC]
 clear hW0 hC
 have x0 := cell_at G0.out 0
 have x1 := cell_at G0.out 1
 have c0 := cell_at G1.out 0
 have c1 := cell_at G1.out 1
 have c2 := cell_at G1.out 2
 have c3 := cell_at G1.out 3
 simp only [List.getElem?_toArray, List.getElem?_cons_zero, List.getElem?_cons_succ] at x0 x1 c0 c1 c2 c3
 go_wp2_with fail
 refine (CE.out _ X0.out).mono ?_
 rintro e w1 ⟨rfl, X1⟩
 have X1 := hid (X0.out.trans X1)
 clear x0 x1 c0 c1 c2 c3
 go_wp2_with fail
 go_ret
 exact ⟨rfl, X1.out⟩
theorem else_tell (f : Nat) (HS : StmH f) (deep : Nat) (hd : deep + f ≤ 1200000) (hf : f ≤ 1100000) (B : Nat) (w : World) (hm : MaxL w) (hb : w.heap[B]? = some (.cells #[.int .i64 (deep : Nat), .bool false] 50 (0, 0))) :
  TellV (StD f) (fun x => [101, 108, 115, 101, 32] ++ stT f deep x) w (.func (.func 57) #[] #[.pointer (some ⟨B, 0, none⟩)]) :=
 ⟨_, _, _, rfl, Go.Proofs.enters_of Tryz.func57 (by kernel_rfl) rfl, fun t ht W x X hx => else_any f HS deep hd hf B t ht x W (maxL_later hm X) (X.heap hb fun h => h) hx⟩
theorem nm_comma {s : List UInt8} (h : nmB s = true) : s.contains 44 = false := by
 unfold nmB nameB at h
 simp only [Bool.and_eq_true] at h
 cases s with
 | nil => rfl
 | cons c l =>
  have h2 := h.2
  simp only [Bool.and_eq_true] at h2
  have h3 := List.all_eq_true.mp h2.2
  rw [Bool.eq_false_iff]
  intro hc
  have := h3 44 (by simpa using hc)
  revert this
  decide
theorem rep_none : ∀ (l : List UInt8), l.contains 44 = false → l.flatMap (fun c => if c = 44 then [44, 32] else [c]) = l := by
 intro l
 induction l with
 | nil => intro _; rfl
 | cons x r ih =>
  intro h
  rw [List.contains_cons, Bool.or_eq_false_iff] at h
  have hx : x ≠ 44 := fun e => by subst e; simp at h
  rw [List.flatMap_cons, if_neg hx, ih h.2]; rfl
theorem rep_one (a b : List UInt8) (ha : a.contains 44 = false) (hb : b.contains 44 = false) : (a ++ 44 :: b).flatMap (fun c => if c = 44 then [44, 32] else [c]) = a ++ [44, 32] ++ b := by
 rw [List.flatMap_append, rep_none a ha, List.flatMap_cons, if_pos rfl, rep_none b hb]
 simp
theorem st_if (f : Nat) (H : ExpH f) (HS : StmH f) (deep : Nat) (hd : deep + (f + 1) ≤ 1200000) (hf : f + 1 ≤ 1100000) (t : Nd) (ht : t.size ≤ f + 1) (hk : t.kind = 30) (he : ifsB (exF f) (stF f) t = true) (v : Value) (w : World) (hm : MaxL w) (hv : NdV none' w t v) :
  Calls Tryz.prog 24 #[shV deep false, v] w (StrPost ([105, 102, 32] ++ exT f deep true (t.kid 0) ++ [32] ++ blT (stT f) deep (t.kid 1) ++ (if (t.kid 2).kind = 0 then [] else [32, 101, 108, 115, 101, 32] ++ stT f deep (t.kid 2))) w) := by
 obtain ⟨y, rfl, hy⟩ := hv
 have HY := hid hy
 obtain ⟨a1, cap1, rfl, hcap, _⟩ := hy
 have hkl : t.kids.length ≤ 1100000 := by have := t.kids_len; omega
 obtain ⟨B, hB⟩ : ∃ B, B = w.heap.size := ⟨_, rfl⟩
 have BX := TwoBox.mk' (deep := deep) (head := false) (cs := #[.int .i64 30, .string ⟨t.text.toArray⟩, .slice a1 t.kids.length cap1, .int .i64 t.pos]) hB
 obtain ⟨W0, hW0⟩ : ∃ W0, W0 = ((w.alloc (.cells #[.int .i64 (deep : Nat), .bool false] 50)).alloc (.cells #[.int .i64 30, .string ⟨t.text.toArray⟩, .slice a1 t.kids.length cap1, .int .i64 t.pos] 24)) := ⟨_, rfl⟩
 rw [← hW0] at BX
 have BX := hid BX
 obtain ⟨rr, hrr⟩ : ∃ r, r = [105, 102, 32] ++ exT f deep true (t.kid 0) ++ [32] ++ blT (stT f) deep (t.kid 1) ++ (if (t.kid 2).kind = 0 then [] else [32, 101, 108, 115, 101, 32] ++ stT f deep (t.kid 2)) := ⟨_, rfl⟩
 rw [← hrr]
 unfold ifsB at he
 obtain ⟨hk2, htx, h3⟩ := ofB_parts he
 obtain ⟨x, y, z, hkx, hx1, hy1, hz1⟩ := three_kids h3
 obtain ⟨hx0, hy0, hz0⟩ := kid_three hkx
 have hsz := size_three hkx
 have hl : t.kids.length = 3 := by rw [hkx]; rfl
 have y0 : (0 : Int) < (t.kids.length : Int) := by omega
 have y1 : (1 : Int) < (t.kids.length : Int) := by omega
 have y2 : (2 : Int) < (t.kids.length : Int) := by omega
 have hzD : z.kind ≠ 0 → StD f z := fun h0 => by
  unfold orB at hz1
  simp only [Bool.or_eq_true] at hz1
  refine ⟨by omega, ?_⟩
  rcases hz1 with (hz1 | hz1) | hz1
  · exact absurd (emptyB_kind hz1) h0
  · exact stF_block (by omega) hz1
  · unfold ifB at hz1
    simp only [Bool.and_eq_true] at hz1
    exact hz1.2
 have hbl := blk_len (deep := deep) (st := stT f) (f := f) (by omega) (fun z hm hz => (lens_all f (deep + 1) (by omega)).2 z (by have := Nd.size_kid hm; omega) hz) hy1
 have l1 : (blT (stT f) deep (t.kid 1)).length ≤ 10000000000000 := by rw [hy0]; omega
 have C1 := hid fun W (X : Ext none' w W) v' (hv' : NdV none' W (t.kid 1) v') => blk_show f HS deep false hd hf (t.kid 1) (by rw [hy0]; omega) (by rw [hy0]; exact hy1) v' W (maxL_later hm X) hv'
 have l0 : (exT f deep true (t.kid 0)).length ≤ 10000000000000 := by rw [hx0]; have := (lens_all f deep (by omega)).1 x (by omega) hx1 true; omega
 have C0 := hid fun W (X : Ext none' w W) v' (hv' : NdV none' W (t.kid 0) v') => H deep true (by omega) (t.kid 0) (by rw [hx0]; omega) (by rw [hx0]; exact hx1) v' W (maxL_later hm X) hv'
 have l2 : (optT (fun x => [101, 108, 115, 101, 32] ++ stT f deep x) (t.kid 2)).length ≤ 10000000000000 := opt_len fun h => by rw [hz0] at h ⊢; have := (lens_all f deep (by omega)).2 z (by omega) (hzD h).2; simp only [List.length_append, List.length_cons, List.length_nil]; omega
 have C2 := hid fun W (X : Ext none' w W) (hb : W.heap[w.heap.size]? = some (.cells #[.int .i64 (deep : Nat), .bool false] 50 (0, 0))) v' (hv' : NdV none' W (t.kid 2) v') => optional_any (StD f) (fun x => [101, 108, 115, 101, 32] ++ stT f deep x) (t.kid 2) v' _ W hv' (else_tell f HS deep (by omega) (by omega) w.heap.size W (maxL_later hm X) hb) (by rw [hz0]; exact hzD)
 have htxt : [105, 102, 32] ++ exT f deep true (t.kid 0) ++ [32] ++ blT (stT f) deep (t.kid 1) ++ (if (t.kid 2).kind = 0 then [] else [32, 101, 108, 115, 101, 32] ++ stT f deep (t.kid 2)) = betw [32] [[105, 102], exT f deep true (t.kid 0), blT (stT f) deep (t.kid 1), optT (fun x => [101, 108, 115, 101, 32] ++ stT f deep x) (t.kid 2)] := by
  rw [betw_flat _ _ _ (by simp)]
  simp only [List.map_cons, List.map_nil, List.flatten_cons, List.flatten_nil, List.append_nil]
  rw [optP_opt fun h => by simp, optP_ne (by rw [hx0]; exact exT_ne hx1), optP_ne blT_ne]
  simp
 rw [htxt] at hrr
 obtain ⟨o0, ho0⟩ : ∃ o, exT f deep true (t.kid 0) = o := ⟨_, rfl⟩
 obtain ⟨o1, ho1⟩ : ∃ o, blT (stT f) deep (t.kid 1) = o := ⟨_, rfl⟩
 obtain ⟨o2, ho2⟩ : ∃ o, optT (fun x => [101, 108, 115, 101, 32] ++ stT f deep x) (t.kid 2) = o := ⟨_, rfl⟩
 rw [ho0] at hrr C0 l0
 rw [ho1] at hrr C1 l1
 rw [ho2] at hrr C2 l2
 have CB := hid fun W u (hu : IsStrs none' W u [[105, 102], o0, o1, o2]) => between_any [32] _ u W hu (by simp) (by simp only [Lib.lens, List.length_cons, List.length_nil, List.map_cons, List.map_nil, List.sum_cons, List.sum_nil]; omega)
 rw [← hrr] at CB
 rw [hk]
 have hmf := mkf_run
 clear hrr ht hd hf hk he H HS hk2 htx h3 hkx hx1 hy1 hz1 hx0 hy0 hz0 hsz hl hzD hbl htxt ho0 ho1 ho2
 go_enter Tryz.func24, Tryz.ntmps24
 go_upto_region 1 with (fail)
 rw [← hB] at C2
 rw [← hW0, ← hB]
 clear hW0 hB
 obtain ⟨b, off, ka0, kc0, rfl, HBW, HZ0, KK0⟩ := kidA (HY.out.ext isNd_good BX.out.x fun _ _ h => h) (by omega)
 obtain ⟨ka1, kc1, HZ1, KK1⟩ := kidB (HY.out.ext isNd_good BX.out.x fun _ _ h => h) 1 4 rfl (by omega)
 obtain ⟨ka2, kc2, HZ2, KK2⟩ := kidB (HY.out.ext isNd_good BX.out.x fun _ _ h => h) 2 8 rfl (by omega)
 obtain ⟨x0, x1⟩ := cell2 BX.out.g0
 obtain ⟨c0, c1, c2, c3⟩ := cell4 BX.out.g1
 go_upto_region 3 with (fail)
 clear x0 x1 c0 c1 c2 c3
 obtain ⟨w1, hw1⟩ : ∃ w1, w1 = (W0.alloc (.cells #[.int .i64 (deep : Nat), .bool true] 50)) := ⟨_, rfl⟩
 have XX := hid (show Ext none' W0 w1 by rw [hw1]; exact (Ext.refl _ _).alloc _)
 have G2 := hid (show w1.heap[W0.heap.size]? = some (.cells #[.int .i64 (deep : Nat), .bool true] 50 (0, 0)) by rw [hw1]; exact heap_alloc_at rfl _)
 rw [← hw1]
 clear hw1
 obtain ⟨C, hC⟩ : ∃ C, C = W0.heap.size := ⟨_, rfl⟩
 rw [← hC] at G2 ⊢
 clear hC
 have BX := hid (BX.out.ext XX.out)
 obtain ⟨x0, x1⟩ := cell2 BX.out.g0
 obtain ⟨c0, c1, c2, c3⟩ := cell4 BX.out.g1
 obtain ⟨m20, m21, m22, m23⟩ := kid' XX.out HBW.out KK2.out
 go_wp2_with fail
 refine (C2.out _ BX.out.x BX.out.g0 _ ⟨_, rfl, HZ2.out.ext isNd_good (XX.out) fun _ _ h => h⟩).mono ?_
 rintro e w2 ⟨rfl, X2⟩
 have BX := hid (BX.out.ext X2)
 have Y2 := hid X2
 have XX := hid (XX.out.trans X2)
 clear x0 x1 c0 c1 c2 c3 m20 m21 m22 m23 X2
 go_upto_region 13 with (fail)
 obtain ⟨x0, x1⟩ := cell2L fun t' : LaterF none' w2 => t'.x.heap BX.out.g0 fun h => h
 have h0 := fun t' : LaterF none' w2 => cell_at (((Y2.out).trans t'.x).heap G2.out fun h => h) 0
 have h1 := fun t' : LaterF none' w2 => cell_at (((Y2.out).trans t'.x).heap G2.out fun h => h) 1
 simp only [List.getElem?_toArray, List.getElem?_cons_zero, List.getElem?_cons_succ] at h0 h1
 obtain ⟨m00, m01, m02, m03⟩ := kidL (w1 := w2) XX.out HBW.out KK0.out
 obtain ⟨m10, m11, m12, m13⟩ := kidL (w1 := w2) XX.out HBW.out KK1.out
 refine region_q none' w2 (.qs [0, 1, 2, 3, 5, 6, 7, 8, 10] (.one 4 true (.one 9 true (.one 11 false (.one 12 false (.one 13 false .fin)))))) (by kernel_rfl) (by kernel_rfl) (fun dst v c a w h => by cases dst <;> exact h) ?_
 refine ⟨In.of (Ext.refl _ _).drew, ?_⟩
 change wpQuiet _ _ (fun w' => ∃ t : LaterF none' w2, w' = t.w) _ _ _
 simp only [sel, List.getElem?_cons_succ, List.getElem?_cons_zero]
 repeat (go_big_quiet_step (fail))
 refine wpQuiet_nil ?_
 simp only [wpTreeQ, stepT, sel, List.getElem?_cons_succ, List.getElem?_cons_zero]
 have D1 := hid (Ext.refl none' w2).drew
 clear m00 m01 m02 m03 m10 m11 m12 m13 x0 x1 h0 h1
 go_wp2_with fail
 refine (C0.out _ (BX.out.x.trans D1.out) _ ⟨_, rfl, HZ0.out.ext isNd_good (XX.out.trans D1.out) fun _ _ h => h⟩).mono ?_
 rintro e w3 ⟨rfl, X2⟩
 have X9 := hid (D1.out.trans X2)
 clear X2
 go_wp2_with fail
 refine ⟨In.of X9.out, ?_⟩
 go_wp2_with fail
 refine (C1.out _ (BX.out.x.trans X9.out) _ ⟨_, rfl, HZ1.out.ext isNd_good (XX.out.trans X9.out) fun _ _ h => h⟩).mono ?_
 rintro e w4 ⟨rfl, X2⟩
 have X9 := hid (X9.out.trans X2)
 clear X2
 go_wp2_with fail
 refine ⟨In.of X9.out, ?_⟩
 go_wp2_with fail
 have Y := hid ((Ext.refl none' w4).alloc (.cells #[.string ⟨#[105, 102]⟩, .string ⟨o0.toArray⟩, .string ⟨o1.toArray⟩, .string ⟨o2.toArray⟩] 9))
 refine (CB.out _ _ (isStrs_lit (heap_alloc_at rfl _) rfl)).mono ?_
 rintro e w5 ⟨rfl, X3⟩
 have XX := hid (X9.out.trans (Y.out.trans X3))
 go_wp2_with fail
 go_ret
 exact ⟨rfl, BX.out.x.trans XX.out⟩
def rplT (s : List UInt8) : List UInt8 := s.flatMap fun c => if c = 44 then [44, 32] else [c]
theorem rplT_len (s : List UInt8) : (rplT s).length ≤ 2 * s.length := by
 unfold rplT
 induction s with
 | nil => simp
 | cons a r ih =>
  rw [List.flatMap_cons, List.length_append, List.length_cons]
  have : (if a = 44 then [44, 32] else [a] : List UInt8).length ≤ 2 := by split <;> simp
  omega
theorem rpl_lib {s : List UInt8} (h : rngB s = true) : Lib.replace s [44] [44, 32] 1 = rplT s ∧ Lib.count s [44] ≤ 1 := by
 unfold rngB at h
 have hne : (([44] : List UInt8) == [44, 32]) = false := by decide
 unfold Lib.replace Lib.replaceNum
 rw [hne, if_neg (by decide)]
 by_cases hc : s.contains 44 = true
 · rw [if_pos hc] at h
   simp only [Bool.and_eq_true] at h
   have ha := nm_comma h.1
   have hb : ((s.dropWhile (· != 44)).drop 1).contains 44 = false := by
    have := h.2
    unfold bndB at this
    simp only [Bool.and_eq_true] at this
    exact nm_comma this.1
   have hix := index_comma s
   rw [if_pos hc] at hix
   have hdw : s.dropWhile (· != 44) = 44 :: (s.dropWhile (· != 44)).drop 1 := by
    cases hd : s.dropWhile (· != 44) with
    | nil =>
     exfalso
     have h3 : s = s.takeWhile (· != 44) ++ s.dropWhile (· != 44) := (List.takeWhile_append_dropWhile ..).symm
     rw [hd, List.append_nil] at h3
     rw [← h3] at ha
     rw [hc] at ha; cases ha
    | cons c l =>
     have := List.head?_dropWhile_not (fun c : UInt8 => c != 44) s
     rw [hd] at this
     simp at this
     rw [this]; rfl
   have h3 : s = s.takeWhile (· != 44) ++ 44 :: (s.dropWhile (· != 44)).drop 1 := by
    conv => lhs; rw [← List.takeWhile_append_dropWhile (p := fun c : UInt8 => c != 44) (l := s)]
    rw [hdw]; rfl
   obtain ⟨a, hae⟩ : ∃ a, s.takeWhile (· != 44) = a := ⟨_, rfl⟩
   obtain ⟨b, hbe⟩ : ∃ b, (s.dropWhile (· != 44)).drop 1 = b := ⟨_, rfl⟩
   rw [hae] at ha hix h3
   rw [hbe] at hb h3
   have hdr : s.drop (a.length + 1) = b := by rw [h3, List.drop_append]; simp
   have hcn : Lib.count s [44] = 1 := by
    rw [Lib.count_hit (by simp) hix]
    show 1 + Lib.count (s.drop (a.length + 1)) [44] = 1
    rw [hdr, Lib.count_miss (by rw [index_comma, if_neg (by rw [hb]; simp)])]
   rw [hcn, if_neg (by omega)]
   refine ⟨?_, Nat.le_refl _⟩
   rw [show (1 : Int).toNat = 0 + 1 from rfl, Lib.replaceK_hit _ _ _ _ _ hix]
   show s.take a.length ++ [44, 32] ++ s.drop (a.length + 1) = rplT s
   rw [hdr]
   unfold rplT
   rw [h3, rep_one a b ha hb, List.take_left' rfl]
 · have hcf : s.contains 44 = false := by simpa using hc
   have hix := index_comma s
   rw [if_neg hc] at hix
   have hcn := Lib.count_miss hix
   rw [hcn, if_pos (by omega)]
   refine ⟨?_, by omega⟩
   unfold rplT
   rw [rep_none s hcf]; rfl
theorem rpl_any (s : List UInt8) (h : rngB s = true) (w : World) (hm : MaxL w) : Calls Tryz.prog 59 #[.string ⟨s.toArray⟩, .string ⟨([44] : List UInt8).toArray⟩, .string ⟨([44, 32] : List UInt8).toArray⟩, .int .i64 1] w (StrPost (rplT s) w) := by
 obtain ⟨_, m, hm0⟩ := hm
 obtain ⟨h1, h2⟩ := rpl_lib h
 have hl := rngB_len h
 have C := Tryz.strings_Replace ⟨s.toArray⟩ ⟨([44] : List UInt8).toArray⟩ ⟨([44, 32] : List UInt8).toArray⟩ 1 m w (by rw [bsize]; omega) hm0 (by decide) (by
  have e1 : Lib.countB ⟨s.toArray⟩ ⟨([44] : List UInt8).toArray⟩ = Lib.count s [44] := rfl
  have e2 : (⟨([44, 32] : List UInt8).toArray⟩ : ByteArray).size = 2 := rfl
  rw [bsize, e1, e2]; omega)
 have D1 : (⟨s.toArray⟩ : ByteArray).data.toList = s := rfl
 have D2 : (⟨([44] : List UInt8).toArray⟩ : ByteArray).data.toList = [44] := rfl
 have D3 : (⟨([44, 32] : List UInt8).toArray⟩ : ByteArray).data.toList = [44, 32] := rfl
 rw [D1, D2, D3, h1] at C
 exact C.mono fun e w' ⟨he, hw⟩ => ⟨he, Ext.of_below hw⟩
theorem st_range (f : Nat) (H : ExpH f) (HS : StmH f) (deep : Nat) (hd : deep + (f + 1) ≤ 1200000) (hf : f + 1 ≤ 1100000) (t : Nd) (ht : t.size ≤ f + 1) (hk : t.kind = 32) (he : namB rngB 32 [exF f, blkB (stF f)] t = true) (v : Value) (w : World) (hm : MaxL w) (hv : NdV none' w t v) :
  Calls Tryz.prog 24 #[shV deep false, v] w (StrPost (wFor ++ [32] ++ rngT t.text ++ [114, 97, 110, 103, 101, 32] ++ exT f deep true (t.kid 0) ++ [32] ++ blT (stT f) deep (t.kid 1)) w) := by
 obtain ⟨y, rfl, hy⟩ := hv
 have HY := hid hy
 obtain ⟨a1, cap1, rfl, hcap, _⟩ := hy
 have hkl : t.kids.length ≤ 1100000 := by have := t.kids_len; omega
 obtain ⟨tx, htx0⟩ : ∃ tx, t.text = tx := ⟨_, rfl⟩
 obtain ⟨B, hB⟩ : ∃ B, B = w.heap.size := ⟨_, rfl⟩
 have BX := TwoBox.mk' (deep := deep) (head := false) (cs := #[.int .i64 32, .string ⟨tx.toArray⟩, .slice a1 t.kids.length cap1, .int .i64 t.pos]) hB
 obtain ⟨W0, hW0⟩ : ∃ W0, W0 = ((w.alloc (.cells #[.int .i64 (deep : Nat), .bool false] 50)).alloc (.cells #[.int .i64 32, .string ⟨tx.toArray⟩, .slice a1 t.kids.length cap1, .int .i64 t.pos] 24)) := ⟨_, rfl⟩
 rw [← hW0] at BX
 have BX := hid BX
 obtain ⟨rr, hrr⟩ : ∃ r, r = wFor ++ [32] ++ rngT t.text ++ [114, 97, 110, 103, 101, 32] ++ exT f deep true (t.kid 0) ++ [32] ++ blT (stT f) deep (t.kid 1) := ⟨_, rfl⟩
 rw [← hrr]
 obtain ⟨hk2, htx, h3⟩ := namB_parts he
 obtain ⟨x, y, hkx, hx1, hy1⟩ := two_kids h3
 obtain ⟨hx0, hy0⟩ := kid_two hkx
 have hsz := size_two hkx
 have hl : t.kids.length = 2 := by rw [hkx]; rfl
 have y0 : (0 : Int) < (t.kids.length : Int) := by omega
 have y1 : (1 : Int) < (t.kids.length : Int) := by omega
 have hbl := blk_len (deep := deep) (st := stT f) (f := f) (by omega) (fun z hm hz => (lens_all f (deep + 1) (by omega)).2 z (by have := Nd.size_kid hm; omega) hz) hy1
 have l1 : (blT (stT f) deep (t.kid 1)).length ≤ 10000000000000 := by rw [hy0]; omega
 have C1 := hid fun W (X : Ext none' w W) v' (hv' : NdV none' W (t.kid 1) v') => blk_show f HS deep false hd hf (t.kid 1) (by rw [hy0]; omega) (by rw [hy0]; exact hy1) v' W (maxL_later hm X) hv'
 have l0 : (exT f deep true (t.kid 0)).length ≤ 10000000000000 := by rw [hx0]; have := (lens_all f deep (by omega)).1 x (by omega) hx1 true; omega
 have C0 := hid fun W (X : Ext none' w W) v' (hv' : NdV none' W (t.kid 0) v') => H deep true (by omega) (t.kid 0) (by rw [hx0]; omega) (by rw [hx0]; exact hx1) v' W (maxL_later hm X) hv'
 have hrl := rngB_len htx
 obtain ⟨nm, hnm⟩ : ∃ nm, nm = if t.text = [] then [] else rplT t.text ++ [32, 58, 61] := ⟨_, rfl⟩
 have hrp := rplT_len t.text
 have lnm : nm.length ≤ 10000 := by rw [hnm]; split <;> simp only [List.length_append, List.length_cons, List.length_nil] <;> omega
 have htxt : wFor ++ [32] ++ rngT t.text ++ [114, 97, 110, 103, 101, 32] ++ exT f deep true (t.kid 0) ++ [32] ++ blT (stT f) deep (t.kid 1) = betw [32] [wFor, nm, [114, 97, 110, 103, 101], exT f deep true (t.kid 0), blT (stT f) deep (t.kid 1)] := by
  rw [betw_flat _ _ _ (by unfold wFor; simp)]
  simp only [List.map_cons, List.map_nil, List.flatten_cons, List.flatten_nil, List.append_nil]
  rw [optP_ne (x := [114, 97, 110, 103, 101]) (by simp), optP_ne (x := exT f deep true (t.kid 0)) (by rw [hx0]; exact exT_ne hx1), optP_ne blT_ne, hnm]
  unfold rngT optP
  by_cases h0 : t.text = []
  · rw [if_pos h0, if_pos h0]; simp
  · rw [if_neg h0, if_neg h0, if_neg (by simp)]; unfold rplT; simp
 rw [htxt] at hrr
 obtain ⟨o0, ho0⟩ : ∃ o, exT f deep true (t.kid 0) = o := ⟨_, rfl⟩
 obtain ⟨o1, ho1⟩ : ∃ o, blT (stT f) deep (t.kid 1) = o := ⟨_, rfl⟩
 rw [ho0] at hrr C0 l0
 rw [ho1] at hrr C1 l1
 have CB := hid fun W u (hu : IsStrs none' W u [wFor, nm, [114, 97, 110, 103, 101], o0, o1]) => between_any [32] _ u W hu (by simp) (by simp only [Lib.lens, List.length_cons, List.length_nil, List.map_cons, List.map_nil, List.sum_cons, List.sum_nil, wFor]; omega)
 rw [← hrr] at CB
 unfold wFor at CB
 have CR := hid fun W (X : Ext none' w W) => rpl_any t.text htx W (maxL_later hm X)
 have cat1 := str_cat (rplT t.text) [32, 58, 61]
 obtain ⟨rp, hrp0⟩ : ∃ r, rplT t.text = r := ⟨_, rfl⟩
 rw [hrp0] at hnm CR cat1 hrp
 rw [htx0] at hnm CR hrl hrp
 have hrp2 : rp.length ≤ 1000 := by omega
 have HNM := hid hnm
 rw [hk, htx0]
 have hmf := mkf_run
 clear hrr ht hd hf hk he H HS hk2 htx h3 hkx hx1 hy1 hx0 hy0 hsz hl hbl htxt ho0 ho1 hnm htx0 hrp0
 go_enter Tryz.func24, Tryz.ntmps24
 go_upto_region 1 with (fail)
 rw [← hW0, ← hB]
 clear hW0 hB
 obtain ⟨b, off, ka0, kc0, rfl, HBW, HZ0, KK0⟩ := kidA (HY.out.ext isNd_good BX.out.x fun _ _ h => h) (by omega)
 obtain ⟨ka1, kc1, HZ1, KK1⟩ := kidB (HY.out.ext isNd_good BX.out.x fun _ _ h => h) 1 4 rfl (by omega)
 obtain ⟨x0, x1⟩ := cell2 BX.out.g0
 obtain ⟨c0, c1, c2, c3⟩ := cell4 BX.out.g1
 go_upto_region 3 with (fail)
 clear x0 x1 c0 c1 c2 c3
 obtain ⟨w1, hw1⟩ : ∃ w1, w1 = (W0.alloc (.cells #[.int .i64 (deep : Nat), .bool true] 50)) := ⟨_, rfl⟩
 have XX := hid (show Ext none' W0 w1 by rw [hw1]; exact (Ext.refl _ _).alloc _)
 have G2 := hid (show w1.heap[W0.heap.size]? = some (.cells #[.int .i64 (deep : Nat), .bool true] 50 (0, 0)) by rw [hw1]; exact heap_alloc_at rfl _)
 rw [← hw1]
 clear hw1
 obtain ⟨C, hC⟩ : ∃ C, C = W0.heap.size := ⟨_, rfl⟩
 rw [← hC] at G2 ⊢
 clear hC
 have BX := hid (BX.out.ext XX.out)
 obtain ⟨x0, x1⟩ := cell2 BX.out.g0
 obtain ⟨c0, c1, c2, c3⟩ := cell4 BX.out.g1
 by_cases hz : tx = []
 case pos =>
  have q1 : (tx != []) = false := by simp [hz]
  obtain ⟨rfl⟩ : Hid (nm = []) := hid (by rw [HNM.out, if_pos hz])
  subst hz
  go_upto_region 20 with (fail)
  have Y2 := hid (Ext.refl none' w1)
  clear x0 x1 c0 c1 c2 c3
  obtain ⟨x0, x1⟩ := cell2L fun t' : LaterF none' w1 => t'.x.heap BX.out.g0 fun h => h
  have h0 := fun t' : LaterF none' w1 => cell_at (((Y2.out).trans t'.x).heap G2.out fun h => h) 0
  have h1 := fun t' : LaterF none' w1 => cell_at (((Y2.out).trans t'.x).heap G2.out fun h => h) 1
  simp only [List.getElem?_toArray, List.getElem?_cons_zero, List.getElem?_cons_succ] at h0 h1
  obtain ⟨m00, m01, m02, m03⟩ := kidL (w1 := w1) XX.out HBW.out KK0.out
  obtain ⟨m10, m11, m12, m13⟩ := kidL (w1 := w1) XX.out HBW.out KK1.out
  refine region_q none' w1 (.qs [0, 1, 2, 3, 4, 6, 7, 8, 9] (.one 5 true (.one 10 true (.one 11 false (.one 12 false (.one 13 false .fin)))))) (by kernel_rfl) (by kernel_rfl) (fun dst v c a w h => by cases dst <;> exact h) ?_
  refine ⟨In.of (Ext.refl _ _).drew, ?_⟩
  change wpQuiet _ _ (fun w' => ∃ t : LaterF none' w1, w' = t.w) _ _ _
  simp only [sel, List.getElem?_cons_succ, List.getElem?_cons_zero]
  repeat (go_big_quiet_step (fail))
  refine wpQuiet_nil ?_
  simp only [wpTreeQ, stepT, sel, List.getElem?_cons_succ, List.getElem?_cons_zero]
  have D1 := hid (Ext.refl none' w1).drew
  clear m00 m01 m02 m03 m10 m11 m12 m13 x0 x1 h0 h1
  go_wp2_with fail
  refine (C0.out _ (BX.out.x.trans D1.out) _ ⟨_, rfl, HZ0.out.ext isNd_good (XX.out.trans D1.out) fun _ _ h => h⟩).mono ?_
  rintro e w3 ⟨rfl, X2⟩
  have X9 := hid (D1.out.trans X2)
  clear X2
  go_wp2_with fail
  refine ⟨In.of X9.out, ?_⟩
  go_wp2_with fail
  refine (C1.out _ (BX.out.x.trans X9.out) _ ⟨_, rfl, HZ1.out.ext isNd_good (XX.out.trans X9.out) fun _ _ h => h⟩).mono ?_
  rintro e w4 ⟨rfl, X2⟩
  have X9 := hid (X9.out.trans X2)
  clear X2
  go_wp2_with fail
  refine ⟨In.of X9.out, ?_⟩
  go_wp2_with fail
  have Y := hid ((Ext.refl none' w4).alloc (.cells #[.string ⟨#[102, 111, 114]⟩, .string ⟨#[]⟩, .string ⟨#[114, 97, 110, 103, 101]⟩, .string ⟨o0.toArray⟩, .string ⟨o1.toArray⟩] 9))
  refine (CB.out _ _ (isStrs_lit (heap_alloc_at rfl _) rfl)).mono ?_
  rintro e w5 ⟨rfl, X3⟩
  have XX := hid (X9.out.trans (Y.out.trans X3))
  go_wp2_with fail
  go_ret
  exact ⟨rfl, BX.out.x.trans XX.out⟩
 case neg =>
  have q1 : (tx != []) = true := by simpa using hz
  have q2 : tx.isEmpty = false := by simpa using hz
  obtain ⟨rfl⟩ : Hid (nm = rp ++ [32, 58, 61]) := hid (by rw [HNM.out, if_neg hz])
  clear hz
  go_wp2_with fail
  refine (CR.out _ BX.out.x).mono ?_
  rintro e w2 ⟨rfl, X2⟩
  have BX := hid (BX.out.ext X2)
  have Y2 := hid X2
  have XX := hid (XX.out.trans X2)
  clear x0 x1 c0 c1 c2 c3 X2
  go_upto_region 20 with (fail)
  obtain ⟨x0, x1⟩ := cell2L fun t' : LaterF none' w2 => t'.x.heap BX.out.g0 fun h => h
  have h0 := fun t' : LaterF none' w2 => cell_at (((Y2.out).trans t'.x).heap G2.out fun h => h) 0
  have h1 := fun t' : LaterF none' w2 => cell_at (((Y2.out).trans t'.x).heap G2.out fun h => h) 1
  simp only [List.getElem?_toArray, List.getElem?_cons_zero, List.getElem?_cons_succ] at h0 h1
  obtain ⟨m00, m01, m02, m03⟩ := kidL (w1 := w2) XX.out HBW.out KK0.out
  obtain ⟨m10, m11, m12, m13⟩ := kidL (w1 := w2) XX.out HBW.out KK1.out
  refine region_q none' w2 (.qs [0, 1, 2, 3, 4, 6, 7, 8, 9] (.one 5 true (.one 10 true (.one 11 false (.one 12 false (.one 13 false .fin)))))) (by kernel_rfl) (by kernel_rfl) (fun dst v c a w h => by cases dst <;> exact h) ?_
  refine ⟨In.of (Ext.refl _ _).drew, ?_⟩
  change wpQuiet _ _ (fun w' => ∃ t : LaterF none' w2, w' = t.w) _ _ _
  simp only [sel, List.getElem?_cons_succ, List.getElem?_cons_zero]
  repeat (go_big_quiet_step (fail))
  refine wpQuiet_nil ?_
  simp only [wpTreeQ, stepT, sel, List.getElem?_cons_succ, List.getElem?_cons_zero]
  have D1 := hid (Ext.refl none' w2).drew
  clear m00 m01 m02 m03 m10 m11 m12 m13 x0 x1 h0 h1
  go_wp2_with fail
  refine (C0.out _ (BX.out.x.trans D1.out) _ ⟨_, rfl, HZ0.out.ext isNd_good (XX.out.trans D1.out) fun _ _ h => h⟩).mono ?_
  rintro e w3 ⟨rfl, X2⟩
  have X9 := hid (D1.out.trans X2)
  clear X2
  go_wp2_with fail
  refine ⟨In.of X9.out, ?_⟩
  go_wp2_with fail
  refine (C1.out _ (BX.out.x.trans X9.out) _ ⟨_, rfl, HZ1.out.ext isNd_good (XX.out.trans X9.out) fun _ _ h => h⟩).mono ?_
  rintro e w4 ⟨rfl, X2⟩
  have X9 := hid (X9.out.trans X2)
  clear X2
  go_wp2_with fail
  refine ⟨In.of X9.out, ?_⟩
  go_wp2_with fail
  have Y := hid ((Ext.refl none' w4).alloc (.cells #[.string ⟨#[102, 111, 114]⟩, .string ⟨(rp ++ [32, 58, 61]).toArray⟩, .string ⟨#[114, 97, 110, 103, 101]⟩, .string ⟨o0.toArray⟩, .string ⟨o1.toArray⟩] 9))
  refine (CB.out _ _ (isStrs_lit (heap_alloc_at rfl _) rfl)).mono ?_
  rintro e w5 ⟨rfl, X3⟩
  have XX := hid (X9.out.trans (Y.out.trans X3))
  go_wp2_with fail
  go_ret
  exact ⟨rfl, BX.out.x.trans XX.out⟩
end Go.Proofs.YthbmjamgidfneaaGreatDoor
