import Derived.Test.YthbmjamgidfneaaGreatDoorPAb
import Derived.Test.YthbmjamgidfneaaGreatDoorPAe
import Derived.Test.YthbmjamgidfneaaGreatDoorPAw
import Derived.Test.YthbmjamgidfneaaGreatDoorPAx
import Derived.Laws.IdiomStrings
import Derived.Laws.AppendOwn
import Derived.Test.YthbmjamgidfneaaGreatDoorPAk
import Derived.Test.YthbmjamgidfneaaGreatDoorPAf
import Derived.Test.YthbmjamgidfneaaGreatDoorPAp
set_option maxRecDepth 100000
set_option maxHeartbeats 6400000
namespace Go.Proofs.YthbmjamgidfneaaGreatDoor
open Go.RowKit Go.Lib Go.BigFrame
theorem rightB_p {p : Bool} {t : Nd} (h : rightB p t = true) : p = true := by
 unfold rightB at h
 simp only [Bool.and_eq_true] at h
 exact h.2.2
theorem exprText_any (f : Nat) (hf : f ≤ 1100000) (t : Nd) (ht : t.size ≤ f) (v : Value) (w : World) (hm : MaxL w) (hv : NdV none' w t v) : Calls Tryz.prog 10 #[v, .string ⟨sExpr.toArray⟩] w (TextPost (rightB (exF f t) t) (exT f 0 false t) w) :=
 text_any sExpr 2 23 #[shower0] rfl (Go.Proofs.enters_of Tryz.func23 (by kernel_rfl) rfl) t _ _ v w hv (fun W x X hx => exprRight_any f (by unfold bigD; omega) t ht x W (maxL_later hm X) hx) fun hp W x X hx => (sh_all f hf).1 0 false (by omega) t ht (rightB_p hp) x W (maxL_later hm X) hx
theorem declText_any (f : Nat) (hf : f + 1 ≤ 1100000) (t : Nd) (ht : t.size ≤ f + 1) (v : Value) (w : World) (hm : MaxL w) (hv : NdV none' w t v) : Calls Tryz.prog 10 #[v, .string ⟨sDecl.toArray⟩] w (TextPost (rightB (declB (tyF nmB f) (exF f) (stF f) t) t) (declT (typF f) (exT f) (stT f) t) w) :=
 text_any sDecl 0 21 #[] rfl (Go.Proofs.enters_of Tryz.func21 (by kernel_rfl) rfl) t _ _ v w hv (fun W x X hx => declRight_any f (by unfold bigD; omega) t ht x W (maxL_later hm X) hx) fun hp W x X hx => shdecl_any f hf t ht (rightB_p hp) x W (maxL_later hm X) hx
end Go.Proofs.YthbmjamgidfneaaGreatDoor
namespace Go.Proofs.YthbmjamgidfneaaGreatDoor
open Go.RowKit Go.Lib Go.BigFrame
set_option linter.unusedVariables false
set_option linter.unusedSimpArgs false
theorem declT_len {f : Nat} {t : Nd} (hf : f + 1 ≤ 1100000) (hs : t.size ≤ f + 1) (h : declB (tyF nmB f) (exF f) (stF f) t = true) : (declT (typF f) (exT f) (stT f) t).length + 1000000 ≤ 4000000 * t.size := by
 have hx := fun x (hx : x.size ≤ f) => (lens_all f 0 (by omega)).1 x hx
 have hs1 := fun x (hx : x.size ≤ f) => (lens_all f 1 (by omega)).2 x hx
 unfold declB at h
 unfold declT
 by_cases h2 : t.kind = 2
 · rw [if_pos h2] at h ⊢
   obtain ⟨_, hn, h3⟩ := namB_parts h
   obtain ⟨x, y, z, hk, hx1, hy1, hz1⟩ := three_kids h3
   obtain ⟨e0, e1, e2⟩ := kid_three hk
   have := size_three hk
   have := nmB_len _ hn
   have := (pars_len (f := f) (by omega) hx1).1
   have := sigT_len nmB_len hy1 (show y.size ≤ f + 1 by omega)
   have := blk_len (deep := 0) (st := stT f) (f := f) (by omega) (fun z hm hz => hs1 z (by have := Nd.size_kid hm; omega) hz) hz1
   rw [e0, e1, e2]
   simp only [List.length_append, List.length_cons, List.length_nil]
   omega
 rw [if_neg h2] at h ⊢
 by_cases h3 : t.kind = 3
 · rw [if_pos h3] at h ⊢
   obtain ⟨_, hn, h3⟩ := namB_parts h
   obtain ⟨x, y, hk, hx1, hy1⟩ := two_kids h3
   obtain ⟨e0, e1⟩ := kid_two hk
   have := size_two hk
   have := nmB_len _ hn
   have := (pars_len (f := f) (by omega) hx1).1
   rw [e0, e1]
   unfold wType
   by_cases h13 : y.kind = 13
   · rw [if_pos h13]
     have hys : structB (tyF nmB f) y = true := by
      unfold orB at hy1
      simp only [Bool.or_eq_true] at hy1
      rcases hy1 with (h | h) | h
      · have := tyF_kind h; omega
      · exact h
      · have := (interB_parts h).1; omega
     unfold structB at hys
     simp only [Bool.and_eq_true, List.all_eq_true] at hys
     have hz := size_kids y
     have := flat_len (p := fun x => lineT 1 (x.text ++ [32] ++ typF f (x.kid 0))) (l := y.kids) fun x hx => (fld_len (hys.2.2 x hx) (by have := Nd.size_kid hx; omega)).1
     simp only [List.length_append, List.length_cons, List.length_nil] at this ⊢
     omega
   · rw [if_neg h13]
     have hyD : TyiD f y := ⟨by omega, by
      unfold orB at hy1
      simp only [Bool.or_eq_true] at hy1
      rcases hy1 with (h | h) | h
      · exact .inr ⟨by omega, h⟩
      · exfalso
        unfold structB at h
        simp only [Bool.and_eq_true, beq_iff_eq] at h
        exact h13 h.1
      · exact .inl h⟩
     have := inT_len hyD
     simp only [List.length_append, List.length_cons, List.length_nil]
     omega
 rw [if_neg h3] at h ⊢
 by_cases h4 : t.kind = 4
 · rw [if_pos h4] at h ⊢
   obtain ⟨_, hn, h3⟩ := namB_parts h
   obtain ⟨x, y, hk, hx1, hy1⟩ := two_kids h3
   obtain ⟨e0, e1⟩ := kid_two hk
   have := size_two hk
   have := nmB_len _ hn
   have := (pars_len (f := f) (by omega) hx1).1
   have := ty_len hy1 (show y.size ≤ f by omega)
   rw [e0, e1]
   unfold wType
   simp only [List.length_append, List.length_cons, List.length_nil]
   omega
 rw [if_neg h4] at h ⊢
 have := varT_len (deep := 0) (ex := exT f) hs (fun x hm hx' => hx x (by have := Nd.size_kid hm; omega) hx') h
 omega
def FilePost (p : Bool) (q : List UInt8) (w : World) (e : Ending) (w' : World) : Prop :=
 ∃ v, e = .returned (.tuple #[v, .int .i64 (if p then 0 else 9)]) ∧ Bytes w'.heap.size w' v (if p then q else []) ∧ Ext none' w w'
theorem shfile_any (f : Nat) (hf : f + 1 ≤ 1100000) (t : Nd) (ht : t.size ≤ f + 1) (v : Value) (w : World) (hm : MaxL w) (hv : NdV none' w t v) :
  Calls Tryz.prog 15 #[v] w (FilePost (rightB (fileB (tyF nmB f) (exF f) (stF f) t) t) (fileT (typF f) (exT f) (stT f) t) w) := by
 have CRR := hid fun W (X : Ext none' w W) => fileRight_any f (by unfold bigD; omega) t ht v W (maxL_later hm X) (hv.ext X fun _ _ h => h)
 have HP := hid fun (h : rightB (fileB (tyF nmB f) (exF f) (stF f) t) t = true) => (by
  have h2 := h
  unfold rightB at h2
  simp only [Bool.and_eq_true] at h2
  have h3 := h2.2.2
  unfold fileB at h3
  simp only [Bool.and_eq_true, List.all_eq_true] at h3
  exact ⟨nmB_len _ h3.2.1, h3.2.2⟩ : t.text.length ≤ 100 ∧ ∀ x ∈ t.kids, declB (tyF nmB f) (exF f) (stF f) x = true)
 obtain ⟨p, hp⟩ : ∃ p, rightB (fileB (tyF nmB f) (exF f) (stF f) t) t = p := ⟨_, rfl⟩
 rw [hp] at CRR HP ⊢
 obtain ⟨rr, hrr⟩ : ∃ r, r = fileT (typF f) (exT f) (stT f) t := ⟨_, rfl⟩
 rw [← hrr]
 obtain ⟨y, rfl, hy⟩ := hv
 have HY := hid hy
 obtain ⟨a1, cap1, rfl, hcap, _⟩ := hy
 have hkl : t.kids.length ≤ 1100000 := by have := t.kids_len; omega
 obtain ⟨B, W0, hB, hW0, X0, G0⟩ := boxed w (.cells #[.int .i64 t.kind, .string ⟨t.text.toArray⟩, .slice a1 t.kids.length cap1, .int .i64 t.pos] 24)
 have HF := hid hf
 have HT := hid ht
 have HM := hid hm
 have HRR := hid hrr
 clear hp hf ht hm hrr
 go_enter Tryz.func15, Tryz.ntmps15
 go_upto_region 1 with (fail)
 rw [← hW0, ← hB]
 clear hW0 hB
 obtain ⟨c0, c1, c2, c3⟩ := cell4 G0.out
 go_wp2_with fail
 refine (CRR.out _ X0.out).mono ?_
 rintro e w1 ⟨rfl, X1⟩
 have G0 := hid (X1.heap G0.out fun h => h)
 have X1 := hid (X0.out.trans X1)
 clear c0 c1 c2 c3
 cases p with
 | false =>
  go_wp2_with fail
  go_ret2
  exact ⟨_, rfl, ⟨_, 0, rfl, Nat.le_refl _, by omega, fun _ => rfl, fun h => absurd rfl h⟩, X1.out⟩
 | true =>
  obtain ⟨htl, hkb⟩ := HP.out rfl
  have HT' := HT.out
  have HF' := HF.out
  obtain ⟨g, hg⟩ : ∃ g, g = fun d => [10] ++ declT (typF f) (exT f) (stT f) d ++ [10] := ⟨_, rfl⟩
  have hgl : ∀ x ∈ t.kids, (g x).length ≤ 4000000 * x.size := fun x hx => by
   have h1 := declT_len (f := f) HF' (by have := Nd.size_kid hx; omega) (hkb x hx)
   rw [hg]
   simp only [List.length_append, List.length_cons, List.length_nil]
   omega
  have hz := size_kids t
  obtain ⟨acc, hacc⟩ : ∃ acc : Nat → List UInt8, acc = fun i => [112, 97, 99, 107, 97, 103, 101, 32] ++ (t.text ++ [10]) ++ ((t.kids.take i).map g).flatten := ⟨_, rfl⟩
  have AL := hid (show ∀ i, (acc i).length ≤ 10000000000000 by
   intro i
   have h1 := flat_len (p := g) (l := t.kids.take i) fun x hx => hgl x (List.mem_of_mem_take hx)
   have h2 : Nd.sizeL (t.kids.take i) ≤ Nd.sizeL t.kids := by
    conv => rhs; rw [← List.take_append_drop i t.kids]
    clear h1
    generalize t.kids.take i = a
    induction a with
    | nil => simp [Nd.sizeL]
    | cons x r ih => simp only [List.cons_append, Nd.sizeL]; omega
   rw [hacc]
   simp only [List.length_append, List.length_cons, List.length_nil]
   omega)
  have A1 := hid (show ∀ i (h : i < t.kids.length), acc (i + 1) = acc i ++ g t.kids[i] by
   intro i h
   rw [hacc]
   show _ ++ ((t.kids.take (i + 1)).map g).flatten = _ ++ ((t.kids.take i).map g).flatten ++ g t.kids[i]
   rw [List.take_add_one, List.getElem?_eq_getElem h, List.map_append, List.flatten_append]
   simp)
  have A0 := hid (show 112 :: 97 :: 99 :: 107 :: 97 :: 103 :: 101 :: 32 :: (t.text ++ [10]) = acc 0 by rw [hacc]; simp)
  have HR := hid (show rr = acc t.kids.length by
   rw [HRR.out, hacc, hg]
   unfold fileT
   simp)
  have GL := hid (show ∀ i (h : i < t.kids.length), (g t.kids[i]).length ≤ 10000000000000 by
   intro i h
   have h1 := hgl _ (List.getElem_mem h)
   have h2 := Nd.size_kid (List.getElem_mem h)
   omega)
  have CD := hid fun i (h : i < t.kids.length) W (X : Ext none' w W) v' (hv' : NdV none' W t.kids[i] v') => shdecl_any f HF.out t.kids[i] (by have := Nd.size_kid (List.getElem_mem h); omega) (hkb _ (List.getElem_mem h)) v' W (maxL_later HM.out X) hv'
  have GE := hid (show ∀ x, [10] ++ declT (typF f) (exT f) (stT f) x ++ [10] = g x by intro x; rw [hg])
  have cat1 := str_cat [112, 97, 99, 107, 97, 103, 101, 32] t.text
  have cat2 := str_cat ([112, 97, 99, 107, 97, 103, 101, 32] ++ t.text) [10]
  simp only [List.append_assoc, List.cons_append, List.nil_append] at cat1 cat2
  have c1 := cell_at G0.out 1
  have c2 := cell_at G0.out 2
  simp only [List.getElem?_toArray, List.getElem?_cons_zero, List.getElem?_cons_succ] at c1 c2
  clear hg hacc hkb hgl hz HT' HF' HP
  go_wp2_with fail
  rw [A0.out]
  clear c1 c2
  go_loopw [4, 6, 17] (fun o _ z wr => ∃ (i : Nat), z = .int .i64 (i : Nat) ∧ i ≤ t.kids.length ∧ o = .string ⟨(acc i).toArray⟩ ∧ Hid (Ext none' w wr)) (fun _ _ z _ => t.kids.length - (RowKit.intOf z).toNat)
  case atStart => exact ⟨0, rfl, by omega, rfl, X1⟩
  case round =>
   obtain ⟨i, rfl, hle, rfl, R⟩ := hrel
   by_cases hi : i < t.kids.length
   · obtain ⟨b, off, cs, rfl, _, hbw, hcc, hty⟩ := (HY.out.ext isNd_good R.out fun _ _ h => h.elim).at i hi
     obtain ⟨y, rfl, hy⟩ := hty.parts
     have HYI := hid hy
     have c0 := hcc 0 _ rfl
     have c1 := hcc 1 _ rfl
     have c2 := hcc 2 _ rfl
     have c3 := hcc 3 _ rfl
     simp only [Nat.add_zero] at c0
     obtain ⟨a3, cap3, rfl, _⟩ := hy
     have CD := hid (CD.out i hi)
     have A1 := hid (A1.out i hi)
     have hal := AL.out i
     have hgl := GL.out i hi
     have GE := hid (GE.out t.kids[i])
     obtain ⟨t1, ht1⟩ : ∃ t1, t.kids[i] = t1 := ⟨_, rfl⟩
     rw [ht1] at c0 c1 c2 c3 CD A1 hgl HYI GE
     obtain ⟨x1, hx1⟩ : ∃ x1, declT (typF f) (exT f) (stT f) t1 = x1 := ⟨_, rfl⟩
     rw [hx1] at CD GE
     obtain ⟨q1, hq1⟩ : ∃ q1, g t1 = q1 := ⟨_, rfl⟩
     rw [hq1] at A1 hgl GE
     obtain ⟨o1, ho1⟩ : ∃ o1, acc i = o1 := ⟨_, rfl⟩
     rw [ho1] at A1 hal ⊢
     have hxl : x1.length ≤ 10000000000000 := by
      have := congrArg List.length GE.out
      simp only [List.length_append, List.length_cons, List.length_nil] at this
      omega
     have cat1 := str_cat [10] x1
     have cat2 := str_cat (10 :: x1) [10]
     have cat3 := str_cat o1 (10 :: (x1 ++ [10]))
     have hg2 := GE.out
     simp only [List.append_assoc, List.cons_append, List.nil_append] at cat1 cat2 cat3 hg2
     have HG2 := hid hg2
     clear ht1 hx1 hq1 ho1 hcc hty hg2
     go_wp2_with fail
     refine (CD.out _ (R.out.trans ((Ext.refl _ _).alloc _)) _ ⟨_, rfl, HYI.out.ext isNd_good ((Ext.refl _ _).alloc _) fun _ _ h => h⟩).mono ?_
     rintro e w2 ⟨rfl, X2⟩
     have N := hid (R.out.trans (((Ext.refl none' wr).alloc _).trans X2))
     clear c0 c1 c2 c3 X2
     go_wp2_with fail
     go_roundw
     case rel => exact ⟨i + 1, by go_num, by omega, by rw [A1.out, ← HG2.out], N⟩
     case measure => simp [RowKit.intOf]; omega
   · obtain rfl : i = t.kids.length := by omega
     have hal := AL.out t.kids.length
     obtain ⟨o1, ho1⟩ : ∃ o1, acc t.kids.length = o1 := ⟨_, rfl⟩
     rw [ho1] at HR hal ⊢
     have hcv := fun W => run_bytes_of_string (P := Tryz.prog) W 9 37 5 ⟨o1.toArray⟩ Tryz.underlying9 Tryz.underlying37 Tryz.underlying5
     clear ho1
     go_wp2_with fail
     go_ret2
     have e := HR.out
     subst e
     refine ⟨_, rfl, ?_, ?_⟩
     · show Bytes _ _ (.slice (some ⟨wr.heap.size, 0, none⟩) rr.length (grownCap wr rr.length 0 5)) rr
       have hge := grownCap_ge wr rr.length 0 5
       have hle := grownCap_le_maxLen wr rr.length 0 5 (by unfold maxLen; omega)
       refine ⟨_, _, rfl, hge, (by unfold maxLen at hle; omega), (fun h => by cases h), fun _ => ⟨wr.heap.size, 0, rfl, ?_, ?_, fun j hj => ?_⟩⟩
       · show wr.heap.size < (wr.alloc _).heap.size
         simp
       · show wr.heap.size < (wr.alloc _).heap.size
         simp
       · show (wr.alloc _).cell? _ = _
         rw [cell_at (heap_alloc_at rfl _), Nat.zero_add, bytesRow_at _ _ _ hj]
         rfl
     · exact R.out.trans ((Ext.refl _ _).alloc _).drew
end Go.Proofs.YthbmjamgidfneaaGreatDoor
namespace Go.Proofs.YthbmjamgidfneaaGreatDoor
open Go.RowKit Go.Lib
theorem depD_same : ∀ (f : Nat) (t : Nd), depD f t < f → depD (f + 1) t = depD f t
 | 0, _, h => by omega
 | f + 1, t, h => by
  have key : ∀ x ∈ t.kids, depD (f + 1) x = depD f x := fun x hx => by
   have := depD_kid (f := f) hx
   exact depD_same f x (by omega)
  show (t.kids.map (depD (f + 1))).foldr max 0 + 1 = (t.kids.map (depD f)).foldr max 0 + 1
  rw [List.map_congr_left key]
theorem sizeDL_mono {f : Nat} : ∀ {l : List Nd}, (∀ x ∈ l, sizeD f x ≤ sizeD (f + 1) x) → (l.map (sizeD f)).sum ≤ (l.map (sizeD (f + 1))).sum
 | [], _ => Nat.le_refl _
 | a :: r, h => by
  have h1 := h a (by simp)
  have h2 := sizeDL_mono (f := f) (l := r) fun x hx => h x (by simp [hx])
  rw [List.map_cons, List.map_cons, List.sum_cons, List.sum_cons]
  omega
theorem sizeD_succ : ∀ (f : Nat) (t : Nd), sizeD f t ≤ sizeD (f + 1) t
 | 0, t => Nat.zero_le _
 | f + 1, t => by
  have := sizeDL_mono (f := f) (l := t.kids) fun x _ => sizeD_succ f x
  show 1 + (t.kids.map (sizeD f)).sum ≤ 1 + (t.kids.map (sizeD (f + 1))).sum
  omega
theorem sizeD_mono {f g : Nat} (h : f ≤ g) (t : Nd) : sizeD f t ≤ sizeD g t := by
 induction h with
 | refl => exact Nat.le_refl _
 | step _ ih => exact Nat.le_trans ih (sizeD_succ _ _)
theorem sum_mem_le : ∀ {l : List Nat} {x : Nat}, x ∈ l → x ≤ l.sum
 | a :: r, x, h => by
  rw [List.sum_cons]
  rcases List.mem_cons.1 h with rfl | h
  · omega
  · have := sum_mem_le h; omega
theorem sizeD_kid {f : Nat} {t x : Nd} (h : x ∈ t.kids) : sizeD f x + 1 ≤ sizeD (f + 1) t := by
 have := sum_mem_le (List.mem_map_of_mem (f := sizeD f) h)
 show _ ≤ 1 + (t.kids.map (sizeD f)).sum
 omega
theorem rightB_kid {p q : Bool} {t x : Nd} (h : rightB p t = true) (hs : sizeD 1000 t ≤ 65536) (hx : x ∈ t.kids) (hq : q = true) : rightB q x = true := by
 unfold rightB at h ⊢
 rw [depthN_dep] at h ⊢
 simp only [Bool.and_eq_true, decide_eq_true_eq] at h ⊢
 obtain ⟨h1, h2, h3⟩ := h
 have d1 : depD 100 x + 1 ≤ depD 101 t := depD_kid (f := 100) hx
 have d2 : depD 101 x = depD 100 x := depD_same 100 x (by omega)
 have s1 : sizeD 999 x + 1 ≤ sizeD 1000 t := sizeD_kid (f := 999) hx
 have s2 := sizeD_mono (f := 100) (g := 999) (by omega) x
 exact ⟨by omega, by omega, hq⟩
end Go.Proofs.YthbmjamgidfneaaGreatDoor
namespace Go.Proofs.YthbmjamgidfneaaGreatDoor
open Go.RowKit Go.Lib Go.BigFrame
set_option linter.unusedVariables false
theorem small_any (t : Nd) (m : Nat) (hm : m ≤ 1000000) (ht : t.size ≤ bigD) (v : Value) (w : World) (hv : NdV none' w t v) :
  Calls Tryz.prog 9 #[v, .int .i64 (m : Nat)] w (BoolP (decide (sizeD 1000 t ≤ m)) w) := by
 have CZ := hid fun W (X : Ext none' w W) => nsize_any 1000 (by omega) t ht none' v W (hv.ext X fun _ _ h => h)
 obtain ⟨x, rfl, hx⟩ := hv
 obtain ⟨a1, cap1, rfl, _⟩ := hx
 have hz := sizeD_le 1000 t
 obtain ⟨z, hz'⟩ : ∃ z, sizeD 1000 t = z := ⟨_, rfl⟩
 rw [hz'] at CZ hz ⊢
 have hzb : z ≤ 20000000000 := by unfold bigD at ht; omega
 obtain ⟨r, hr⟩ : ∃ r, decide (z ≤ m) = r := ⟨_, rfl⟩
 rw [hr]
 have HR := hid hr
 clear hz' hz ht hr
 go_enter Tryz.func9, Tryz.ntmps9
 go_wp2_with fail
 refine (CZ.out _ ((Ext.refl _ _).alloc _)).mono ?_
 rintro e W2 ⟨rfl, X2⟩
 go_wp2_with fail
 go_ret
 exact ⟨by show Ending.returned (.bool (decide (z ≤ m))) = _; rw [HR.out], ((Ext.refl _ _).alloc _).trans X2⟩
def NodeV (k : Int) (s : List UInt8) (u : Value) (w : World) (e : Ending) (w' : World) : Prop := e = .returned (.agg #[.int .i64 k, .string ⟨s.toArray⟩, u, .int .i64 0]) ∧ Ext none' w w'
theorem node_any (k : Int) (s : List UInt8) (a : Option Addr) (n cap : Nat) (w : World) :
  Calls Tryz.prog 14 #[.int .i64 k, .string ⟨s.toArray⟩, .slice a n cap] w (NodeV k s (.slice a n cap) w) := by
 obtain ⟨B, W0, hB, hW0, X0, G1⟩ := boxed w (.cells #[.int .i64 0, .string ⟨#[]⟩, .slice none 0 0, .int .i64 0] 24)
 have HB := hid hB
 go_enter Tryz.func14, Tryz.ntmps14
 go_upto_region 1 with (fail)
 rw [← hW0, ← hB]
 clear hW0 hB
 have f0 := free_at G1.out 0
 have f1 := free_at G1.out 1
 have f2 := free_at G1.out 2
 have f3 := free_at G1.out 3
 obtain ⟨e0, e1, e2, e3⟩ := cell4 G1.out
 go_wp2_with fail
 refine ret_nd rfl rfl (set4n G1.out _ _ _ _) rfl ?_
 exact ⟨rfl, X0.out.set4 (b := B) (.inr (by rw [HB.out]; omega)) _ _ _ _⟩
theorem isSl_lit {α : Type} {sz : Nat} {R : Lay α} {A : Nat → Prop} {w : World} {b cap : Nat} {cs : Array Value} {t : TypeId} {fz : Nat × Nat} (h : w.heap[b]? = some (.cells cs t fz)) (xs : List α) (hA : ¬ A b) (hc : xs.length ≤ cap)
  (hx : ∀ i (h : i < xs.length), R A w xs[i] ((cs.toList.drop (i * sz)).take sz)) : IsSl sz R A w (.slice (some ⟨b, 0, none⟩) xs.length cap) xs :=
 ⟨_, cap, rfl, hc, (fun h => by cases h), fun _ => ⟨b, 0, rfl, hA, heap_lt h, fun i hi => ⟨_, fun j v hj => by
  have hjs : j < sz := by
   have := (List.getElem?_eq_some_iff.1 hj).1
   rw [List.length_take] at this
   omega
  rw [List.getElem?_take_of_lt hjs, List.getElem?_drop] at hj
  rw [cell_at h, Nat.zero_add, ← hj]
  simp, hx i hi⟩⟩⟩
def awA : Nd := .mk 18 [97] [] 0
def awB : Nd := .mk 18 [98] [] 0
def awC : Nd := .mk 18 [99] [] 0
def awSum : Nd := .mk 20 [43] [awA, awB] 0
def awMin : Nd := .mk 19 [45] [awSum] 0
def awAll : Nd := .mk 20 [42] [awMin, awC] 0
def awText : List UInt8 := [45, 40, 97, 32, 43, 32, 98, 41, 32, 42, 32, 99]
theorem aw_right : rightB (exF 12 awAll) awAll = true := by kernel_rfl
theorem aw_text : exT 12 0 false awAll = awText := by kernel_rfl
theorem aw_size : awAll.size ≤ 12 := by decide
end Go.Proofs.YthbmjamgidfneaaGreatDoor
namespace Go.Proofs.YthbmjamgidfneaaGreatDoor
open Go.RowKit Go.Lib Go.BigFrame
set_option linter.unusedVariables false
set_option linter.unusedSimpArgs false
theorem isNd_two {w : World} {b : Nat} {cs : Array Value} {t : TypeId} {fz : Nat × Nat} (h : w.heap[b]? = some (.cells cs t fz)) (x y : Nd)
  (hx : IsNd none' w x (cs.toList.take 4)) (hy : IsNd none' w y ((cs.toList.drop 4).take 4)) : IsSl 4 IsNd none' w (.slice (some ⟨b, 0, none⟩) 2 2) [x, y] :=
 isSl_lit (xs := [x, y]) h (fun h => h) (by simp) (fun i hi => by
  have h' : i < 2 := hi
  have hi : i = 0 ∨ i = 1 := by omega
  rcases hi with rfl | rfl
  · simpa using hx
  · exact hy)
theorem isNd_one {w : World} {b : Nat} {cs : Array Value} {t : TypeId} {fz : Nat × Nat} (h : w.heap[b]? = some (.cells cs t fz)) (x : Nd)
  (hx : IsNd none' w x (cs.toList.take 4)) : IsSl 4 IsNd none' w (.slice (some ⟨b, 0, none⟩) 1 1) [x] :=
 isSl_lit (xs := [x]) h (fun h => h) (by simp) (fun i hi => by
  have h' : i < 1 := hi
  obtain rfl : i = 0 := by omega
  simpa using hx)
theorem isNd_leaf (k : Int) (s : List UInt8) (w : World) : IsNd none' w (.mk k s [] 0) [.int .i64 k, .string ⟨s.toArray⟩, .slice none 0 0, .int .i64 0] := IsNd.of (IsSl.nil _ _ _ _)
theorem awake_any (w : World) (hm : MaxL w) : Calls Tryz.prog 12 #[] w (TruePost w) := by
 have CT := hid fun W (X : Ext none' w W) u (hu : NdV none' W awAll u) => exprText_any 12 (by omega) awAll aw_size u W (maxL_later hm X) hu
 rw [aw_right, aw_text] at CT
 go_enter Tryz.func12, Tryz.ntmps12
 go_wp2_with fail
 refine (node_any 18 [97] none 0 0 _).mono ?_
 rintro e W1 ⟨rfl, X1⟩
 go_wp2_with fail
 refine (node_any 18 [98] none 0 0 _).mono ?_
 rintro e W2 ⟨rfl, X2⟩
 have X2 := hid (X1.trans X2)
 clear X1
 go_wp2_with fail
 obtain ⟨B3, hB3⟩ : ∃ B, B = W2.heap.size := ⟨_, rfl⟩
 obtain ⟨W3, hW3⟩ : ∃ W, W = W2.alloc (.cells #[.int .i64 18, .string ⟨#[97]⟩, .slice none 0 0, .int .i64 0, .int .i64 18, .string ⟨#[98]⟩, .slice none 0 0, .int .i64 0] 24) := ⟨_, rfl⟩
 rw [← hW3, ← hB3]
 have X3 := hid (show Ext none' w W3 by rw [hW3]; exact X2.out.alloc _)
 have G3 := hid (show W3.heap[B3]? = some (.cells #[.int .i64 18, .string ⟨#[97]⟩, .slice none 0 0, .int .i64 0, .int .i64 18, .string ⟨#[98]⟩, .slice none 0 0, .int .i64 0] 24 (0, 0)) by rw [hW3]; exact heap_alloc_at hB3 _)
 clear hW3 hB3
 refine (node_any 20 [43] _ 2 2 _).mono ?_
 rintro e W4 ⟨rfl, X4⟩
 have G3 := hid (X4.heap G3.out fun h => h)
 have X4 := hid (X3.out.trans X4)
 go_wp2_with fail
 obtain ⟨B5, hB5⟩ : ∃ B, B = W4.heap.size + 1 := ⟨_, rfl⟩
 obtain ⟨W5, hW5⟩ : ∃ W, W = (W4.alloc (.cells #[.int .i64 20, .string ⟨#[43]⟩, .slice (some ⟨B3, 0, none⟩) 2 2, .int .i64 0] 24)).alloc (.cells #[.int .i64 20, .string ⟨#[43]⟩, .slice (some ⟨B3, 0, none⟩) 2 2, .int .i64 0] 24) := ⟨_, rfl⟩
 rw [← hW5, ← hB5]
 have X5 := hid (show Ext none' W4 W5 by rw [hW5]; exact ((Ext.refl _ _).alloc _).alloc _)
 have G5 := hid (show W5.heap[B5]? = some (.cells #[.int .i64 20, .string ⟨#[43]⟩, .slice (some ⟨B3, 0, none⟩) 2 2, .int .i64 0] 24 (0, 0)) by rw [hW5]; exact heap_alloc_at (by rw [hB5]; simp) _)
 have G3 := hid (X5.out.heap G3.out fun h => h)
 have X5 := hid (X4.out.trans X5.out)
 clear hW5 hB5
 refine (node_any 19 [45] _ 1 1 _).mono ?_
 rintro e W6 ⟨rfl, X6⟩
 have G3 := hid (X6.heap G3.out fun h => h)
 have G5 := hid (X6.heap G5.out fun h => h)
 have X6 := hid (X5.out.trans X6)
 go_wp2_with fail
 refine (node_any 18 [99] none 0 0 _).mono ?_
 rintro e W7 ⟨rfl, X7⟩
 have G3 := hid (X7.heap G3.out fun h => h)
 have G5 := hid (X7.heap G5.out fun h => h)
 have X7 := hid (X6.out.trans X7)
 go_wp2_with fail
 obtain ⟨B8, hB8⟩ : ∃ B, B = W7.heap.size := ⟨_, rfl⟩
 obtain ⟨W8, hW8⟩ : ∃ W, W = W7.alloc (.cells #[.int .i64 19, .string ⟨#[45]⟩, .slice (some ⟨B5, 0, none⟩) 1 1, .int .i64 0, .int .i64 18, .string ⟨#[99]⟩, .slice none 0 0, .int .i64 0] 24) := ⟨_, rfl⟩
 rw [← hW8, ← hB8]
 have X8 := hid (show Ext none' W7 W8 by rw [hW8]; exact (Ext.refl _ _).alloc _)
 have G8 := hid (show W8.heap[B8]? = some (.cells #[.int .i64 19, .string ⟨#[45]⟩, .slice (some ⟨B5, 0, none⟩) 1 1, .int .i64 0, .int .i64 18, .string ⟨#[99]⟩, .slice none 0 0, .int .i64 0] 24 (0, 0)) by rw [hW8]; exact heap_alloc_at hB8 _)
 have G3 := hid (X8.out.heap G3.out fun h => h)
 have G5 := hid (X8.out.heap G5.out fun h => h)
 have X8 := hid (X7.out.trans X8.out)
 clear hW8 hB8
 refine (node_any 20 [42] _ 2 2 _).mono ?_
 rintro e W9 ⟨rfl, X9⟩
 have G3 := hid (X9.heap G3.out fun h => h)
 have G5 := hid (X9.heap G5.out fun h => h)
 have G8 := hid (X9.heap G8.out fun h => h)
 have X9 := hid (X8.out.trans X9)
 go_wp2_with fail
 refine (CT.out _ X9.out _ ⟨_, rfl, isNd_two G8.out awMin awC (IsNd.of (isNd_one G5.out awSum (IsNd.of (isNd_two G3.out awA awB (isNd_leaf _ _ _) (isNd_leaf _ _ _))))) (isNd_leaf _ _ _)⟩).mono ?_
 rintro e W10 ⟨rfl, X10⟩
 have X10 := hid (X9.out.trans X10)
 have ht := (show (awText == awText) = true by simp)
 unfold awText at ht ⊢
 go_wp2_with fail
 go_ret
 exact ⟨rfl, X10.out⟩
end Go.Proofs.YthbmjamgidfneaaGreatDoor
namespace Go.Proofs.YthbmjamgidfneaaGreatDoor
open Go.Lib
inductive Stp (s : List UInt8) (k : Nat) (l n : List Tok) : Nat → List Tok → List Tok → Prop
 | bom (h0 : k = 0) (h : (s.drop k).take 3 = [239, 187, 191]) : Stp s k l n 3 l n
 | nl (h : (s.drop k).head? = some 10) : Stp s k l n (k + 1) (lineP l k) n
 | blank (c : UInt8) (hc : c = 32 ∨ c = 9 ∨ c = 13) (h : (s.drop k).head? = some c) : Stp s k l n (k + 1) l n
 | note (m : Nat) (h : noteP (s.drop k) = .len m) : Stp s k l n (k + m) (if 10 ∈ (s.drop k).take m then lineP l k else l) (n ++ [⟨0, (s.drop k).take m, k⟩])
 | name (c : UInt8) (h : (s.drop k).head? = some c) (hc : letterB c.toNat = true) : Stp s k l n (k + idLen (s.drop k)) (l ++ [⟨1 + wordK ((s.drop k).take (idLen (s.drop k))), (s.drop k).take (idLen (s.drop k)), k⟩]) n
 | num (c : UInt8) (h : (s.drop k).head? = some c) (hc : figB c.toNat = true) : Stp s k l n (k + idLen (s.drop k)) (l ++ [⟨4, (s.drop k).take (idLen (s.drop k)), k⟩]) n
 | quote (c : UInt8) (m : Nat) (h : (s.drop k).head? = some c) (hc : c = 34 ∨ c = 96) (hq : quo c false (s.drop k).tail = some m) : Stp s k l n (k + 1 + m) (l ++ [⟨5, (s.drop k).take (m + 1), k⟩]) n
 | sign (h : signP (s.drop k) ≠ 0) (hn : noteP (s.drop k) = .none) : Stp s k l n (k + signP (s.drop k)) (l ++ [⟨6, (s.drop k).take (signP (s.drop k)), k⟩]) n
theorem stp_of {s : List UInt8} {k : Nat} {l n l' n' : List Tok} {k' : Nat} (h : stepP s k l n = some (k', l', n')) : Stp s k l n k' l' n' := by
 unfold stepP at h
 simp only at h
 cases hr : (s.drop k).head? with
 | none => rw [hr] at h; simp at h
 | some c =>
  rw [hr] at h
  simp only at h
  split at h
  · rename_i e; simp at h; obtain ⟨rfl, rfl, rfl⟩ := h; exact .bom e.1 e.2
  · split at h
    · rename_i e; subst e; simp at h; obtain ⟨rfl, rfl, rfl⟩ := h; exact .nl hr
    · split at h
      · rename_i e; simp at h; obtain ⟨rfl, rfl, rfl⟩ := h; exact .blank c e hr
      · split at h
        · cases h
        · rename_i m hm
          simp only [Option.some.injEq, Prod.mk.injEq] at h
          obtain ⟨rfl, rfl, rfl⟩ := h
          exact .note m hm
        · rename_i hn
          split at h
          · rename_i hc
            simp only [Option.some.injEq, Prod.mk.injEq] at h
            obtain ⟨rfl, rfl, rfl⟩ := h
            exact .name c hr hc
          · split at h
            · rename_i hc
              simp only [Option.some.injEq, Prod.mk.injEq] at h
              obtain ⟨rfl, rfl, rfl⟩ := h
              exact .num c hr hc
            · split at h
              · rename_i hc
                split at h
                · cases h
                · rename_i m hm
                  simp only [Option.some.injEq, Prod.mk.injEq] at h
                  obtain ⟨rfl, rfl, rfl⟩ := h
                  exact .quote c m hr hc hm
              · split at h
                · cases h
                · rename_i hsg
                  simp only [Option.some.injEq, Prod.mk.injEq] at h
                  obtain ⟨rfl, rfl, rfl⟩ := h
                  exact .sign hsg hn
theorem runP_ind {s : List UInt8} (Q : Nat → List Tok → List Tok → Prop) (hs : ∀ k l n k' l' n', k < s.length → Q k l n → Stp s k l n k' l' n' → k' ≤ s.length → Q k' l' n') :
  ∀ (f k : Nat) (l n l2 n2 : List Tok), s.length - k ≤ f → k ≤ s.length → Q k l n → runP s f k l n = .ok (l2, n2) → ∃ l1, Q s.length l1 n2 ∧ l2 = lineP l1 s.length
 | 0, k, l, n, l2, n2, hf, hk, hQ, h => by
  obtain rfl : k = s.length := by omega
  simp [runP] at h
  obtain ⟨rfl, rfl⟩ := h
  exact ⟨l, hQ, rfl⟩
 | f + 1, k, l, n, l2, n2, hf, hk, hQ, h => by
  unfold runP at h
  split at h
  · obtain rfl : k = s.length := by omega
    simp at h
    obtain ⟨rfl, rfl⟩ := h
    exact ⟨l, hQ, rfl⟩
  · split at h
    · cases h
    · rename_i k' l' n' hst
      have hle := stepP_le hst
      exact runP_ind Q hs f k' l' n' l2 n2 (by omega) hle.2 (hs k l n k' l' n' (by omega) hQ (stp_of hst) hle.2) h
theorem scanR_ind {s : List UInt8} (Q : Nat → List Tok → List Tok → Prop) (h0 : Q 0 [] []) (hs : ∀ k l n k' l' n', k < s.length → Q k l n → Stp s k l n k' l' n' → k' ≤ s.length → Q k' l' n') {l n : List Tok} (h : scanR s = .good l n) :
  ∃ l1, Q s.length l1 n ∧ l = lineP l1 s.length := by
 unfold scanR at h
 split at h
 · cases h
 · split at h
   · cases h
   · unfold runR at h
     split at h
     · cases h
     · rename_i l' n' hr
       injection h with h1 h2
       subst h1 h2
       exact runP_ind Q hs s.length 0 [] [] _ _ (by omega) (by omega) h0 hr
theorem stp_le {s : List UInt8} {k : Nat} {l n l' n' : List Tok} {k' : Nat} (h : Stp s k l n k' l' n') : k < k' := by
 cases h with
 | bom h0 _ => omega
 | nl _ => omega
 | blank _ _ _ => omega
 | note m h => have := (noteP_le h).1; omega
 | name c h hc =>
  cases hr : s.drop k with
  | nil => rw [hr] at h; cases h
  | cons d t => rw [hr] at h; simp at h; subst h; have := idLen_pos (c := d) (t := t) (by unfold idB; rw [hc]; rfl); omega
 | num c h hc =>
  cases hr : s.drop k with
  | nil => rw [hr] at h; cases h
  | cons d t => rw [hr] at h; simp at h; subst h; have := idLen_pos (c := d) (t := t) (by unfold idB; rw [hc]; simp); omega
 | quote _ m _ _ hq => omega
 | sign h _ => omega
theorem Inv.stp {s : List UInt8} {k : Nat} {l n l' n' : List Tok} {k' : Nat} (hk : k < s.length) (I : Inv s k l n) (h : Stp s k l n k' l' n') : Inv s k' l' n' := by
 have hlt := stp_le h
 have hs1 : 1 ≤ s.length := by omega
 obtain ⟨ll, nl, good, short⟩ := I
 have snoc : ∀ x : Tok, TGood x → x.text.length ≤ s.length → Inv s k' (l ++ [x]) n := fun x hg hx =>
  ⟨by rw [List.length_append, List.length_singleton]; omega, by omega, snoc_all good hg, snoc_all short hx⟩
 have lin : Inv s k' (lineP l k) n := ⟨by have := lineP_len' l k; omega, by omega, lineP_all good (good_line k), lineP_all short (by simpa using hs1)⟩
 cases h with
 | bom _ _ => exact ⟨by omega, by omega, good, short⟩
 | nl _ => exact lin
 | blank _ _ _ => exact ⟨by omega, by omega, good, short⟩
 | note m h =>
  split
  · exact ⟨lin.ll, by rw [List.length_append, List.length_singleton]; omega, lin.good, lin.short⟩
  · exact ⟨by omega, by rw [List.length_append, List.length_singleton]; omega, good, short⟩
 | name c h hc =>
  refine snoc _ ?_ sub_len
  have := wordK_le ((s.drop k).take (idLen (s.drop k)))
  exact ⟨by simp only; omega, fun e => by simp only at e; omega, by simp only; omega⟩
 | num c h hc => exact snoc _ ⟨by simp, fun e => by simp at e, by simp⟩ sub_len
 | quote c m h hc hq => exact snoc _ ⟨by simp, fun e => by simp at e, by simp⟩ sub_len
 | sign h hn => exact snoc _ ⟨by simp, fun _ => signP_mem _ h, by simp⟩ sub_len
structure KindT (t : Tok) : Prop where
 lo : 1 ≤ t.kind
 hi : t.kind ≤ 6
 name : nameB t.text = decide (t.kind = 1)
 w1 : wordK t.text = 1 ↔ t.kind = 2
 w2 : wordK t.text = 2 ↔ t.kind = 3
 num : t.kind = 4 → ∃ c u, t.text = c :: u ∧ figB c.toNat = true
 quote : t.kind = 5 → ∃ c u, t.text = c :: u ∧ (c = 34 ∨ c = 96)
 sign : t.kind = 6 → t.text ∈ [10] :: (signs3 ++ signs2 ++ signs1)
theorem words_head : ∀ t ∈ words1 ++ words2, ∃ c u, t = c :: u ∧ letterB c.toNat = true := by
 intro t ht
 have : ∀ t ∈ words1 ++ words2, (match t with | [] => false | c :: _ => letterB c.toNat) = true := by decide
 have h := this t ht
 cases t with
 | nil => cases h
 | cons c u => exact ⟨c, u, rfl, h⟩
theorem wordK_zero {c : UInt8} {u : List UInt8} (h : letterB c.toNat = false) : wordK (c :: u) = 0 := by
 have n : c :: u ∉ words1 ++ words2 := fun hm => by
  obtain ⟨d, v, e, hd⟩ := words_head _ hm
  injection e with e1 e2
  rw [e1, hd] at h
  cases h
 rw [List.mem_append, not_or] at n
 unfold wordK
 rw [if_neg n.1, if_neg n.2]
theorem let_fig {c : Nat} (h : letterB c = true) : figB c = false := by
 unfold letterB at h; unfold figB
 simp at h ⊢
 omega
theorem fig_let {c : Nat} (h : figB c = true) : letterB c = false := by
 cases e : letterB c with
 | false => rfl
 | true => rw [let_fig e] at h; cases h
theorem head_cons {r : List UInt8} {c : UInt8} (h : r.head? = some c) : ∃ t, r = c :: t := by
 cases r with
 | nil => cases h
 | cons d t => simp at h; exact ⟨t, by rw [h]⟩
theorem take_idLen (r : List UInt8) : r.take (idLen r) = r.takeWhile idB := by
 unfold idLen
 induction r with
 | nil => rfl
 | cons c t ih =>
  rw [List.takeWhile_cons]
  split
  · simp [ih]
  · simp
theorem tw_all : ∀ r : List UInt8, (r.takeWhile idB).all idB = true
 | [] => rfl
 | c :: t => by
  rw [List.takeWhile_cons]
  split
  · rename_i h; rw [List.all_cons, h, tw_all t]; rfl
  · rfl
theorem tw_cons {c : UInt8} {t : List UInt8} (h : idB c = true) : (c :: t).takeWhile idB = c :: t.takeWhile idB := by rw [List.takeWhile_cons, h]; rfl
theorem sign_facts : ∀ t ∈ [10] :: (signs3 ++ signs2 ++ signs1), nameB t = false ∧ wordK t = 0 := by decide +kernel
theorem KindT.ofSign {t : List UInt8} {p : Nat} (h : t ∈ [10] :: (signs3 ++ signs2 ++ signs1)) : KindT ⟨6, t, p⟩ := by
 have f := sign_facts t h
 exact ⟨by simp, by simp, by simp [f.1], by simp [f.2], by simp [f.2], (fun e => by simp at e), (fun e => by simp at e), fun _ => h⟩
theorem KindT.line (p : Nat) : KindT ⟨6, [10], p⟩ := KindT.ofSign (by simp)
theorem KindT.step {s : List UInt8} {k : Nat} {l n l' n' : List Tok} {k' : Nat} (hl : ∀ t ∈ l, KindT t) (h : Stp s k l n k' l' n') : ∀ t ∈ l', KindT t := by
 cases h with
 | bom _ _ => exact hl
 | nl _ => exact lineP_all hl (KindT.line k)
 | blank _ _ _ => exact hl
 | note m _ =>
  split
  · exact lineP_all hl (KindT.line k)
  · exact hl
 | name c hd hc =>
  refine snoc_all hl ?_
  obtain ⟨t, ht⟩ := head_cons hd
  have hid : idB c = true := by unfold idB; rw [hc]; rfl
  rw [take_idLen, ht, tw_cons hid]
  have hw := wordK_le (c :: t.takeWhile idB)
  have ha : (c :: t.takeWhile idB).all idB = true := by rw [← tw_cons hid]; exact tw_all _
  refine ⟨by simp, by simp only; omega, ?_, by simp only; omega, by simp only; omega, (fun e => by simp only at e; omega), (fun e => by simp only at e; omega), (fun e => by simp only at e; omega)⟩
  simp only [nameB, let_fig hc, ha, Bool.not_false, Bool.true_and, Bool.and_true]
  rw [Bool.eq_iff_iff]
  simp only [beq_iff_eq, decide_eq_true_eq]
  omega
 | num c hd hc =>
  refine snoc_all hl ?_
  obtain ⟨t, ht⟩ := head_cons hd
  have hid : idB c = true := by unfold idB; rw [hc]; simp
  rw [take_idLen, ht, tw_cons hid]
  have hw : wordK (c :: t.takeWhile idB) = 0 := wordK_zero (fig_let hc)
  exact ⟨by simp, by simp, by simp [nameB, hc], by simp [hw], by simp [hw], fun _ => ⟨_, _, rfl, hc⟩, (fun e => by simp at e), (fun e => by simp at e)⟩
 | quote c m hd hc hq =>
  refine snoc_all hl ?_
  obtain ⟨t, ht⟩ := head_cons hd
  rw [ht, List.take_succ_cons]
  have hnl : letterB c.toNat = false ∧ idB c = false := by rcases hc with rfl | rfl <;> decide
  have hw : wordK (c :: t.take m) = 0 := wordK_zero hnl.1
  exact ⟨by simp, by simp, by simp [nameB, hnl.2], by simp [hw], by simp [hw], (fun e => by simp at e), fun _ => ⟨_, _, rfl, hc⟩, (fun e => by simp at e)⟩
 | sign hsg hn => exact snoc_all hl (KindT.ofSign (signP_mem _ hsg))
def LinesOK (l : List Tok) : Prop := ∀ i (h : i < l.length), l[i].text = [10] → ∃ j, i = j + 1 ∧ ∃ hj : j < l.length, endsT l[j] = true
theorem LinesOK.snoc {l : List Tok} {x : Tok} (h : LinesOK l) (hx : x.text ≠ [10]) : LinesOK (l ++ [x]) := by
 intro i hi ht
 rw [List.length_append, List.length_singleton] at hi
 by_cases e : i < l.length
 · rw [List.getElem_append_left e] at ht
   obtain ⟨j, rfl, hj, hh⟩ := h i e ht
   exact ⟨j, rfl, by rw [List.length_append]; omega, by rw [List.getElem_append_left hj]; exact hh⟩
 · obtain rfl : i = l.length := by omega
   rw [List.getElem_append_right (Nat.le_refl _)] at ht
   simp at ht
   exact absurd ht hx
theorem LinesOK.line {l : List Tok} {p : Nat} (h : LinesOK l) : LinesOK (lineP l p) := by
 unfold lineP
 split
 · rename_i he
   intro i hi ht
   rw [List.length_append, List.length_singleton] at hi
   by_cases e : i < l.length
   · rw [List.getElem_append_left e] at ht
     obtain ⟨j, rfl, hj, hh⟩ := h i e ht
     exact ⟨j, rfl, by rw [List.length_append]; omega, by rw [List.getElem_append_left hj]; exact hh⟩
   · obtain rfl : i = l.length := by omega
     unfold endsP at he
     cases hl : l.getLast? with
     | none => rw [hl] at he; cases he
     | some t =>
      rw [hl] at he
      have hne : l ≠ [] := by intro e; subst e; cases hl
      have hp := List.length_pos_iff.2 hne
      rw [List.getLast?_eq_getElem?] at hl
      have hj : l.length - 1 < l.length := by omega
      rw [List.getElem?_eq_getElem hj] at hl
      injection hl with hl
      refine ⟨l.length - 1, by omega, by rw [List.length_append]; omega, ?_⟩
      rw [List.getElem_append_left hj, hl]
      exact he
 · exact h
theorem sign_ne10 : ∀ t ∈ signs3 ++ signs2 ++ signs1, t ≠ [10] := by decide
theorem signP_mem' (r : List UInt8) (h : signP r ≠ 0) : r.take (signP r) ∈ signs3 ++ signs2 ++ signs1 := by
 unfold signP at h ⊢
 split
 · rename_i e; simp [e.2]
 · split
   · rename_i e; simp [e.2]
   · split
     · rename_i e; simp [e]
     · rename_i h1 h2 h3; simp [h1, h2, h3] at h
theorem LinesOK.step {s : List UInt8} {k : Nat} {l n l' n' : List Tok} {k' : Nat} (hl : LinesOK l) (h : Stp s k l n k' l' n') : LinesOK l' := by
 cases h with
 | bom _ _ => exact hl
 | nl _ => exact hl.line
 | blank _ _ _ => exact hl
 | note m _ =>
  split
  · exact hl.line
  · exact hl
 | name c hd hc =>
  refine hl.snoc ?_
  obtain ⟨t, ht⟩ := head_cons hd
  have hid : idB c = true := by unfold idB; rw [hc]; rfl
  simp only
  rw [take_idLen, ht, tw_cons hid]
  intro e
  injection e with e _
  subst e
  revert hc; decide
 | num c hd hc =>
  refine hl.snoc ?_
  obtain ⟨t, ht⟩ := head_cons hd
  have hid : idB c = true := by unfold idB; rw [hc]; simp
  simp only
  rw [take_idLen, ht, tw_cons hid]
  intro e
  injection e with e _
  subst e
  revert hc; decide
 | quote c m hd hc hq =>
  refine hl.snoc ?_
  obtain ⟨t, ht⟩ := head_cons hd
  simp only
  rw [ht, List.take_succ_cons]
  intro e
  injection e with e _
  subst e
  revert hc; decide
 | sign hsg hn => exact hl.snoc (sign_ne10 _ (signP_mem' _ hsg))
end Go.Proofs.YthbmjamgidfneaaGreatDoor
namespace Go.Proofs.YthbmjamgidfneaaGreatDoor
open Go.RowKit Go.Lib Go.BigFrame
set_option linter.unusedVariables false
set_option linter.unusedSimpArgs false
theorem fileT_len {f : Nat} {t : Nd} (hf : f + 1 ≤ 1100000) (ht : t.size ≤ f + 1) (h : fileB (tyF nmB f) (exF f) (stF f) t = true) : (fileT (typF f) (exT f) (stT f) t).length ≤ 100000000000000 := by
 unfold fileB at h
 simp only [Bool.and_eq_true, List.all_eq_true] at h
 have hn := nmB_len _ h.2.1
 have hsz := size_kids t
 have h1 := flat_len (p := fun d => [10] ++ declT (typF f) (exT f) (stT f) d ++ [10]) (l := t.kids) fun x hx => by
  have h1 := declT_len (f := f) hf (by have := Nd.size_kid hx; omega) (h.2.2 x hx)
  simp only [List.length_append, List.length_cons, List.length_nil]
  omega
 unfold fileT
 simp only [List.length_append, List.length_cons, List.length_nil]
 omega
theorem scanR_inv' {s : List UInt8} {l n : List Tok} (h : scanR s = .good l n) : ∃ l1, Inv s s.length l1 n ∧ l = lineP l1 s.length :=
 scanR_ind (fun k l n => Inv s k l n) (Inv.start s) (fun _ _ _ _ _ _ hk hQ hst _ => Inv.stp hk hQ hst) h
theorem scan_len {s : List UInt8} {l n : List Tok} (h : scanR s = .good l n) (hs : s.length ≤ 1000000) : l.length ≤ 1000000000000 := by
 obtain ⟨l1, I, rfl⟩ := scanR_inv' h
 have h1 := I.ll
 have h2 := lineP_len' l1 s.length
 omega
theorem law_plain (t : Nd) (hn : t.size ≤ 1048576) (v : Value) (w : World) (hT : Tabs w) (hm : MaxL w) (hv : NdV none' w t v) :
  Calls Tryz.prog 8 #[v] w (TruePost w) := by
 obtain ⟨f, hf⟩ : ∃ f, t.size = f + 1 := ⟨t.size - 1, by have := t.size_pos; omega⟩
 have CZ := hid fun W (X : Ext none' w W) => small_any t 1000 (by omega) (by unfold bigD; omega) v W (hv.ext X fun _ _ h => h)
 have CF := hid fun W (X : Ext none' w W) => shfile_any f (by omega) t (by omega) v W (maxL_later hm X) (hv.ext X fun _ _ h => h)
 have CA := hid fun W (X : Ext none' w W) => awake_any W (maxL_later hm X)
 have HM := hid hm
 have HT := hid hT
 have HS := hid fun (hp : rightB (fileB (tyF nmB f) (exF f) (stF f) t) t = true) (q : List UInt8) (hq : fileT (typF f) (exT f) (stT f) t = q) (hl : q.length ≤ 65536) => file_scan (f := f) (t := t) (s := q) (by omega) (rightB_p hp) hq.symm hl
 have NE := hid (show fileT (typF f) (exT f) (stT f) t ≠ [] by unfold fileT; simp)
 have HL := hid fun (hp : rightB (fileB (tyF nmB f) (exF f) (stF f) t) t = true) => (show (fileT (typF f) (exT f) (stT f) t).length ≤ 100000000000000 from fileT_len (by omega) (by omega) (rightB_p hp))
 obtain ⟨z, hz⟩ : ∃ z, decide (sizeD 1000 t ≤ 1000) = z := ⟨_, rfl⟩
 obtain ⟨p, hp⟩ : ∃ p, rightB (fileB (tyF nmB f) (exF f) (stF f) t) t = p := ⟨_, rfl⟩
 obtain ⟨q, hq⟩ : ∃ q, fileT (typF f) (exT f) (stT f) t = q := ⟨_, rfl⟩
 rw [hz] at CZ
 rw [hp] at CF HS HL
 rw [hq] at CF HL NE
 have HQ := hid hq
 clear hz hp hq hf hT
 obtain ⟨x, rfl, hx⟩ := hv
 obtain ⟨a1, cap1, rfl, _⟩ := hx
 obtain ⟨B, W0, hB, hW0, X0, G0⟩ := boxed w (.cells #[.int .i64 t.kind, .string ⟨t.text.toArray⟩, .slice a1 t.kids.length cap1, .int .i64 t.pos] 24)
 clear hn hm
 go_enter Tryz.func8, Tryz.ntmps8
 go_upto_region 1 with (fail)
 rw [← hW0, ← hB]
 clear hW0 hB
 obtain ⟨c0, c1, c2, c3⟩ := cell4 G0.out
 go_wp2_with fail
 refine (CZ.out _ X0.out).mono ?_
 rintro e W1 ⟨rfl, X1⟩
 have G0 := hid (X1.heap G0.out fun h => h)
 have X1 := hid (X0.out.trans X1)
 clear c0 c1 c2 c3
 obtain ⟨c0, c1, c2, c3⟩ := cell4 G0.out
 cases z
 case false =>
  go_wp2_with fail
  go_ret
  exact ⟨rfl, X1.out⟩
 go_wp2_with fail
 refine (CF.out _ X1.out).mono ?_
 rintro e W2 ⟨bv, rfl, hb, X2⟩
 have X2 := hid (X1.out.trans X2)
 clear c0 c1 c2 c3
 obtain ⟨N2, hN2⟩ : ∃ N, N = W2.heap.size := ⟨_, rfl⟩
 rw [← hN2] at hb
 have HN2 := hid hN2
 clear hN2
 cases p
 case false =>
  obtain ⟨ab, capb, rfl, _⟩ := hb
  clear HS HL
  go_wp2_with fail
  refine (CA.out _ X2.out).mono ?_
  rintro e W4 ⟨rfl, X4⟩
  have X4 := hid (X2.out.trans X4)
  go_wp2_with fail
  go_ret
  exact ⟨rfl, X4.out⟩
 have hql := HL.out rfl
 replace hb : Bytes N2 W2 bv q := hb
 have HB := hid hb
 obtain ⟨ab, capb, rfl, _, _, _, hb4⟩ := hb
 obtain ⟨bb, ob, rfl, hbB, hbW, hbc⟩ := hb4 NE.out
 have HC := hid hbc
 have HW := hid hbW
 clear hb4 hbc hbW hbB
 by_cases hl : 65536 < q.length
 case pos =>
  have z1 : (65536 : Int) < (q.length : Int) := by omega
  have z2 : decide ((65536 : Int) < (q.length : Int)) = true := by rw [decide_eq_true_iff]; omega
  clear HS HL
  go_wp2_with fail
  refine (CA.out _ X2.out).mono ?_
  rintro e W4 ⟨rfl, X4⟩
  have X4 := hid (X2.out.trans X4)
  go_wp2_with fail
  go_ret
  exact ⟨rfl, X4.out⟩
 have z1 : ¬ (65536 : Int) < (q.length : Int) := by omega
 have z2 : decide ((65536 : Int) < (q.length : Int)) = false := by rw [decide_eq_false_iff_not]; omega
 obtain ⟨hw, ⟨tl, tn, hsc, htl, t0, t2, ht0, htt⟩, hln, hla⟩ := HS.out rfl q HQ.out (by omega)
 have HLn := hid hln
 have HLa := hid hla
 have CC := hid (Scan_any N2 q _ W2 HB.out (HT.out.ext X2.out) (maxL_later HM.out X2.out) (by omega))
 rw [hsc] at CC
 have CW := hid fun W (X : Ext none' W2 W) => wrong_any N2 q _ W (HB.out.ext X fun _ h => h.elim) (HT.out.ext (X2.out.trans X)) (by omega)
 rw [hw] at CW
 have htl2 : tl.length ≤ 1000000000000 := scan_len hsc (by omega)
 have HTT := hid htt
 have HT0 := hid ht0
 have hl2 : q.length ≤ 65536 := by omega
 have hl3 : 1 ≤ q.length := List.length_pos_iff.2 NE.out
 clear HS HL hw hsc hln hla htt hl ht0
 go_wp2_with fail
 refine CC.out.mono ?_
 rintro e W3 ⟨tv, rfl, htk, X3⟩
 replace htk : Toks W2.heap.size W3 tv tl := htk
 obtain ⟨ta, tc, rfl, htk2⟩ := htk
 have HTK := hid htk2
 have XX := hid X3
 clear htk2 X3
 go_wp2_with fail
 go_loopw [8] (fun z wr => ∃ (i : Nat), z = .int .i64 (i : Nat) ∧ 1 ≤ i ∧ i ≤ q.length ∧ Hid (Ext none' W3 wr)) (fun z _ => q.length - (RowKit.intOf z).toNat)
 case atStart => exact ⟨1, rfl, by omega, by omega, hid (Ext.refl _ _)⟩
 case round =>
  obtain ⟨i, rfl, hge, hle, RR⟩ := hrel
  have XR := hid (XX.out.trans RR.out)
  by_cases hi : i < q.length
  · have e1 := (XR.out.cell (p := ⟨bb, ob + i, none⟩) HW.out (fun h => h)).trans (HC.out i hi)
    have e2 := (XR.out.cell (p := ⟨bb, ob + (i - 1), none⟩) HW.out (fun h => h)).trans (HC.out (i - 1) (by omega))
    have hlo := HLn.out (i - 1) (by omega)
    have hii : i - 1 + 1 = i := by omega
    simp only [hii] at hlo
    obtain ⟨c, hc⟩ : ∃ c, q[i] = c := ⟨_, rfl⟩
    obtain ⟨d, hd⟩ : ∃ d, q[i - 1] = d := ⟨_, rfl⟩
    simp only [hc] at e1 hlo
    simp only [hd] at e2 hlo
    obtain ⟨j, hj⟩ : ∃ j, i - 1 = j := ⟨_, rfl⟩
    rw [hj] at e2
    have hji : (i : Int) - 1 = (j : Int) := by omega
    have hj2 : j < q.length := by omega
    have z3 : (0 : Int) ≤ (i : Int) := by omega
    clear hc hd hii hj
    by_cases h10 : c = 10
    · have n1 : ((c.toNat : Int) == 10) = true := by rw [h10]; rfl
      obtain ⟨k1, k2⟩ := hlo h10
      have n2 : ((d.toNat : Int) == 32) = false := by have := u8n k1; simp at this ⊢; omega
      have n3 : ((d.toNat : Int) == 9) = false := by have := u8n k2; simp at this ⊢; omega
      clear hlo h10 k1 k2
      go_wp2_with fail
      go_roundw
      case rel => exact ⟨i + 1, by go_num, by omega, by omega, RR⟩
      case measure => simp [RowKit.intOf]; omega
    · have n1 : ((c.toNat : Int) == 10) = false := by have := u8n h10; simp at this ⊢; omega
      clear hlo h10
      go_wp2_with fail
      go_roundw
      case rel => exact ⟨i + 1, by go_num, by omega, by omega, RR⟩
      case measure => simp [RowKit.intOf]; omega
  · obtain rfl : i = q.length := by omega
    go_wp2_with fail
    refine (CW.out _ XR.out).mono ?_
    rintro e W4 ⟨rfl, X4⟩
    have XX4 := hid (XR.out.trans X4)
    have htn : tl ≠ [] := by rw [HT0.out]; simp
    obtain ⟨g, rfl, hgl, hgw, hgc⟩ := HTK.out htn
    have k1 := ((RR.out.trans X4).cell (p := ⟨g, 0 * 3 + 1, none⟩) hgw (fun h => h)).trans (hgc 0 (by omega)).2.1
    have htx : tl[0].text = sPackage := by simp only [HT0.out, List.getElem_cons_zero]; exact HTT.out
    rw [htx] at k1
    unfold sPackage at k1
    simp only [Nat.zero_mul, Nat.zero_add] at k1
    have e1 := (XX4.out.cell (p := ⟨bb, ob + (q.length - 1), none⟩) HW.out (fun h => h)).trans (HC.out (q.length - 1) (by omega))
    obtain ⟨hls, hla⟩ := HLa.out
    rw [hla] at e1
    clear hla hls
    obtain ⟨j, hj⟩ : ∃ j, q.length - 1 = j := ⟨_, rfl⟩
    rw [hj] at e1
    have hji : (q.length : Int) - 1 = (j : Int) := by omega
    have hj2 : j < q.length := by omega
    have z3 : (2 : Int) < (tl.length : Int) := by omega
    have z4 : decide ((2 : Int) < (tl.length : Int)) = true := by rw [decide_eq_true_iff]; omega
    have z5 : (0 : Int) < (tl.length : Int) := by omega
    clear hj htx hgc hgw htn X4 hgl
    go_wp2_with fail
    refine (CA.out _ (X2.out.trans XX4.out)).mono ?_
    rintro e W5 ⟨rfl, X5⟩
    have X5 := hid (X2.out.trans (XX4.out.trans X5))
    clear k1 e1
    go_wp2_with fail
    go_ret
    exact ⟨rfl, X5.out⟩
end Go.Proofs.YthbmjamgidfneaaGreatDoor
