import Derived.Test.YthbmjamgidfneaaGreatDoorYAa
import Derived.Test.YthbmjamgidfneaaGreatDoorYAd
import Derived.Test.YthbmjamgidfneaaGreatDoorYAx
import Derived.Test.YthbmjamgidfneaaGreatDoorYAe
import Derived.Laws.IdiomStrings
import Derived.Laws.AppendOwn
import Derived.Test.YthbmjamgidfneaaGreatDoorYAt
import Derived.Test.YthbmjamgidfneaaGreatDoorYAn
set_option maxRecDepth 100000
set_option maxHeartbeats 6400000
namespace Go.Proofs.YthbmjamgidfneaaGreatDoor
open Go.RowKit Go.Lib Go.BigFrame
set_option linter.unusedVariables false
theorem ex_step (f : Nat) (hf : f + 1 ≤ bigD) {ty ex st : Nd → Bool} (Q : Qs f ty ex st) : ExH (f + 1) (exB ty ex st) := by
 intro t ht v w hm hv
 unfold exB
 by_cases h16 : t.kind = 16; · rw [if_pos h16]; exact ee_int f hf Q t ht h16 v w hm hv
 rw [if_neg h16]
 by_cases h17 : t.kind = 17; · rw [if_pos h17]; exact ee_str f hf Q t ht h17 v w hm hv
 rw [if_neg h17]
 by_cases h18 : t.kind = 18; · rw [if_pos h18]; exact ee_name f hf Q t ht h18 v w hm hv
 rw [if_neg h18]
 by_cases h19 : t.kind = 19; · rw [if_pos h19]; exact ee_un f hf Q t ht h19 v w hm hv
 rw [if_neg h19]
 by_cases h20 : t.kind = 20; · rw [if_pos h20]; exact ee_bin f hf Q t ht h20 v w hm hv
 rw [if_neg h20]
 by_cases h21 : t.kind = 21; · rw [if_pos h21]; exact ee_call f hf Q t ht h21 v w hm hv
 rw [if_neg h21]
 by_cases h22 : t.kind = 22; · rw [if_pos h22]; exact ee_idx f hf Q t ht h22 v w hm hv
 rw [if_neg h22]
 by_cases h23 : t.kind = 23; · rw [if_pos h23]; exact ee_field f hf Q t ht h23 v w hm hv
 rw [if_neg h23]
 by_cases h24 : t.kind = 24; · rw [if_pos h24]; exact ee_lit f hf Q t ht h24 v w hm hv
 rw [if_neg h24]
 exact ee_func f hf Q t ht h16 h17 h18 h19 h20 h21 h22 h23 h24 v w hm hv
theorem st_step (f : Nat) (hf : f + 1 ≤ bigD) {ty ex st : Nd → Bool} (Q : Qs f ty ex st) : StH (f + 1) (stB ty ex st) := by
 intro t ht v w hm hv
 unfold stB
 by_cases h5 : t.kind = 5; · rw [if_pos h5]; exact es_var f hf Q t ht h5 v w hm hv
 rw [if_neg h5]
 by_cases h26 : t.kind = 26; · rw [if_pos h26]; exact es_short f hf Q t ht h26 v w hm hv
 rw [if_neg h26]
 by_cases h27 : t.kind = 27; · rw [if_pos h27]; exact es_set f hf Q t ht h27 v w hm hv
 rw [if_neg h27]
 by_cases h28 : t.kind = 28; · rw [if_pos h28]; exact es_inc f hf Q t ht h28 v w hm hv
 rw [if_neg h28]
 by_cases h29 : t.kind = 29; · rw [if_pos h29]; exact es_call f hf Q t ht h29 v w hm hv
 rw [if_neg h29]
 by_cases h30 : t.kind = 30; · rw [if_pos h30]; exact es_if f hf Q t ht h30 v w hm hv
 rw [if_neg h30]
 by_cases h31 : t.kind = 31; · rw [if_pos h31]; exact es_for f hf Q t ht h31 v w hm hv
 rw [if_neg h31]
 by_cases h32 : t.kind = 32; · rw [if_pos h32]; exact es_range f hf Q t ht h32 v w hm hv
 rw [if_neg h32]
 by_cases h33 : t.kind = 33; · rw [if_pos h33]; exact es_ret f hf Q t ht h33 v w hm hv
 rw [if_neg h33]
 by_cases h34 : t.kind = 34; · rw [if_pos h34]; exact es_brk f hf Q t ht h34 v w hm hv
 rw [if_neg h34]
 by_cases h35 : t.kind = 35; · rw [if_pos h35]; exact es_cnt f hf Q t ht h35 v w hm hv
 rw [if_neg h35]
 exact es_blk f hf Q t ht h5 h26 h27 h28 h29 h30 h31 h32 h33 h34 h35 v w hm hv
theorem ifB_ifs {ty ex st : Nd → Bool} (t : Nd) : ifB (stB ty ex st) t = ifsB ex st t := by
 unfold ifB
 by_cases h : t.kind = 30
 · have : (t.kind == 30) = true := by simpa using h
   rw [this, Bool.true_and]
   unfold stB
   rw [if_neg (by omega), if_neg (by omega), if_neg (by omega), if_neg (by omega), if_neg (by omega), if_pos h]
 · have : (t.kind == 30) = false := by simpa using h
   rw [this, Bool.false_and]
   unfold ifsB ofB
   rw [this]; rfl
theorem qs_all : ∀ (f : Nat), f ≤ bigD → Qs f (tyF nmB f) (exF f) (stF f) := by
 intro f
 induction f with
 | zero => exact fun _ => ⟨fun t ht => by have := t.size_pos; omega, fun t ht => by have := t.size_pos; omega, fun t ht => by have := t.size_pos; omega, fun t ht => by have := t.size_pos; omega⟩
 | succ f ih =>
  intro hf
  have Q := ih (by omega)
  exact ⟨isType_any (f + 1) hf, ex_step f hf Q, st_step f hf Q, fun t ht v w hm hv => by
   have := if_any f hf Q t ht v w hm hv
   show Calls _ _ _ _ (BoolP (ifB (stB (tyF nmB f) (exF f) (stF f)) t) w)
   rw [ifB_ifs]
   exact this⟩
theorem decl_any (f : Nat) (hf : f + 1 ≤ bigD) {ty ex st : Nd → Bool} (Q : Qs f ty ex st) (t : Nd) (ht : t.size ≤ f + 1) (v : Value) (w : World) (hm : MaxL w) (hv : NdV none' w t v) :
 Calls Tryz.prog 101 #[v] w (BoolP (declB ty ex st t) w) := by
 unfold declB
 by_cases h2 : t.kind = 2; · rw [if_pos h2]; exact ed_func f hf Q t ht h2 v w hm hv
 rw [if_neg h2]
 by_cases h3 : t.kind = 3; · rw [if_pos h3]; exact ed_type f hf Q t ht h3 v w hm hv
 rw [if_neg h3]
 by_cases h4 : t.kind = 4; · rw [if_pos h4]; exact ed_alias f hf Q t ht h4 v w hm hv
 rw [if_neg h4]
 exact ed_var f hf Q t ht h2 h3 h4 v w hm hv
theorem decl_ask {f : Nat} (hf : f + 1 ≤ bigD) {ty ex st : Nd → Bool} (Q : Qs f ty ex st) (w : World) (hm : MaxL w) : AskV f (declB ty ex st) w (.func (.func 101) #[] #[]) :=
 ⟨_, _, rfl, Go.Proofs.enters_of Tryz.func101 (by kernel_rfl) rfl, fun t ht W x X hx => decl_any f hf Q t (by omega) x W (maxL_later hm X) hx⟩
theorem file_any (f : Nat) (hf : f + 1 ≤ bigD) {ty ex st : Nd → Bool} (Q : Qs f ty ex st) (t : Nd) (ht : t.size ≤ f + 1) (v : Value) (w : World) (hm : MaxL w) (hv : NdV none' w t v) :
 Calls Tryz.prog 98 #[v] w (BoolP (fileB ty ex st t) w) := by
 obtain ⟨y, rfl, hy⟩ := hv
 have CA := hid fun W (X : Ext none' w W) => all_any (declB ty ex st) t.kids f y _ W (by have := t.kids_len; omega) (hy.ext isNd_good X fun _ _ h => h) (fun i hi => by have := Nd.size_kid (t := t) (List.getElem_mem hi); omega) (decl_ask hf Q W (maxL_later hm X))
 have CN := hid fun W => tname_any t.text W
 unfold fileB
 obtain ⟨a1, cap1, rfl, _⟩ := hy
 obtain ⟨qa, hqa⟩ : ∃ q, t.kids.all (declB ty ex st) = q := ⟨_, rfl⟩
 obtain ⟨qn, hqn⟩ : ∃ q, nmB t.text = q := ⟨_, rfl⟩
 rw [hqa] at CA ⊢
 rw [hqn] at CN ⊢
 obtain ⟨tk, htk⟩ : ∃ k, t.kind = k := ⟨_, rfl⟩
 rw [htk]
 obtain ⟨r, hr⟩ : ∃ r, r = (tk == 1 && (qn && qa)) := ⟨_, rfl⟩
 rw [← hr]
 have HR := hid hr
 have G0 := hid (heap_alloc_at (w := w) rfl (.cells #[.int .i64 tk, .string ⟨t.text.toArray⟩, .slice a1 t.kids.length cap1, .int .i64 t.pos] 24))
 clear hqa hqn htk Q hm ht hf hr
 by_cases h1 : tk = 1
 · have q1 : (tk == 1) = true := by simpa using h1
   rw [q1] at HR
   clear h1
   go_enter Tryz.func98, Tryz.ntmps98
   go_wp2_with fail
   refine (CN.out _).mono ?_
   rintro e w1 ⟨rfl, X1⟩
   have c2 := cell_at (X1.heap G0.out fun h => h) 2
   simp only [List.getElem?_toArray, List.getElem?_cons_zero, List.getElem?_cons_succ] at c2
   have X1 := hid (((Ext.refl none' w).alloc _).trans X1)
   cases qn
   · go_wp2_with fail
     go_ret
     exact ⟨by rw [HR.out]; rfl, X1.out⟩
   · go_wp2_with fail
     refine (CA.out _ X1.out).mono ?_
     rintro e w2 ⟨rfl, X2⟩
     have X2 := hid (X1.out.trans X2)
     clear c2
     go_wp2_with fail
     go_ret
     exact ⟨by rw [HR.out]; rfl, X2.out⟩
 · have q1 : (tk == 1) = false := by simpa using h1
   rw [q1] at HR
   clear h1
   go_enter Tryz.func98, Tryz.ntmps98
   go_wp2_with fail
   go_ret
   exact ⟨by rw [HR.out]; rfl, (Ext.refl _ _).alloc _⟩
theorem exprRight_any (f : Nat) (hf : f ≤ bigD) (t : Nd) (ht : t.size ≤ f) (v : Value) (w : World) (hm : MaxL w) (hv : NdV none' w t v) : Calls Tryz.prog 25 #[v, .string ⟨sExpr.toArray⟩] w (BoolP (rightB (exF f t) t) w) :=
 right_any sExpr 3 103 rfl (Go.Proofs.enters_of Tryz.func103 (by kernel_rfl) rfl) t (Nat.le_trans ht hf) _ v w hv fun W x X hx => (qs_all f hf).hex t ht x W (maxL_later hm X) hx
theorem stmtRight_any (f : Nat) (hf : f ≤ bigD) (t : Nd) (ht : t.size ≤ f) (v : Value) (w : World) (hm : MaxL w) (hv : NdV none' w t v) : Calls Tryz.prog 25 #[v, .string ⟨sStmt.toArray⟩] w (BoolP (rightB (stF f t) t) w) :=
 right_any sStmt 4 104 rfl (Go.Proofs.enters_of Tryz.func104 (by kernel_rfl) rfl) t (Nat.le_trans ht hf) _ v w hv fun W x X hx => (qs_all f hf).hst t ht x W (maxL_later hm X) hx
theorem declRight_any (f : Nat) (hf : f + 1 ≤ bigD) (t : Nd) (ht : t.size ≤ f + 1) (v : Value) (w : World) (hm : MaxL w) (hv : NdV none' w t v) : Calls Tryz.prog 25 #[v, .string ⟨sDecl.toArray⟩] w (BoolP (rightB (declB (tyF nmB f) (exF f) (stF f) t) t) w) :=
 right_any sDecl 1 101 rfl (Go.Proofs.enters_of Tryz.func101 (by kernel_rfl) rfl) t (Nat.le_trans ht hf) _ v w hv fun W x X hx => decl_any f hf (qs_all f (by omega)) t ht x W (maxL_later hm X) hx
theorem fileRight_any (f : Nat) (hf : f + 1 ≤ bigD) (t : Nd) (ht : t.size ≤ f + 1) (v : Value) (w : World) (hm : MaxL w) (hv : NdV none' w t v) : Calls Tryz.prog 25 #[v, .string ⟨sFile.toArray⟩] w (BoolP (rightB (fileB (tyF nmB f) (exF f) (stF f) t) t) w) :=
 right_any sFile 0 98 rfl (Go.Proofs.enters_of Tryz.func98 (by kernel_rfl) rfl) t (Nat.le_trans ht hf) _ v w hv fun W x X hx => file_any f hf (qs_all f (by omega)) t ht x W (maxL_later hm X) hx
end Go.Proofs.YthbmjamgidfneaaGreatDoor
namespace Go.Proofs.YthbmjamgidfneaaGreatDoor
open Go.RowKit Go.Lib Go.BigFrame
set_option linter.unusedVariables false
set_option linter.unusedSimpArgs false
theorem declT_len {f : Nat} {t : Nd} (hf : f + 1 ≤ 1100000) (hs : t.size ≤ f + 1) (h : declB (tyF nmB f) (exF f) (stF f) t = true) : (declT (typF f) (exT f) (stT f) t).length + 1000000 ≤ 4000000 * t.size := by
 have hx := fun x (hx : x.size ≤ f) => (lens_all f 0 (by omega)).1 x hx
 have hs1 := fun x (hx : x.size ≤ f) => (lens_all f 1 (by omega)).2 x hx
 unfold declB at h
 unfold declT
 by_cases h2 : t.kind = 2
 · rw [if_pos h2] at h ⊢
   obtain ⟨_, hn, h3⟩ := namB_parts h
   obtain ⟨x, y, z, hk, hx1, hy1, hz1⟩ := three_kids h3
   obtain ⟨e0, e1, e2⟩ := kid_three hk
   have := size_three hk
   have := nmB_len _ hn
   have := (pars_len (f := f) (by omega) hx1).1
   have := sigT_len nmB_len hy1 (show y.size ≤ f + 1 by omega)
   have := blk_len (deep := 0) (st := stT f) (f := f) (by omega) (fun z hm hz => hs1 z (by have := Nd.size_kid hm; omega) hz) hz1
   rw [e0, e1, e2]
   simp only [List.length_append, List.length_cons, List.length_nil]
   omega
 rw [if_neg h2] at h ⊢
 by_cases h3 : t.kind = 3
 · rw [if_pos h3] at h ⊢
   obtain ⟨_, hn, h3⟩ := namB_parts h
   obtain ⟨x, y, hk, hx1, hy1⟩ := two_kids h3
   obtain ⟨e0, e1⟩ := kid_two hk
   have := size_two hk
   have := nmB_len _ hn
   have := (pars_len (f := f) (by omega) hx1).1
   rw [e0, e1]
   unfold wType
   by_cases h13 : y.kind = 13
   · rw [if_pos h13]
     have hys : structB (tyF nmB f) y = true := by
      unfold orB at hy1
      simp only [Bool.or_eq_true] at hy1
      rcases hy1 with (h | h) | h
      · have := tyF_kind h; omega
      · exact h
      · have := (interB_parts h).1; omega
     unfold structB at hys
     simp only [Bool.and_eq_true, List.all_eq_true] at hys
     have hz := size_kids y
     have := flat_len (p := fun x => lineT 1 (x.text ++ [32] ++ typF f (x.kid 0))) (l := y.kids) fun x hx => (fld_len (hys.2.2 x hx) (by have := Nd.size_kid hx; omega)).1
     simp only [List.length_append, List.length_cons, List.length_nil] at this ⊢
     omega
   · rw [if_neg h13]
     have hyD : TyiD f y := ⟨by omega, by
      unfold orB at hy1
      simp only [Bool.or_eq_true] at hy1
      rcases hy1 with (h | h) | h
      · exact .inr ⟨by omega, h⟩
      · exfalso
        unfold structB at h
        simp only [Bool.and_eq_true, beq_iff_eq] at h
        exact h13 h.1
      · exact .inl h⟩
     have := inT_len hyD
     simp only [List.length_append, List.length_cons, List.length_nil]
     omega
 rw [if_neg h3] at h ⊢
 by_cases h4 : t.kind = 4
 · rw [if_pos h4] at h ⊢
   obtain ⟨_, hn, h3⟩ := namB_parts h
   obtain ⟨x, y, hk, hx1, hy1⟩ := two_kids h3
   obtain ⟨e0, e1⟩ := kid_two hk
   have := size_two hk
   have := nmB_len _ hn
   have := (pars_len (f := f) (by omega) hx1).1
   have := ty_len hy1 (show y.size ≤ f by omega)
   rw [e0, e1]
   unfold wType
   simp only [List.length_append, List.length_cons, List.length_nil]
   omega
 rw [if_neg h4] at h ⊢
 have := varT_len (deep := 0) (ex := exT f) hs (fun x hm hx' => hx x (by have := Nd.size_kid hm; omega) hx') h
 omega
def FilePost (p : Bool) (q : List UInt8) (w : World) (e : Ending) (w' : World) : Prop :=
 ∃ v, e = .returned (.tuple #[v, .int .i64 (if p then 0 else 9)]) ∧ Bytes w'.heap.size w' v (if p then q else []) ∧ Ext none' w w'
theorem shfile_any (f : Nat) (hf : f + 1 ≤ 1100000) (t : Nd) (ht : t.size ≤ f + 1) (v : Value) (w : World) (hm : MaxL w) (hv : NdV none' w t v) :
 Calls Tryz.prog 15 #[v] w (FilePost (rightB (fileB (tyF nmB f) (exF f) (stF f) t) t) (fileT (typF f) (exT f) (stT f) t) w) := by
 have CRR := hid fun W (X : Ext none' w W) => fileRight_any f (by unfold bigD; omega) t ht v W (maxL_later hm X) (hv.ext X fun _ _ h => h)
 have HP := hid fun (h : rightB (fileB (tyF nmB f) (exF f) (stF f) t) t = true) => (by
  have h2 := h
  unfold rightB at h2
  simp only [Bool.and_eq_true] at h2
  have h3 := h2.2.2
  unfold fileB at h3
  simp only [Bool.and_eq_true, List.all_eq_true] at h3
  exact ⟨nmB_len _ h3.2.1, h3.2.2⟩ : t.text.length ≤ 100 ∧ ∀ x ∈ t.kids, declB (tyF nmB f) (exF f) (stF f) x = true)
 obtain ⟨p, hp⟩ : ∃ p, rightB (fileB (tyF nmB f) (exF f) (stF f) t) t = p := ⟨_, rfl⟩
 rw [hp] at CRR HP ⊢
 obtain ⟨rr, hrr⟩ : ∃ r, r = fileT (typF f) (exT f) (stT f) t := ⟨_, rfl⟩
 rw [← hrr]
 obtain ⟨y, rfl, hy⟩ := hv
 have HY := hid hy
 obtain ⟨a1, cap1, rfl, hcap, _⟩ := hy
 have hkl : t.kids.length ≤ 1100000 := by have := t.kids_len; omega
 obtain ⟨B, W0, hB, hW0, X0, G0⟩ := boxed w (.cells #[.int .i64 t.kind, .string ⟨t.text.toArray⟩, .slice a1 t.kids.length cap1, .int .i64 t.pos] 24)
 have HF := hid hf
 have HT := hid ht
 have HM := hid hm
 have HRR := hid hrr
 clear hp hf ht hm hrr
 go_enter Tryz.func15, Tryz.ntmps15
 go_upto_region 1 with (fail)
 rw [← hW0, ← hB]
 clear hW0 hB
 obtain ⟨c0, c1, c2, c3⟩ := cell4 G0.out
 go_wp2_with fail
 refine (CRR.out _ X0.out).mono ?_
 rintro e w1 ⟨rfl, X1⟩
 have G0 := hid (X1.heap G0.out fun h => h)
 have X1 := hid (X0.out.trans X1)
 clear c0 c1 c2 c3
 cases p with
 | false =>
  go_wp2_with fail
  go_ret2
  exact ⟨_, rfl, ⟨_, 0, rfl, Nat.le_refl _, by omega, fun _ => rfl, fun h => absurd rfl h⟩, X1.out⟩
 | true =>
  obtain ⟨htl, hkb⟩ := HP.out rfl
  have HT' := HT.out
  have HF' := HF.out
  obtain ⟨g, hg⟩ : ∃ g, g = fun d => [10] ++ declT (typF f) (exT f) (stT f) d ++ [10] := ⟨_, rfl⟩
  have hgl : ∀ x ∈ t.kids, (g x).length ≤ 4000000 * x.size := fun x hx => by
   have h1 := declT_len (f := f) HF' (by have := Nd.size_kid hx; omega) (hkb x hx)
   rw [hg]
   simp only [List.length_append, List.length_cons, List.length_nil]
   omega
  have hz := size_kids t
  obtain ⟨acc, hacc⟩ : ∃ acc : Nat → List UInt8, acc = fun i => [112, 97, 99, 107, 97, 103, 101, 32] ++ (t.text ++ [10]) ++ ((t.kids.take i).map g).flatten := ⟨_, rfl⟩
  have AL := hid (show ∀ i, (acc i).length ≤ 10000000000000 by
   intro i
   have h1 := flat_len (p := g) (l := t.kids.take i) fun x hx => hgl x (List.mem_of_mem_take hx)
   have h2 : Nd.sizeL (t.kids.take i) ≤ Nd.sizeL t.kids := by
    conv => rhs; rw [← List.take_append_drop i t.kids]
    clear h1
    generalize t.kids.take i = a
    induction a with
    | nil => simp [Nd.sizeL]
    | cons x r ih => simp only [List.cons_append, Nd.sizeL]; omega
   rw [hacc]
   simp only [List.length_append, List.length_cons, List.length_nil]
   omega)
  have A1 := hid (show ∀ i (h : i < t.kids.length), acc (i + 1) = acc i ++ g t.kids[i] by
   intro i h
   rw [hacc]
   show _ ++ ((t.kids.take (i + 1)).map g).flatten = _ ++ ((t.kids.take i).map g).flatten ++ g t.kids[i]
   rw [List.take_add_one, List.getElem?_eq_getElem h, List.map_append, List.flatten_append]
   simp)
  have A0 := hid (show 112 :: 97 :: 99 :: 107 :: 97 :: 103 :: 101 :: 32 :: (t.text ++ [10]) = acc 0 by rw [hacc]; simp)
  have HR := hid (show rr = acc t.kids.length by
   rw [HRR.out, hacc, hg]
   unfold fileT
   simp)
  have GL := hid (show ∀ i (h : i < t.kids.length), (g t.kids[i]).length ≤ 10000000000000 by
   intro i h
   have h1 := hgl _ (List.getElem_mem h)
   have h2 := Nd.size_kid (List.getElem_mem h)
   omega)
  have CD := hid fun i (h : i < t.kids.length) W (X : Ext none' w W) v' (hv' : NdV none' W t.kids[i] v') => shdecl_any f HF.out t.kids[i] (by have := Nd.size_kid (List.getElem_mem h); omega) (hkb _ (List.getElem_mem h)) v' W (maxL_later HM.out X) hv'
  have GE := hid (show ∀ x, [10] ++ declT (typF f) (exT f) (stT f) x ++ [10] = g x by intro x; rw [hg])
  have cat1 := str_cat [112, 97, 99, 107, 97, 103, 101, 32] t.text
  have cat2 := str_cat ([112, 97, 99, 107, 97, 103, 101, 32] ++ t.text) [10]
  simp only [List.append_assoc, List.cons_append, List.nil_append] at cat1 cat2
  have c1 := cell_at G0.out 1
  have c2 := cell_at G0.out 2
  simp only [List.getElem?_toArray, List.getElem?_cons_zero, List.getElem?_cons_succ] at c1 c2
  clear hg hacc hkb hgl hz HT' HF' HP
  go_wp2_with fail
  rw [A0.out]
  clear c1 c2
  go_loopw [4, 6, 17] (fun o _ z wr => ∃ (i : Nat), z = .int .i64 (i : Nat) ∧ i ≤ t.kids.length ∧ o = .string ⟨(acc i).toArray⟩ ∧ Hid (Ext none' w wr)) (fun _ _ z _ => t.kids.length - (RowKit.intOf z).toNat)
  case atStart => exact ⟨0, rfl, by omega, rfl, X1⟩
  case round =>
   obtain ⟨i, rfl, hle, rfl, R⟩ := hrel
   by_cases hi : i < t.kids.length
   · obtain ⟨b, off, cs, rfl, _, hbw, hcc, hty⟩ := (HY.out.ext isNd_good R.out fun _ _ h => h.elim).at i hi
     obtain ⟨y, rfl, hy⟩ := hty.parts
     have HYI := hid hy
     have c0 := hcc 0 _ rfl
     have c1 := hcc 1 _ rfl
     have c2 := hcc 2 _ rfl
     have c3 := hcc 3 _ rfl
     simp only [Nat.add_zero] at c0
     obtain ⟨a3, cap3, rfl, _⟩ := hy
     have CD := hid (CD.out i hi)
     have A1 := hid (A1.out i hi)
     have hal := AL.out i
     have hgl := GL.out i hi
     have GE := hid (GE.out t.kids[i])
     obtain ⟨t1, ht1⟩ : ∃ t1, t.kids[i] = t1 := ⟨_, rfl⟩
     rw [ht1] at c0 c1 c2 c3 CD A1 hgl HYI GE
     obtain ⟨x1, hx1⟩ : ∃ x1, declT (typF f) (exT f) (stT f) t1 = x1 := ⟨_, rfl⟩
     rw [hx1] at CD GE
     obtain ⟨q1, hq1⟩ : ∃ q1, g t1 = q1 := ⟨_, rfl⟩
     rw [hq1] at A1 hgl GE
     obtain ⟨o1, ho1⟩ : ∃ o1, acc i = o1 := ⟨_, rfl⟩
     rw [ho1] at A1 hal ⊢
     have hxl : x1.length ≤ 10000000000000 := by
      have := congrArg List.length GE.out
      simp only [List.length_append, List.length_cons, List.length_nil] at this
      omega
     have cat1 := str_cat [10] x1
     have cat2 := str_cat (10 :: x1) [10]
     have cat3 := str_cat o1 (10 :: (x1 ++ [10]))
     have hg2 := GE.out
     simp only [List.append_assoc, List.cons_append, List.nil_append] at cat1 cat2 cat3 hg2
     have HG2 := hid hg2
     clear ht1 hx1 hq1 ho1 hcc hty hg2
     go_wp2_with fail
     refine (CD.out _ (R.out.trans ((Ext.refl _ _).alloc _)) _ ⟨_, rfl, HYI.out.ext isNd_good ((Ext.refl _ _).alloc _) fun _ _ h => h⟩).mono ?_
     rintro e w2 ⟨rfl, X2⟩
     have N := hid (R.out.trans (((Ext.refl none' wr).alloc _).trans X2))
     clear c0 c1 c2 c3 X2
     go_wp2_with fail
     go_roundw
     case rel => exact ⟨i + 1, by go_num, by omega, by rw [A1.out, ← HG2.out], N⟩
     case measure => simp [RowKit.intOf]; omega
   · obtain rfl : i = t.kids.length := by omega
     have hal := AL.out t.kids.length
     obtain ⟨o1, ho1⟩ : ∃ o1, acc t.kids.length = o1 := ⟨_, rfl⟩
     rw [ho1] at HR hal ⊢
     have hcv := fun W => run_bytes_of_string (P := Tryz.prog) W 9 37 5 ⟨o1.toArray⟩ Tryz.underlying9 Tryz.underlying37 Tryz.underlying5
     clear ho1
     go_wp2_with fail
     go_ret2
     have e := HR.out
     subst e
     refine ⟨_, rfl, ?_, ?_⟩
     · show Bytes _ _ (.slice (some ⟨wr.heap.size, 0, none⟩) rr.length (grownCap wr rr.length 0 5)) rr
       have hge := grownCap_ge wr rr.length 0 5
       have hle := grownCap_le_maxLen wr rr.length 0 5 (by unfold maxLen; omega)
       refine ⟨_, _, rfl, hge, (by unfold maxLen at hle; omega), (fun h => by cases h), fun _ => ⟨wr.heap.size, 0, rfl, ?_, ?_, fun j hj => ?_⟩⟩
       · show wr.heap.size < (wr.alloc _).heap.size
         simp
       · show wr.heap.size < (wr.alloc _).heap.size
         simp
       · show (wr.alloc _).cell? _ = _
         rw [cell_at (heap_alloc_at rfl _), Nat.zero_add, bytesRow_at _ _ _ hj]
         rfl
     · exact R.out.trans ((Ext.refl _ _).alloc _).drew
end Go.Proofs.YthbmjamgidfneaaGreatDoor
namespace Go.Proofs.YthbmjamgidfneaaGreatDoor
open Go.RowKit Go.Lib Go.BigFrame
theorem rightB_p {p : Bool} {t : Nd} (h : rightB p t = true) : p = true := by
 unfold rightB at h
 simp only [Bool.and_eq_true] at h
 exact h.2.2
theorem exprText_any (f : Nat) (hf : f ≤ 1100000) (t : Nd) (ht : t.size ≤ f) (v : Value) (w : World) (hm : MaxL w) (hv : NdV none' w t v) : Calls Tryz.prog 10 #[v, .string ⟨sExpr.toArray⟩] w (TextPost (rightB (exF f t) t) (exT f 0 false t) w) :=
 text_any sExpr 2 23 #[shower0] rfl (Go.Proofs.enters_of Tryz.func23 (by kernel_rfl) rfl) t _ _ v w hv (fun W x X hx => exprRight_any f (by unfold bigD; omega) t ht x W (maxL_later hm X) hx) fun hp W x X hx => (sh_all f hf).1 0 false (by omega) t ht (rightB_p hp) x W (maxL_later hm X) hx
theorem stmtText_any (f : Nat) (hf : f ≤ 1100000) (t : Nd) (ht : t.size ≤ f) (v : Value) (w : World) (hm : MaxL w) (hv : NdV none' w t v) : Calls Tryz.prog 10 #[v, .string ⟨sStmt.toArray⟩] w (TextPost (rightB (stF f t) t) (stT f 0 t) w) :=
 text_any sStmt 3 24 #[shower0] rfl (Go.Proofs.enters_of Tryz.func24 (by kernel_rfl) rfl) t _ _ v w hv (fun W x X hx => stmtRight_any f (by unfold bigD; omega) t ht x W (maxL_later hm X) hx) fun hp W x X hx => (sh_all f hf).2 0 (by omega) t ht (rightB_p hp) x W (maxL_later hm X) hx
theorem declText_any (f : Nat) (hf : f + 1 ≤ 1100000) (t : Nd) (ht : t.size ≤ f + 1) (v : Value) (w : World) (hm : MaxL w) (hv : NdV none' w t v) : Calls Tryz.prog 10 #[v, .string ⟨sDecl.toArray⟩] w (TextPost (rightB (declB (tyF nmB f) (exF f) (stF f) t) t) (declT (typF f) (exT f) (stT f) t) w) :=
 text_any sDecl 0 21 #[] rfl (Go.Proofs.enters_of Tryz.func21 (by kernel_rfl) rfl) t _ _ v w hv (fun W x X hx => declRight_any f (by unfold bigD; omega) t ht x W (maxL_later hm X) hx) fun hp W x X hx => shdecl_any f hf t ht (rightB_p hp) x W (maxL_later hm X) hx
end Go.Proofs.YthbmjamgidfneaaGreatDoor
namespace Go.Proofs.YthbmjamgidfneaaGreatDoor
open Go.RowKit Go.Lib Go.BigFrame
set_option linter.unusedVariables false
set_option linter.unusedSimpArgs false
def dlT (ty : Nd → List UInt8) (ex : ExT) (st : StT) (x : Nd) : List UInt8 := [10] ++ declT ty ex st x ++ [10]
theorem rfilet_any (f : Nat) (hf : f + 1 ≤ 1100000) (t : Nd) (ht : t.size ≤ f + 1) (he : fileB (tyF nmB f) (exF f) (stF f) t = true) (v : Value) (w : World) (hv : NdV none' w t v) :
 Calls Tryz.prog 17 #[v] w (StrPost (fileT (typF f) (exT f) (stT f) t) w) := by
 obtain ⟨a1, cap1, rfl, hcap, HV, HY⟩ := nd_open hv
 have hkl : t.kids.length ≤ 1100000 := by have := t.kids_len; omega
 obtain ⟨r, hr⟩ : ∃ r, r = (fileT (typF f) (exT f) (stT f) t) := ⟨_, rfl⟩
 rw [← hr]
 have HT := hid ht
 have HF := hid hf
 have hfp : nmB t.text = true ∧ ∀ x ∈ t.kids, declB (tyF nmB f) (exF f) (stF f) x = true := by
  unfold fileB at he
  simp only [Bool.and_eq_true, List.all_eq_true] at he
  exact he.2
 obtain ⟨htn, hkb⟩ := hfp
 have htl := nmB_len _ htn
 have hsz := size_kids t
 obtain ⟨g, hg⟩ : ∃ g, g = dlT (typF f) (exT f) (stT f) := ⟨_, rfl⟩
 have hgl : ∀ x ∈ t.kids, (g x).length ≤ 4000000 * x.size := fun x hx => by
  have h1 := declT_len (f := f) hf (by have := Nd.size_kid hx; omega) (hkb x hx)
  rw [hg]
  unfold dlT
  simp only [List.length_append, List.length_cons, List.length_nil]
  omega
 obtain ⟨acc, hacc⟩ : ∃ acc : Nat → List UInt8, acc = fun i => [112, 97, 99, 107, 97, 103, 101, 32] ++ t.text ++ [10] ++ ((t.kids.take i).map g).flatten := ⟨_, rfl⟩
 have AL := hid (show ∀ i, (acc i).length ≤ 10000000000000 by
  intro i
  have h1 := flat_len (p := g) (l := t.kids.take i) fun x hx => hgl x (List.mem_of_mem_take hx)
  have h2 := sizeL_take t.kids i
  rw [hacc]
  simp only [List.length_append, List.length_cons, List.length_nil]
  omega)
 have QL := hid (show ∀ x ∈ t.kids, (declT (typF f) (exT f) (stT f) x).length ≤ 10000000000000 from fun x hx => by
  have h1 := declT_len (f := f) hf (by have := Nd.size_kid hx; omega) (hkb x hx)
  have := Nd.size_kid hx
  omega)
 have AN := hid (show ∀ i (h : i < t.kids.length), acc (i + 1) = acc i ++ g t.kids[i] by
  intro i h
  rw [hacc]
  show _ ++ _ = (_ ++ _) ++ _
  rw [List.take_add_one, List.getElem?_eq_getElem h, List.map_append, List.flatten_append]
  simp)
 have AZ := hid (show acc 0 = [112, 97, 99, 107, 97, 103, 101, 32] ++ t.text ++ [10] by rw [hacc]; simp)
 have HR := hid (show r = acc t.kids.length by
  rw [hr, hacc, hg]
  show _ = _ ++ _
  rw [List.take_length]
  unfold fileT dlT
  rfl)
 have GE := hid (show ∀ x, g x = [10] ++ (declT (typF f) (exT f) (stT f) x ++ [10]) by intro x; rw [hg]; unfold dlT; simp)
 have CD := hid fun x (hx : x ∈ t.kids) v' W (hv' : NdV none' W x v') => rdeclt_any f hf (rall7 f (by omega)).1 (rall7 f (by omega)).2 x (by have := Nd.size_kid hx; omega) (hkb x hx) v' W hv'
 obtain ⟨tk, htk⟩ : ∃ k, t.kind = k := ⟨_, rfl⟩
 have HTK := hid htk
 rw [htk] at HV ⊢
 obtain ⟨tx, htx⟩ : ∃ k, t.text = k := ⟨_, rfl⟩
 have HTX := hid htx
 rw [htx] at HV htl AZ ⊢
 obtain ⟨B, W0, hB, hW0, X0, G0⟩ := boxed w (.cells #[.int .i64 tk, .string ⟨tx.toArray⟩, .slice a1 t.kids.length cap1, .int .i64 t.pos] 24)
 have XX := hid (Ext.refl none' W0)
 clear hr htx ht hf htk he htn hkb hsz hg hgl hacc
 go_enter Tryz.func17, Tryz.ntmps17
 go_upto_region 1 with (fail)
 rw [← hW0, ← hB]
 clear hW0 hB
 have cat11 := str_cat ([112, 97, 99, 107, 97, 103, 101, 32]) (tx)
 have cat12 := str_cat ([112, 97, 99, 107, 97, 103, 101, 32] ++ tx) ([10])
 simp only [List.append_assoc, List.cons_append, List.nil_append] at cat11 cat12
 obtain ⟨c0, c1, c2, c3⟩ := cellx XX.out G0.out
 go_wp2_with fail
 clear c0 c1 c2 c3
 go_loopw [3, 4] (fun o z wr => ∃ (i : Nat), z = .int .i64 (i : Nat) ∧ i ≤ t.kids.length ∧ o = .string ⟨(acc i).toArray⟩ ∧ Hid (Ext none' W0 wr)) (fun _ z _ => t.kids.length - (RowKit.intOf z).toNat)
 case atStart => exact ⟨0, rfl, by omega, by rw [AZ.out]; try simp, XX⟩
 case round =>
  obtain ⟨i, rfl, hle, rfl, RR⟩ := hrel
  have c2 := cell_at (RR.out.heap G0.out fun h => h) 2
  simp only [List.getElem?_toArray, List.getElem?_cons_zero, List.getElem?_cons_succ] at c2
  have hal := AL.out i
  by_cases hi : i < t.kids.length
  · obtain ⟨b5, off5, cs5, rfl, _, hw5, hcc5, ht5⟩ := (HY.out.ext isNd_good (X0.out.trans RR.out) fun _ _ h => h).at i hi
    obtain ⟨x5, rfl, hx5⟩ := ht5.parts
    have d0 := hcc5 0 _ rfl
    have d1 := hcc5 1 _ rfl
    have d2 := hcc5 2 _ rfl
    have d3 := hcc5 3 _ rfl
    simp only [Nat.add_zero] at d0
    have hmem := List.getElem_mem hi
    have HX5 := hid hx5
    obtain ⟨a6, cap6, rfl, _⟩ := hx5
    have hpl := QL.out _ hmem
    have CQ := hid fun W (X : Ext none' wr W) => CD.out t.kids[i] hmem (.agg #[.int .i64 t.kids[i].kind, .string ⟨t.kids[i].text.toArray⟩, .slice a6 t.kids[i].kids.length cap6, .int .i64 t.kids[i].pos]) W ⟨_, rfl, HX5.out.ext isNd_good X fun _ _ h => h⟩
    have N := hid ((AN.out i hi).trans (congrArg _ (GE.out _)))
    obtain ⟨p, hp⟩ : ∃ p, t.kids[i] = p := ⟨_, rfl⟩
    rw [hp] at d0 d1 d3 CQ hpl N
    simp only [hp] at d2
    obtain ⟨q1, hq1⟩ : ∃ q, declT (typF f) (exT f) (stT f) p = q := ⟨_, rfl⟩
    rw [hq1] at CQ hpl N
    obtain ⟨o1, ho1⟩ : ∃ o, acc i = o := ⟨_, rfl⟩
    rw [ho1] at N hal ⊢
    clear hcc5 ht5 hmem hp HX5 hq1 hw5 ho1
    have cat13 := str_cat ([10]) (q1)
    have cat14 := str_cat ([10] ++ q1) ([10])
    have cat15 := str_cat (o1) ([10] ++ q1 ++ [10])
    simp only [List.append_assoc, List.cons_append, List.nil_append] at cat13 cat14 cat15
    go_wp2_with fail
    refine (CQ.out _ (Ext.refl none' _)).mono ?_
    rintro e W5 ⟨rfl, X5⟩
    have XN := hid (RR.out.trans X5)
    clear d0 d1 d2 d3 c2 X5
    go_wp2_with fail
    go_roundw
    case rel => exact ⟨i + 1, by go_num, by omega, by first | (rw [N.out]; done) | (rw [N.out]; simp), XN⟩
    case measure => simp [RowKit.intOf]; omega
  · obtain rfl : i = t.kids.length := by omega
    obtain ⟨o1, ho1⟩ : ∃ o, acc t.kids.length = o := ⟨_, rfl⟩
    rw [ho1] at HR hal ⊢
    clear ho1
    go_wp2_with fail
    go_ret
    exact ⟨by first | (rw [HR.out]; done) | (rw [HR.out]; rfl), X0.out.trans RR.out⟩
def RTextPost (p : Bool) (q : List UInt8) (w : World) (e : Ending) (w' : World) : Prop := e = .returned (.tuple #[.string ⟨(if p then q else []).toArray⟩, .bool p]) ∧ Ext none' w w'
theorem rtext_decl (f : Nat) (hf : f + 1 ≤ 1100000) (t : Nd) (ht : t.size ≤ f + 1) (v : Value) (w : World) (hv : NdV none' w t v) :
 Calls Tryz.prog 11 #[v, .string ⟨#[100, 101, 99, 108, 97, 114, 97, 116, 105, 111, 110]⟩] w (RTextPost (rightB (declB (tyF nmB f) (exF f) (stF f) t) t) (declT (typF f) (exT f) (stT f) t) w) := by
 have CR := hid fun W (X : Ext none' w W) => rright_decl f (by unfold bigD; omega) t ht v W (hv.ext X fun _ _ h => h)
 have CQ := hid fun (hp : rightB (declB (tyF nmB f) (exF f) (stF f) t) t = true) W (X : Ext none' w W) => (show Calls Tryz.prog 26 #[v] W (StrPost (declT (typF f) (exT f) (stT f) t) W) from rdeclt_any f hf (rall7 f (by omega)).1 (rall7 f (by omega)).2 t ht (rightB_p hp) v W (hv.ext X fun _ _ h => h))
 obtain ⟨p, hp⟩ : ∃ p, rightB (declB (tyF nmB f) (exF f) (stF f) t) t = p := ⟨_, rfl⟩
 obtain ⟨q, hq⟩ : ∃ q, declT (typF f) (exT f) (stT f) t = q := ⟨_, rfl⟩
 rw [hp] at CR CQ ⊢
 rw [hq] at CQ ⊢
 clear hp hq hf ht
 obtain ⟨x, rfl, hx⟩ := hv
 obtain ⟨a1, cap1, rfl, _⟩ := hx
 obtain ⟨B, W1, hB, hW1, X1, G0⟩ := boxed w (.cells #[.int .i64 t.kind, .string ⟨t.text.toArray⟩, .slice a1 t.kids.length cap1, .int .i64 t.pos] 24)
 go_enter Tryz.func11, Tryz.ntmps11
 go_upto_region 1 with (fail)
 rw [← hW1, ← hB]
 clear hW1 hB
 obtain ⟨c0, c1, c2, c3⟩ := cell4 G0.out
 go_wp2_with fail
 refine (CR.out _ X1.out).mono ?_
 rintro e W2 ⟨rfl, X2⟩
 have G0 := hid (X2.heap G0.out fun h => h)
 have X2 := hid (X1.out.trans X2)
 clear c0 c1 c2 c3
 obtain ⟨c0, c1, c2, c3⟩ := cell4 G0.out
 cases p
 case false =>
  go_wp2_with fail
  go_ret2
  exact ⟨rfl, X2.out⟩
 have CC := hid (CQ.out rfl)
 clear CQ
 go_wp2_with fail
 refine (CC.out _ X2.out).mono ?_
 rintro e W3 ⟨rfl, X3⟩
 have X3 := hid (X2.out.trans X3)
 clear c0 c1 c2 c3
 go_wp2_with fail
 go_ret2
 exact ⟨rfl, X3.out⟩
theorem rtext_type (f : Nat) (hf : f ≤ 1100000) (t : Nd) (ht : t.size ≤ f) (v : Value) (w : World) (hv : NdV none' w t v) :
 Calls Tryz.prog 11 #[v, .string ⟨#[116, 121, 112, 101]⟩] w (RTextPost (rightB (tyF nmB f t) t) (typF f t) w) := by
 have CR := hid fun W (X : Ext none' w W) => rright_type f (by unfold bigD; omega) t ht v W (hv.ext X fun _ _ h => h)
 have CQ := hid fun (hp : rightB (tyF nmB f t) t = true) W (X : Ext none' w W) => (show Calls Tryz.prog 27 #[v] W (StrPost (typF f t) W) from rtx_any f hf t ht (rightB_p hp) v W (hv.ext X fun _ _ h => h))
 obtain ⟨p, hp⟩ : ∃ p, rightB (tyF nmB f t) t = p := ⟨_, rfl⟩
 obtain ⟨q, hq⟩ : ∃ q, typF f t = q := ⟨_, rfl⟩
 rw [hp] at CR CQ ⊢
 rw [hq] at CQ ⊢
 clear hp hq hf ht
 obtain ⟨x, rfl, hx⟩ := hv
 obtain ⟨a1, cap1, rfl, _⟩ := hx
 obtain ⟨B, W1, hB, hW1, X1, G0⟩ := boxed w (.cells #[.int .i64 t.kind, .string ⟨t.text.toArray⟩, .slice a1 t.kids.length cap1, .int .i64 t.pos] 24)
 go_enter Tryz.func11, Tryz.ntmps11
 go_upto_region 1 with (fail)
 rw [← hW1, ← hB]
 clear hW1 hB
 obtain ⟨c0, c1, c2, c3⟩ := cell4 G0.out
 go_wp2_with fail
 refine (CR.out _ X1.out).mono ?_
 rintro e W2 ⟨rfl, X2⟩
 have G0 := hid (X2.heap G0.out fun h => h)
 have X2 := hid (X1.out.trans X2)
 clear c0 c1 c2 c3
 obtain ⟨c0, c1, c2, c3⟩ := cell4 G0.out
 cases p
 case false =>
  go_wp2_with fail
  go_ret2
  exact ⟨rfl, X2.out⟩
 have CC := hid (CQ.out rfl)
 clear CQ
 go_wp2_with fail
 refine (CC.out _ X2.out).mono ?_
 rintro e W3 ⟨rfl, X3⟩
 have X3 := hid (X2.out.trans X3)
 clear c0 c1 c2 c3
 go_wp2_with fail
 go_ret2
 exact ⟨rfl, X3.out⟩
theorem rtext_expr (f : Nat) (hf : f ≤ 1100000) (t : Nd) (ht : t.size ≤ f) (v : Value) (w : World) (hv : NdV none' w t v) :
 Calls Tryz.prog 11 #[v, .string ⟨#[101, 120, 112, 114, 101, 115, 115, 105, 111, 110]⟩] w (RTextPost (rightB (exF f t) t) (exT f 0 false t) w) := by
 have CR := hid fun W (X : Ext none' w W) => rright_expr f (by unfold bigD; omega) t ht v W (hv.ext X fun _ _ h => h)
 have CQ := hid fun (hp : rightB (exF f t) t = true) W (X : Ext none' w W) => (show Calls Tryz.prog 28 #[v, .int .i64 0, .bool false] W (StrPost (exT f 0 false t) W) from (rall7 f hf).1 0 false (by omega) t ht (rightB_p hp) v W (hv.ext X fun _ _ h => h))
 obtain ⟨p, hp⟩ : ∃ p, rightB (exF f t) t = p := ⟨_, rfl⟩
 obtain ⟨q, hq⟩ : ∃ q, exT f 0 false t = q := ⟨_, rfl⟩
 rw [hp] at CR CQ ⊢
 rw [hq] at CQ ⊢
 clear hp hq hf ht
 obtain ⟨x, rfl, hx⟩ := hv
 obtain ⟨a1, cap1, rfl, _⟩ := hx
 obtain ⟨B, W1, hB, hW1, X1, G0⟩ := boxed w (.cells #[.int .i64 t.kind, .string ⟨t.text.toArray⟩, .slice a1 t.kids.length cap1, .int .i64 t.pos] 24)
 go_enter Tryz.func11, Tryz.ntmps11
 go_upto_region 1 with (fail)
 rw [← hW1, ← hB]
 clear hW1 hB
 obtain ⟨c0, c1, c2, c3⟩ := cell4 G0.out
 go_wp2_with fail
 refine (CR.out _ X1.out).mono ?_
 rintro e W2 ⟨rfl, X2⟩
 have G0 := hid (X2.heap G0.out fun h => h)
 have X2 := hid (X1.out.trans X2)
 clear c0 c1 c2 c3
 obtain ⟨c0, c1, c2, c3⟩ := cell4 G0.out
 cases p
 case false =>
  go_wp2_with fail
  go_ret2
  exact ⟨rfl, X2.out⟩
 have CC := hid (CQ.out rfl)
 clear CQ
 go_wp2_with fail
 refine (CC.out _ X2.out).mono ?_
 rintro e W3 ⟨rfl, X3⟩
 have X3 := hid (X2.out.trans X3)
 clear c0 c1 c2 c3
 go_wp2_with fail
 go_ret2
 exact ⟨rfl, X3.out⟩
theorem rtext_stmt (f : Nat) (hf : f ≤ 1100000) (t : Nd) (ht : t.size ≤ f) (v : Value) (w : World) (hv : NdV none' w t v) :
 Calls Tryz.prog 11 #[v, .string ⟨#[115, 116, 97, 116, 101, 109, 101, 110, 116]⟩] w (RTextPost (rightB (stF f t) t) (stT f 0 t) w) := by
 have CR := hid fun W (X : Ext none' w W) => rright_stmt f (by unfold bigD; omega) t ht v W (hv.ext X fun _ _ h => h)
 have CQ := hid fun (hp : rightB (stF f t) t = true) W (X : Ext none' w W) => (show Calls Tryz.prog 29 #[v, .int .i64 0, .bool false] W (StrPost (stT f 0 t) W) from (rall7 f hf).2 0 (by omega) t ht (rightB_p hp) v W (hv.ext X fun _ _ h => h))
 obtain ⟨p, hp⟩ : ∃ p, rightB (stF f t) t = p := ⟨_, rfl⟩
 obtain ⟨q, hq⟩ : ∃ q, stT f 0 t = q := ⟨_, rfl⟩
 rw [hp] at CR CQ ⊢
 rw [hq] at CQ ⊢
 clear hp hq hf ht
 obtain ⟨x, rfl, hx⟩ := hv
 obtain ⟨a1, cap1, rfl, _⟩ := hx
 obtain ⟨B, W1, hB, hW1, X1, G0⟩ := boxed w (.cells #[.int .i64 t.kind, .string ⟨t.text.toArray⟩, .slice a1 t.kids.length cap1, .int .i64 t.pos] 24)
 go_enter Tryz.func11, Tryz.ntmps11
 go_upto_region 1 with (fail)
 rw [← hW1, ← hB]
 clear hW1 hB
 obtain ⟨c0, c1, c2, c3⟩ := cell4 G0.out
 go_wp2_with fail
 refine (CR.out _ X1.out).mono ?_
 rintro e W2 ⟨rfl, X2⟩
 have G0 := hid (X2.heap G0.out fun h => h)
 have X2 := hid (X1.out.trans X2)
 clear c0 c1 c2 c3
 obtain ⟨c0, c1, c2, c3⟩ := cell4 G0.out
 cases p
 case false =>
  go_wp2_with fail
  go_ret2
  exact ⟨rfl, X2.out⟩
 have CC := hid (CQ.out rfl)
 clear CQ
 go_wp2_with fail
 refine (CC.out _ X2.out).mono ?_
 rintro e W3 ⟨rfl, X3⟩
 have X3 := hid (X2.out.trans X3)
 clear c0 c1 c2 c3
 go_wp2_with fail
 go_ret2
 exact ⟨rfl, X3.out⟩
theorem rtext_none (s : List UInt8) (n0 : s ≠ [100, 101, 99, 108, 97, 114, 97, 116, 105, 111, 110]) (n1 : s ≠ [116, 121, 112, 101]) (n2 : s ≠ [101, 120, 112, 114, 101, 115, 115, 105, 111, 110]) (n3 : s ≠ [115, 116, 97, 116, 101, 109, 101, 110, 116]) (t : Nd) (p : Bool) (hr : ∀ v w, NdV none' w t v → Calls Tryz.prog 16 #[v, .string ⟨s.toArray⟩] w (BoolP p w)) (v : Value) (w : World) (hv : NdV none' w t v) :
 Calls Tryz.prog 11 #[v, .string ⟨s.toArray⟩] w (RTextPost false [] w) := by
 have CR := hid fun W (X : Ext none' w W) => hr v W (hv.ext X fun _ _ h => h)
 have m0 : (s == [100, 101, 99, 108, 97, 114, 97, 116, 105, 111, 110]) = false := by simpa using n0
 have m1 : (s == [116, 121, 112, 101]) = false := by simpa using n1
 have m2 : (s == [101, 120, 112, 114, 101, 115, 115, 105, 111, 110]) = false := by simpa using n2
 have m3 : (s == [115, 116, 97, 116, 101, 109, 101, 110, 116]) = false := by simpa using n3
 clear n0 n1 n2 n3 hr
 obtain ⟨x, rfl, hx⟩ := hv
 obtain ⟨a1, cap1, rfl, _⟩ := hx
 obtain ⟨B, W1, hB, hW1, X1, G0⟩ := boxed w (.cells #[.int .i64 t.kind, .string ⟨t.text.toArray⟩, .slice a1 t.kids.length cap1, .int .i64 t.pos] 24)
 go_enter Tryz.func11, Tryz.ntmps11
 go_upto_region 1 with (fail)
 rw [← hW1, ← hB]
 clear hW1 hB
 obtain ⟨c0, c1, c2, c3⟩ := cell4 G0.out
 go_wp2_with fail
 refine (CR.out _ X1.out).mono ?_
 rintro e W2 ⟨rfl, X2⟩
 have G0 := hid (X2.heap G0.out fun h => h)
 have X2 := hid (X1.out.trans X2)
 clear c0 c1 c2 c3
 cases p
 case false =>
  go_wp2_with fail
  go_ret2
  exact ⟨rfl, X2.out⟩
 go_wp2_with fail
 go_ret2
 exact ⟨rfl, X2.out⟩
theorem look_none {w : World} {r clock : Nat} {es : Array MapEntry} {mt : TypeId} (hu : Tryz.prog.underlying mt = some (.map 9 40)) (n : List UInt8) (hb : w.heap[r]? = some (.map es clock)) (hf : Instr.findNow .string (.string ⟨n.toArray⟩) es.toList 0 = some none) :
 (Instr.lookup mt (.map (some r)) (.string ⟨n.toArray⟩) false).run Tryz.prog w = .ok .nilFunc w := by
 have hc : ∀ b, (Instr.checkKey b 10000 9 (.string ⟨n.toArray⟩)).run Tryz.prog w = .ok () w := fun b => MapKept.run_checkKey (k := .string ⟨n.toArray⟩) Tryz.underlying9 (by simp [MapKept.IsKey]) b 9999
 have hz : (zeroValue 40).run Tryz.prog w = .ok .nilFunc w := by kernel_rfl
 simp [Instr.lookup, run_underlying hu, MapKept.run_getObj_map hb, hc, MapKept.run_findKey Tryz.underlying9 hf, Result.andThen, hz]
theorem run_nil_nil (W : World) : (binOp .eql 40 .nilFunc .nilFunc).run Tryz.prog W = .ok (.bool true) W := by kernel_rfl
theorem shtext_none (s : List UInt8) (n0 : s ≠ [100, 101, 99, 108, 97, 114, 97, 116, 105, 111, 110]) (n1 : s ≠ [116, 121, 112, 101]) (n2 : s ≠ [101, 120, 112, 114, 101, 115, 115, 105, 111, 110]) (n3 : s ≠ [115, 116, 97, 116, 101, 109, 101, 110, 116]) (t : Nd) (v : Value) (w : World) (hv : NdV none' w t v) : Calls Tryz.prog 10 #[v, .string ⟨s.toArray⟩] w (TextPost false [] w) := by
 have hs : Instr.findNow .string (.string ⟨s.toArray⟩) tellE.toList 0 = some none := by
  have k : ∀ (l : List UInt8), s ≠ l → (ByteArray.mk s.toArray == ByteArray.mk l.toArray) = false := fun l h => by
   rw [Bool.eq_false_iff]
   intro e
   have e : s.toArray == l.toArray := e
   simp at e
   exact h e
  have k0 := k _ n0
  have k1 := k _ n1
  have k2 := k _ n2
  have k3 := k _ n3
  simp [tellE, Instr.findNow, Instr.sameNow, sDecl, sType, sExpr, sStmt, k0, k1, k2, k3]
 obtain ⟨x, rfl, hx⟩ := hv
 obtain ⟨a1, cap1, rfl, _⟩ := hx
 obtain ⟨N, hN⟩ : ∃ N, N = w.alloc (.cells #[.int .i64 t.kind, .string ⟨t.text.toArray⟩, .slice a1 t.kids.length cap1, .int .i64 t.pos] 24) := ⟨_, rfl⟩
 have hXN : Ext none' w N := by rw [hN]; exact (Ext.refl _ _).alloc _
 have hmm := @run_makeMap Tryz.prog
 have hz : N.heap.size = w.heap.size + 1 := by rw [hN]; simp
 have b0 : (N.alloc (.map #[] 0)).heap[w.heap.size + 1]? = some (.map #[] 0) := heap_alloc_at hz.symm _
 have x0 : Ext none' N (N.alloc (.map #[] 0)) := (Ext.refl _ _).alloc _
 have hu := Tryz.underlying51
 obtain ⟨W1, e1, b1, f1⟩ := insT_ex hu sDecl (fnV 21) b0 rfl
 have x1 := f1 N x0 (by omega)
 obtain ⟨W2, e2, b2, f2⟩ := insT_ex hu sType (fnV 22) b1 rfl
 have x2 := f2 N x1 (by omega)
 obtain ⟨W3, e3, b3, f3⟩ := insT_ex hu sExpr (.func (.func 23) #[shower0] #[]) b2 rfl
 have x3 := f3 N x2 (by omega)
 obtain ⟨W4, e4, b4, f4⟩ := insT_ex hu sStmt (.func (.func 24) #[shower0] #[]) b3 rfl
 have x4 := f4 N x3 (by omega)
 have lk := look_none hu s b4 hs
 have X := hid (hXN.trans x4)
 simp only [sDecl, sType, sExpr, sStmt, fnV, shower0] at e1 e2 e3 e4
 rw [hN] at e1
 clear hz b0 x0 b1 x1 b2 x2 b3 x3 b4 x4 f1 f2 f3 f4 hu hXN hs hN n0 n1 n2 n3
 go_enter Tryz.func10, Tryz.ntmps10
 have hne := run_nil_nil
 go_wp2_with (fail)
 go_ret2
 exact ⟨rfl, X.out⟩
end Go.Proofs.YthbmjamgidfneaaGreatDoor
namespace Go.Proofs.YthbmjamgidfneaaGreatDoor
open Go.RowKit Go.Lib Go.BigFrame
set_option linter.unusedVariables false
theorem small_any (t : Nd) (m : Nat) (hm : m ≤ 1000000) (ht : t.size ≤ bigD) (v : Value) (w : World) (hv : NdV none' w t v) :
 Calls Tryz.prog 9 #[v, .int .i64 (m : Nat)] w (BoolP (decide (sizeD 1000 t ≤ m)) w) := by
 have CZ := hid fun W (X : Ext none' w W) => nsize_any 1000 (by omega) t ht none' v W (hv.ext X fun _ _ h => h)
 obtain ⟨x, rfl, hx⟩ := hv
 obtain ⟨a1, cap1, rfl, _⟩ := hx
 have hz := sizeD_le 1000 t
 obtain ⟨z, hz'⟩ : ∃ z, sizeD 1000 t = z := ⟨_, rfl⟩
 rw [hz'] at CZ hz ⊢
 have hzb : z ≤ 20000000000 := by unfold bigD at ht; omega
 obtain ⟨r, hr⟩ : ∃ r, decide (z ≤ m) = r := ⟨_, rfl⟩
 rw [hr]
 have HR := hid hr
 clear hz' hz ht hr
 go_enter Tryz.func9, Tryz.ntmps9
 go_wp2_with fail
 refine (CZ.out _ ((Ext.refl _ _).alloc _)).mono ?_
 rintro e W2 ⟨rfl, X2⟩
 go_wp2_with fail
 go_ret
 exact ⟨by show Ending.returned (.bool (decide (z ≤ m))) = _; rw [HR.out], ((Ext.refl _ _).alloc _).trans X2⟩
def NodeV (k : Int) (s : List UInt8) (u : Value) (w : World) (e : Ending) (w' : World) : Prop := e = .returned (.agg #[.int .i64 k, .string ⟨s.toArray⟩, u, .int .i64 0]) ∧ Ext none' w w'
theorem node_any (k : Int) (s : List UInt8) (a : Option Addr) (n cap : Nat) (w : World) :
 Calls Tryz.prog 14 #[.int .i64 k, .string ⟨s.toArray⟩, .slice a n cap] w (NodeV k s (.slice a n cap) w) := by
 obtain ⟨B, W0, hB, hW0, X0, G1⟩ := boxed w (.cells #[.int .i64 0, .string ⟨#[]⟩, .slice none 0 0, .int .i64 0] 24)
 have HB := hid hB
 go_enter Tryz.func14, Tryz.ntmps14
 go_upto_region 1 with (fail)
 rw [← hW0, ← hB]
 clear hW0 hB
 have f0 := free_at G1.out 0
 have f1 := free_at G1.out 1
 have f2 := free_at G1.out 2
 have f3 := free_at G1.out 3
 obtain ⟨e0, e1, e2, e3⟩ := cell4 G1.out
 go_wp2_with fail
 refine ret_nd rfl rfl (set4n G1.out _ _ _ _) rfl ?_
 exact ⟨rfl, X0.out.set4 (b := B) (.inr (by rw [HB.out]; omega)) _ _ _ _⟩
theorem isSl_lit {α : Type} {sz : Nat} {R : Lay α} {A : Nat → Prop} {w : World} {b cap : Nat} {cs : Array Value} {t : TypeId} {fz : Nat × Nat} (h : w.heap[b]? = some (.cells cs t fz)) (xs : List α) (hA : ¬ A b) (hc : xs.length ≤ cap)
 (hx : ∀ i (h : i < xs.length), R A w xs[i] ((cs.toList.drop (i * sz)).take sz)) : IsSl sz R A w (.slice (some ⟨b, 0, none⟩) xs.length cap) xs :=
 ⟨_, cap, rfl, hc, (fun h => by cases h), fun _ => ⟨b, 0, rfl, hA, heap_lt h, fun i hi => ⟨_, fun j v hj => by
  have hjs : j < sz := by
   have := (List.getElem?_eq_some_iff.1 hj).1
   rw [List.length_take] at this
   omega
  rw [List.getElem?_take_of_lt hjs, List.getElem?_drop] at hj
  rw [cell_at h, Nat.zero_add, ← hj]
  simp, hx i hi⟩⟩⟩
def awA : Nd := .mk 18 [97] [] 0
def awB : Nd := .mk 18 [98] [] 0
def awC : Nd := .mk 18 [99] [] 0
def awSum : Nd := .mk 20 [43] [awA, awB] 0
def awMin : Nd := .mk 19 [45] [awSum] 0
def awAll : Nd := .mk 20 [42] [awMin, awC] 0
def awText : List UInt8 := [45, 40, 97, 32, 43, 32, 98, 41, 32, 42, 32, 99]
theorem aw_right : rightB (exF 12 awAll) awAll = true := by kernel_rfl
theorem aw_text : exT 12 0 false awAll = awText := by kernel_rfl
theorem aw_size : awAll.size ≤ 12 := by decide
end Go.Proofs.YthbmjamgidfneaaGreatDoor
namespace Go.Proofs.YthbmjamgidfneaaGreatDoor
open Go.RowKit Go.Lib Go.BigFrame
set_option linter.unusedVariables false
set_option linter.unusedSimpArgs false
theorem isNd_two {w : World} {b : Nat} {cs : Array Value} {t : TypeId} {fz : Nat × Nat} (h : w.heap[b]? = some (.cells cs t fz)) (x y : Nd)
 (hx : IsNd none' w x (cs.toList.take 4)) (hy : IsNd none' w y ((cs.toList.drop 4).take 4)) : IsSl 4 IsNd none' w (.slice (some ⟨b, 0, none⟩) 2 2) [x, y] :=
 isSl_lit (xs := [x, y]) h (fun h => h) (by simp) (fun i hi => by
  have h' : i < 2 := hi
  have hi : i = 0 ∨ i = 1 := by omega
  rcases hi with rfl | rfl
  · simpa using hx
  · exact hy)
theorem isNd_one {w : World} {b : Nat} {cs : Array Value} {t : TypeId} {fz : Nat × Nat} (h : w.heap[b]? = some (.cells cs t fz)) (x : Nd)
 (hx : IsNd none' w x (cs.toList.take 4)) : IsSl 4 IsNd none' w (.slice (some ⟨b, 0, none⟩) 1 1) [x] :=
 isSl_lit (xs := [x]) h (fun h => h) (by simp) (fun i hi => by
  have h' : i < 1 := hi
  obtain rfl : i = 0 := by omega
  simpa using hx)
theorem isNd_leaf (k : Int) (s : List UInt8) (w : World) : IsNd none' w (.mk k s [] 0) [.int .i64 k, .string ⟨s.toArray⟩, .slice none 0 0, .int .i64 0] := IsNd.of (IsSl.nil _ _ _ _)
theorem awake_any (w : World) (hm : MaxL w) : Calls Tryz.prog 12 #[] w (TruePost w) := by
 have CT := hid fun W (X : Ext none' w W) u (hu : NdV none' W awAll u) => exprText_any 12 (by omega) awAll aw_size u W (maxL_later hm X) hu
 rw [aw_right, aw_text] at CT
 go_enter Tryz.func12, Tryz.ntmps12
 go_wp2_with fail
 refine (node_any 18 [97] none 0 0 _).mono ?_
 rintro e W1 ⟨rfl, X1⟩
 go_wp2_with fail
 refine (node_any 18 [98] none 0 0 _).mono ?_
 rintro e W2 ⟨rfl, X2⟩
 have X2 := hid (X1.trans X2)
 clear X1
 go_wp2_with fail
 obtain ⟨B3, hB3⟩ : ∃ B, B = W2.heap.size := ⟨_, rfl⟩
 obtain ⟨W3, hW3⟩ : ∃ W, W = W2.alloc (.cells #[.int .i64 18, .string ⟨#[97]⟩, .slice none 0 0, .int .i64 0, .int .i64 18, .string ⟨#[98]⟩, .slice none 0 0, .int .i64 0] 24) := ⟨_, rfl⟩
 rw [← hW3, ← hB3]
 have X3 := hid (show Ext none' w W3 by rw [hW3]; exact X2.out.alloc _)
 have G3 := hid (show W3.heap[B3]? = some (.cells #[.int .i64 18, .string ⟨#[97]⟩, .slice none 0 0, .int .i64 0, .int .i64 18, .string ⟨#[98]⟩, .slice none 0 0, .int .i64 0] 24 (0, 0)) by rw [hW3]; exact heap_alloc_at hB3 _)
 clear hW3 hB3
 refine (node_any 20 [43] _ 2 2 _).mono ?_
 rintro e W4 ⟨rfl, X4⟩
 have G3 := hid (X4.heap G3.out fun h => h)
 have X4 := hid (X3.out.trans X4)
 go_wp2_with fail
 obtain ⟨B5, hB5⟩ : ∃ B, B = W4.heap.size + 1 := ⟨_, rfl⟩
 obtain ⟨W5, hW5⟩ : ∃ W, W = (W4.alloc (.cells #[.int .i64 20, .string ⟨#[43]⟩, .slice (some ⟨B3, 0, none⟩) 2 2, .int .i64 0] 24)).alloc (.cells #[.int .i64 20, .string ⟨#[43]⟩, .slice (some ⟨B3, 0, none⟩) 2 2, .int .i64 0] 24) := ⟨_, rfl⟩
 rw [← hW5, ← hB5]
 have X5 := hid (show Ext none' W4 W5 by rw [hW5]; exact ((Ext.refl _ _).alloc _).alloc _)
 have G5 := hid (show W5.heap[B5]? = some (.cells #[.int .i64 20, .string ⟨#[43]⟩, .slice (some ⟨B3, 0, none⟩) 2 2, .int .i64 0] 24 (0, 0)) by rw [hW5]; exact heap_alloc_at (by rw [hB5]; simp) _)
 have G3 := hid (X5.out.heap G3.out fun h => h)
 have X5 := hid (X4.out.trans X5.out)
 clear hW5 hB5
 refine (node_any 19 [45] _ 1 1 _).mono ?_
 rintro e W6 ⟨rfl, X6⟩
 have G3 := hid (X6.heap G3.out fun h => h)
 have G5 := hid (X6.heap G5.out fun h => h)
 have X6 := hid (X5.out.trans X6)
 go_wp2_with fail
 refine (node_any 18 [99] none 0 0 _).mono ?_
 rintro e W7 ⟨rfl, X7⟩
 have G3 := hid (X7.heap G3.out fun h => h)
 have G5 := hid (X7.heap G5.out fun h => h)
 have X7 := hid (X6.out.trans X7)
 go_wp2_with fail
 obtain ⟨B8, hB8⟩ : ∃ B, B = W7.heap.size := ⟨_, rfl⟩
 obtain ⟨W8, hW8⟩ : ∃ W, W = W7.alloc (.cells #[.int .i64 19, .string ⟨#[45]⟩, .slice (some ⟨B5, 0, none⟩) 1 1, .int .i64 0, .int .i64 18, .string ⟨#[99]⟩, .slice none 0 0, .int .i64 0] 24) := ⟨_, rfl⟩
 rw [← hW8, ← hB8]
 have X8 := hid (show Ext none' W7 W8 by rw [hW8]; exact (Ext.refl _ _).alloc _)
 have G8 := hid (show W8.heap[B8]? = some (.cells #[.int .i64 19, .string ⟨#[45]⟩, .slice (some ⟨B5, 0, none⟩) 1 1, .int .i64 0, .int .i64 18, .string ⟨#[99]⟩, .slice none 0 0, .int .i64 0] 24 (0, 0)) by rw [hW8]; exact heap_alloc_at hB8 _)
 have G3 := hid (X8.out.heap G3.out fun h => h)
 have G5 := hid (X8.out.heap G5.out fun h => h)
 have X8 := hid (X7.out.trans X8.out)
 clear hW8 hB8
 refine (node_any 20 [42] _ 2 2 _).mono ?_
 rintro e W9 ⟨rfl, X9⟩
 have G3 := hid (X9.heap G3.out fun h => h)
 have G5 := hid (X9.heap G5.out fun h => h)
 have G8 := hid (X9.heap G8.out fun h => h)
 have X9 := hid (X8.out.trans X9)
 go_wp2_with fail
 refine (CT.out _ X9.out _ ⟨_, rfl, isNd_two G8.out awMin awC (IsNd.of (isNd_one G5.out awSum (IsNd.of (isNd_two G3.out awA awB (isNd_leaf _ _ _) (isNd_leaf _ _ _))))) (isNd_leaf _ _ _)⟩).mono ?_
 rintro e W10 ⟨rfl, X10⟩
 have X10 := hid (X9.out.trans X10)
 have ht := (show (awText == awText) = true by simp)
 unfold awText at ht ⊢
 go_wp2_with fail
 go_ret
 exact ⟨rfl, X10.out⟩
theorem law_texts_of (t : Nd) (hn : t.size ≤ 1048576) (s : List UInt8) (p : Bool) (q : List UInt8) (v : Value) (w : World) (hm : MaxL w)
 (hS : ∀ W v, MaxL W → NdV none' W t v → Calls Tryz.prog 10 #[v, .string ⟨s.toArray⟩] W (TextPost p q W))
 (hR : ∀ W v, NdV none' W t v → Calls Tryz.prog 11 #[v, .string ⟨s.toArray⟩] W (RTextPost p q W)) (hv : NdV none' w t v) :
 Calls Tryz.prog 3 #[v, .string ⟨s.toArray⟩] w (TruePost w) := by
 have CZ := hid fun W (X : Ext none' w W) => small_any t 1000 (by omega) (by unfold bigD; omega) v W (hv.ext X fun _ _ h => h)
 have CS := hid fun W (X : Ext none' w W) => hS W v (maxL_later hm X) (hv.ext X fun _ _ h => h)
 have CR := hid fun W (X : Ext none' w W) => hR W v (hv.ext X fun _ _ h => h)
 have CA := hid fun W (X : Ext none' w W) => awake_any W (maxL_later hm X)
 obtain ⟨z, hz⟩ : ∃ z, decide (sizeD 1000 t ≤ 1000) = z := ⟨_, rfl⟩
 rw [hz] at CZ
 clear hz hS hR
 obtain ⟨x, rfl, hx⟩ := hv
 obtain ⟨a1, cap1, rfl, _⟩ := hx
 obtain ⟨B, W0, hB, hW0, X0, G0⟩ := boxed w (.cells #[.int .i64 t.kind, .string ⟨t.text.toArray⟩, .slice a1 t.kids.length cap1, .int .i64 t.pos] 24)
 clear hn hm
 go_enter Tryz.func3, Tryz.ntmps3
 go_upto_region 1 with (fail)
 rw [← hW0, ← hB]
 clear hW0 hB
 obtain ⟨c0, c1, c2, c3⟩ := cell4 G0.out
 go_wp2_with fail
 refine (CZ.out _ X0.out).mono ?_
 rintro e W1 ⟨rfl, X1⟩
 have G0 := hid (X1.heap G0.out fun h => h)
 have X1 := hid (X0.out.trans X1)
 clear c0 c1 c2 c3
 obtain ⟨c0, c1, c2, c3⟩ := cell4 G0.out
 cases z
 case false =>
  go_wp2_with fail
  go_ret
  exact ⟨rfl, X1.out⟩
 by_cases hl : 100 < s.length
 case pos =>
  have z1 : (100 : Int) < (s.length : Int) := by omega
  have z2 : decide ((100 : Int) < (s.length : Int)) = true := by rw [decide_eq_true_iff]; omega
  go_wp2_with fail
  go_ret
  exact ⟨rfl, X1.out⟩
 have z1 : ¬ (100 : Int) < (s.length : Int) := by omega
 have z2 : decide ((100 : Int) < (s.length : Int)) = false := by rw [decide_eq_false_iff_not]; omega
 have eqq : (q == q) = true := by simp
 cases p
 case false =>
  go_wp2_with fail
  refine (CS.out _ X1.out).mono ?_
  rintro e W2 ⟨rfl, X2⟩
  have G0 := hid (X2.heap G0.out fun h => h)
  have X2 := hid (X1.out.trans X2)
  clear c0 c1 c2 c3
  obtain ⟨c0, c1, c2, c3⟩ := cell4 G0.out
  go_wp2_with fail
  refine (CR.out _ X2.out).mono ?_
  rintro e W3 ⟨rfl, X3⟩
  have G0 := hid (X3.heap G0.out fun h => h)
  have X3 := hid (X2.out.trans X3)
  clear c0 c1 c2 c3
  obtain ⟨c0, c1, c2, c3⟩ := cell4 G0.out
  go_wp2_with fail
  refine (CA.out _ X3.out).mono ?_
  rintro e W4 ⟨rfl, X4⟩
  have X4 := hid (X3.out.trans X4)
  clear c0 c1 c2 c3
  go_wp2_with fail
  go_ret
  exact ⟨rfl, X4.out⟩
 case true =>
  go_wp2_with fail
  refine (CS.out _ X1.out).mono ?_
  rintro e W2 ⟨rfl, X2⟩
  have G0 := hid (X2.heap G0.out fun h => h)
  have X2 := hid (X1.out.trans X2)
  clear c0 c1 c2 c3
  obtain ⟨c0, c1, c2, c3⟩ := cell4 G0.out
  go_wp2_with fail
  refine (CR.out _ X2.out).mono ?_
  rintro e W3 ⟨rfl, X3⟩
  have G0 := hid (X3.heap G0.out fun h => h)
  have X3 := hid (X2.out.trans X3)
  clear c0 c1 c2 c3
  obtain ⟨c0, c1, c2, c3⟩ := cell4 G0.out
  go_wp2_with fail
  refine (CA.out _ X3.out).mono ?_
  rintro e W4 ⟨rfl, X4⟩
  have X4 := hid (X3.out.trans X4)
  clear c0 c1 c2 c3
  go_wp2_with fail
  go_ret
  exact ⟨rfl, X4.out⟩
theorem law_texts (t : Nd) (hn : t.size ≤ 1048576) (s : List UInt8) (v : Value) (w : World) (hm : MaxL w) (hv : NdV none' w t v) :
 Calls Tryz.prog 3 #[v, .string ⟨s.toArray⟩] w (TruePost w) := by
 obtain ⟨f, hf⟩ : ∃ f, t.size = f + 1 := ⟨t.size - 1, by have := t.size_pos; omega⟩
 by_cases n0 : s = [100, 101, 99, 108, 97, 114, 97, 116, 105, 111, 110]
 · subst n0
   exact law_texts_of t hn _ _ _ v w hm (fun W v hm hv => declText_any f (by omega) t (by omega) v W hm hv) (fun W v hv => rtext_decl f (by omega) t (by omega) v W hv) hv
 by_cases n1 : s = [116, 121, 112, 101]
 · subst n1
   exact law_texts_of t hn _ _ _ v w hm (fun W v hm hv => typeText_any (f + 1) (by unfold bigD; omega) t (by omega) v W hv) (fun W v hv => rtext_type (f + 1) (by omega) t (by omega) v W hv) hv
 by_cases n2 : s = [101, 120, 112, 114, 101, 115, 115, 105, 111, 110]
 · subst n2
   exact law_texts_of t hn _ _ _ v w hm (fun W v hm hv => exprText_any (f + 1) (by omega) t (by omega) v W hm hv) (fun W v hv => rtext_expr (f + 1) (by omega) t (by omega) v W hv) hv
 by_cases n3 : s = [115, 116, 97, 116, 101, 109, 101, 110, 116]
 · subst n3
   exact law_texts_of t hn _ _ _ v w hm (fun W v hm hv => stmtText_any (f + 1) (by omega) t (by omega) v W hm hv) (fun W v hv => rtext_stmt (f + 1) (by omega) t (by omega) v W hv) hv
 have hr : ∃ p, ∀ v w, NdV none' w t v → Calls Tryz.prog 16 #[v, .string ⟨s.toArray⟩] w (BoolP p w) := by
  by_cases n4 : s = [102, 105, 108, 101]
  · subst n4
    exact ⟨_, fun v w hv => rright_file f (by unfold bigD; omega) t (by omega) v w hv⟩
  by_cases n5 : s = [115, 105, 103, 110, 97, 116, 117, 114, 101]
  · subst n5
    exact ⟨_, fun v w hv => rright_sig f (by unfold bigD; omega) t (by omega) v w hv⟩
  refine ⟨_, fun v w hv => rright_none s ?_ (f + 1) (by unfold bigD; omega) t (by omega) v w hv⟩
  unfold sortB sortL
  simp [n0, n1, n2, n3, n4, n5]
 obtain ⟨p, hr⟩ := hr
 exact law_texts_of t hn s false [] v w hm (fun W v _ hv => shtext_none s n0 n1 n2 n3 t v W hv) (fun W v hv => rtext_none s n0 n1 n2 n3 t p hr v W hv) hv
end Go.Proofs.YthbmjamgidfneaaGreatDoor
