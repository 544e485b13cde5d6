import Derived.Test.YthbmjamgidfneaaGreatDoorVAb
import Derived.Test.YthbmjamgidfneaaGreatDoorVAf
import Derived.Test.YthbmjamgidfneaaGreatDoorVAj
set_option maxRecDepth 100000
set_option maxHeartbeats 6400000
namespace Go.Proofs.YthbmjamgidfneaaGreatDoor
open Go.RowKit Go.Lib Go.BigFrame
set_option linter.unusedVariables false
set_option linter.unusedSimpArgs false
structure TwoBox (B : Nat) (deep : Nat) (head : Bool) (cs : Array Value) (w wr : World) : Prop where
 g0 : wr.heap[B]? = some (.cells #[.int .i64 (deep : Nat), .bool head] 50 (0, 0))
 g1 : wr.heap[B + 1]? = some (.cells cs 24 (0, 0))
 x : Ext none' w wr
theorem TwoBox.ext {B deep : Nat} {head : Bool} {cs : Array Value} {w wr w2 : World} (h : TwoBox B deep head cs w wr) (x : Ext none' wr w2) : TwoBox B deep head cs w w2 := ⟨x.heap h.g0 fun h => h, x.heap h.g1 fun h => h, h.x.trans x⟩
theorem TwoBox.mk' {deep : Nat} {head : Bool} {cs : Array Value} {w : World} {B : Nat} (hB : B = w.heap.size) : TwoBox B deep head cs w ((w.alloc (.cells #[.int .i64 (deep : Nat), .bool head] 50)).alloc (.cells cs 24)) :=
 ⟨heap_alloc_keep (heap_alloc_at hB _) _, heap_alloc_at (by rw [hB]; simp) _, ((Ext.refl _ _).alloc _).alloc _⟩
theorem bracket_any (f : Nat) (H : ExpH f) (deep : Nat) (head yes : Bool) (hd : deep + f ≤ 1200000) (hf : f ≤ 1100000) (t : Nd) (ht : t.size ≤ f) (he : exF f t = true) (v : Value) (w : World) (hm : MaxL w) (hv : NdV none' w t v) :
  Calls Tryz.prog 53 #[shV deep head, v, .bool yes] w (StrPost (brT (exT f) deep head yes t) w) := by
 have HL := (lens_all f deep hd).1 t ht he
 have CE := hid fun hh W (X : Ext none' w W) => H deep hh hd t ht he v W (maxL_later hm X) (hv.ext X fun _ _ h => h)
 obtain ⟨y, rfl, hy⟩ := hv
 obtain ⟨a1, cap1, rfl, _⟩ := hy
 cases yes
 · have e : brT (exT f) deep head false t = exT f deep head t := rfl
   rw [e]
   have CE := hid (CE.out head)
   obtain ⟨q, hq⟩ : ∃ q, exT f deep head t = q := ⟨_, rfl⟩
   rw [hq] at CE ⊢
   clear hq e HL he ht hm H hd hf
   go_enter Tryz.func53, Tryz.ntmps53
   go_wp2_with fail
   refine (CE.out _ (((Ext.refl _ _).alloc _).alloc _)).mono ?_
   rintro e w1 ⟨rfl, X1⟩
   have X1 := hid ((((Ext.refl none' w).alloc _).alloc _).trans X1)
   go_wp2_with fail
   go_ret
   exact ⟨rfl, X1.out⟩
 · have e : brT (exT f) deep head true t = [40] ++ exT f deep false t ++ [41] := rfl
   rw [e]
   have CE := hid (CE.out false)
   have HL := HL false
   obtain ⟨q, hq⟩ : ∃ q, exT f deep false t = q := ⟨_, rfl⟩
   rw [hq] at CE HL ⊢
   have hql : q.length ≤ 10000000000000 := by omega
   have cat1 := str_cat [40] q
   have cat2 := str_cat (40 :: q) [41]
   have CF := hid fun W => free_any deep head W
   obtain ⟨B, hB⟩ : ∃ B, B = w.heap.size := ⟨_, rfl⟩
   have BX := TwoBox.mk' (deep := deep) (head := head) (cs := #[.int .i64 t.kind, .string ⟨t.text.toArray⟩, .slice a1 t.kids.length cap1, .int .i64 t.pos]) hB
   obtain ⟨W0, hW0⟩ : ∃ W0, W0 = ((w.alloc (.cells #[.int .i64 (deep : Nat), .bool head] 50)).alloc (.cells #[.int .i64 t.kind, .string ⟨t.text.toArray⟩, .slice a1 t.kids.length cap1, .int .i64 t.pos] 24)) := ⟨_, rfl⟩
   rw [← hW0] at BX
   have BX := hid BX
   clear hq e HL he ht hm H hd hf
   go_enter Tryz.func53, Tryz.ntmps53
   go_upto_region 2 with (fail)
   rw [← hW0, ← hB]
   clear hW0 hB
   obtain ⟨x0, x1⟩ := cell2L fun t' : LaterF none' W0 => t'.x.heap BX.out.g0 fun h => h
   obtain ⟨y0, y1, y2, y3⟩ := cell4L fun t' : LaterF none' W0 => t'.x.heap BX.out.g1 fun h => h
   refine region_q none' W0 (.qs [0, 2] (.one 1 true (.one 3 false (.one 4 false (.one 5 false (.one 6 false .fin)))))) (by kernel_rfl) (by kernel_rfl) (fun dst v c a w h => by cases dst <;> exact h) ?_
   refine ⟨In.of (Ext.refl _ _).drew, ?_⟩
   change wpQuiet _ _ (fun w' => ∃ t : LaterF none' W0, w' = t.w) _ _ _
   simp only [sel, List.getElem?_cons_succ, List.getElem?_cons_zero]
   repeat (go_big_quiet_step (fail))
   refine wpQuiet_nil ?_
   simp only [wpTreeQ, stepT, sel, List.getElem?_cons_succ, List.getElem?_cons_zero]
   have D1 := hid (Ext.refl none' W0).drew
   clear x0 x1 y0 y1 y2 y3
   go_wp2_with fail
   refine (CF.out _).mono ?_
   rintro e w1 ⟨rfl, X1⟩
   have X1 := hid (D1.out.trans X1)
   go_wp2_with fail
   refine ⟨In.of X1.out, ?_⟩
   go_wp2_with fail
   refine (CE.out _ (BX.out.x.trans X1.out)).mono ?_
   rintro e w2 ⟨rfl, X2⟩
   have X2 := hid ((BX.out.x.trans X1.out).trans X2)
   go_wp2_with fail
   go_ret
   exact ⟨by simp, X2.out⟩
theorem first_any (f : Nat) (H : ExpH f) (deep : Nat) (head : Bool) (hd : deep + f ≤ 1200000) (hf : f ≤ 1100000) (t : Nd) (ht : t.size ≤ f) (he : exF f t = true) (v : Value) (w : World) (hm : MaxL w) (hv : NdV none' w t v) :
  Calls Tryz.prog 55 #[shV deep head, v] w (StrPost (fstT (exT f) deep head t) w) := by
 unfold fstT
 have CB := hid fun W (X : Ext none' w W) => bracket_any f H deep head (t.kind == 19 || t.kind == 20) hd hf t ht he v W (maxL_later hm X) (hv.ext X fun _ _ h => h)
 obtain ⟨q, hq⟩ : ∃ q, brT (exT f) deep head (t.kind == 19 || t.kind == 20) t = q := ⟨_, rfl⟩
 rw [hq] at CB ⊢
 obtain ⟨y, rfl, hy⟩ := hv
 obtain ⟨a1, cap1, rfl, _⟩ := hy
 obtain ⟨tk, htk⟩ : ∃ k, t.kind = k := ⟨_, rfl⟩
 rw [htk] at CB ⊢
 obtain ⟨q1, h1⟩ : ∃ b, (tk == 19) = b := ⟨_, rfl⟩
 obtain ⟨q2, h2⟩ : ∃ b, (tk == 20) = b := ⟨_, rfl⟩
 rw [h1, h2] at CB
 clear hq htk he ht hm H hd hf
 cases q1 <;> cases q2
 all_goals
  go_enter Tryz.func55, Tryz.ntmps55
  go_wp2_with fail
  refine (CB.out _ (((Ext.refl _ _).alloc _).alloc _)).mono ?_
  rintro e w1 ⟨rfl, X1⟩
  have X1 := hid ((((Ext.refl none' w).alloc _).alloc _).trans X1)
  go_wp2_with fail
  go_ret
  exact ⟨rfl, X1.out⟩
def ArgD (f : Nat) (t : Nd) : Prop := t.size ≤ f ∧ argB (tyF nmB f) (exF f) t = true
theorem arg_split {f : Nat} {t : Nd} (h : ArgD f t) : ((t.kind = 11 ∨ t.kind = 12) ∧ tyF nmB f t = true) ∨ (t.kind ≠ 10 ∧ t.kind ≠ 11 ∧ t.kind ≠ 12 ∧ exF f t = true) :=
 arg_cases f rfl (fun t ht => by have := exF_kind ht; omega) h.2
theorem part_any (f : Nat) (H : ExpH f) (deep : Nat) (head : Bool) (hd : deep + f ≤ 1200000) (hf : f ≤ 1100000) (t : Nd) (ht : ArgD f t) (v : Value) (w : World) (hm : MaxL w) (hv : NdV none' w t v) :
  Calls Tryz.prog 51 #[shV deep head, v] w (StrPost (if t.kind = 11 ∨ t.kind = 12 then typF f t else exT f deep head t) w) := by
 rcases arg_split ht with ⟨hk, hty⟩ | ⟨h10, h11, h12, hex⟩
 · have CT := hid fun W (X : Ext none' w W) => typ_any f (by unfold bigD; omega) t ⟨ht.1, hty⟩ v W (hv.ext X fun _ _ h => h)
   rw [if_pos hk]
   obtain ⟨q, hq⟩ : ∃ q, typF f t = q := ⟨_, rfl⟩
   rw [hq] at CT ⊢
   obtain ⟨y, rfl, hy⟩ := hv
   obtain ⟨a1, cap1, rfl, _⟩ := hy
   obtain ⟨tk, htk⟩ : ∃ k, t.kind = k := ⟨_, rfl⟩
   rw [htk] at CT hk ⊢
   clear hq htk ht hm H hd hf hty
   rcases hk with rfl | rfl
   all_goals
    go_enter Tryz.func51, Tryz.ntmps51
    go_wp2_with fail
    refine (CT.out _ (((Ext.refl _ _).alloc _).alloc _)).mono ?_
    rintro e w1 ⟨rfl, X1⟩
    have X1 := hid ((((Ext.refl none' w).alloc _).alloc _).trans X1)
    go_wp2_with fail
    go_ret
    exact ⟨rfl, X1.out⟩
 · have CE := hid fun W (X : Ext none' w W) => H deep head hd t ht.1 hex v W (maxL_later hm X) (hv.ext X fun _ _ h => h)
   rw [if_neg (by omega)]
   obtain ⟨q, hq⟩ : ∃ q, exT f deep head t = q := ⟨_, rfl⟩
   rw [hq] at CE ⊢
   obtain ⟨y, rfl, hy⟩ := hv
   obtain ⟨a1, cap1, rfl, _⟩ := hy
   obtain ⟨tk, htk⟩ : ∃ k, t.kind = k := ⟨_, rfl⟩
   rw [htk] at CE h10 h11 h12 ⊢
   have q10 : (tk == 10) = false := by simpa using h10
   have q11 : (tk == 11) = false := by simpa using h11
   have q12 : (tk == 12) = false := by simpa using h12
   clear hq htk ht hm H hd hf hex h10 h11 h12
   go_enter Tryz.func51, Tryz.ntmps51
   go_wp2_with fail
   refine (CE.out _ (((Ext.refl _ _).alloc _).alloc _)).mono ?_
   rintro e w1 ⟨rfl, X1⟩
   have X1 := hid ((((Ext.refl none' w).alloc _).alloc _).trans X1)
   go_wp2_with fail
   go_ret
   exact ⟨rfl, X1.out⟩
theorem part_tell (f : Nat) (H : ExpH f) (deep : Nat) (hd : deep + f ≤ 1200000) (hf : f ≤ 1100000) (w : World) (hm : MaxL w) : TellV (ArgD f) (partT (typF f) (exT f) deep) w (.func (.func 51) #[shV deep false] #[]) :=
 ⟨_, _, _, rfl, Go.Proofs.enters_of Tryz.func51 (by kernel_rfl) rfl, fun t ht W x X hx => part_any f H deep false hd hf t ht x W (maxL_later hm X) hx⟩
theorem trim_nl (q : List UInt8) : Lib.trimSuffix (q ++ [10]) [10] = q := by
 have : Lib.hasSuffix (q ++ [10]) [10] = true := by
  unfold Lib.hasSuffix
  simp
 unfold Lib.trimSuffix
 rw [if_pos this]
 simp
theorem blk_show (f : Nat) (H : StmH f) (deep : Nat) (head : Bool) (hd : deep + (f + 1) ≤ 1200000) (hf : f + 1 ≤ 1100000) (t : Nd) (ht : t.size ≤ f + 1) (he : blkB (stF f) t = true) (v : Value) (w : World) (hm : MaxL w) (hv : NdV none' w t v) :
  Calls Tryz.prog 41 #[shV deep head, v] w (StrPost (blT (stT f) deep t) w) := by
 have hkb : ∀ x ∈ t.kids, stF f x = true := by
  unfold blkB at he
  simp only [Bool.and_eq_true, List.all_eq_true] at he
  exact he.2.2
 have hkl : t.kids.length ≤ 1100000 := by have := t.kids_len; omega
 have hlen := fun x (hx : x ∈ t.kids) => (lens_all f (deep + 1) (by omega)).2 x (by have := Nd.size_kid hx; omega) (hkb x hx)
 obtain ⟨g, hg⟩ : ∃ g, g = fun k => lineT (deep + 1) (stT f (deep + 1) k) := ⟨_, rfl⟩
 have hgl : ∀ x ∈ t.kids, (g x).length ≤ 4000000 * x.size := fun x hx => by
  have := hlen x hx
  rw [hg]
  show (lineT (deep + 1) (stT f (deep + 1) x)).length ≤ _
  unfold lineT
  simp only [List.length_append, tabsT_len, List.length_cons, List.length_nil]
  omega
 have hz := size_kids t
 obtain ⟨acc, hacc⟩ : ∃ acc : Nat → List UInt8, acc = fun i => [123, 10] ++ ((t.kids.take i).map g).flatten := ⟨_, rfl⟩
 have AL := hid (show ∀ i, (acc i).length ≤ 10000000000000 by
  intro i
  have h1 := flat_len (p := g) (l := t.kids.take i) fun x hx => hgl x (List.mem_of_mem_take hx)
  have h2 : Nd.sizeL (t.kids.take i) ≤ Nd.sizeL t.kids := by
   conv => rhs; rw [← List.take_append_drop i t.kids]
   clear h1
   generalize t.kids.take i = a
   induction a with
   | nil => simp [Nd.sizeL]
   | cons x r ih => simp only [List.cons_append, Nd.sizeL]; omega
  rw [hacc]
  simp only [List.length_append, List.length_cons, List.length_nil]
  omega)
 have A1 := hid (show ∀ i (h : i < t.kids.length), acc (i + 1) = acc i ++ g t.kids[i] by
  intro i h
  rw [hacc]
  show [123, 10] ++ ((t.kids.take (i + 1)).map g).flatten = [123, 10] ++ ((t.kids.take i).map g).flatten ++ g t.kids[i]
  rw [List.take_add_one, List.getElem?_eq_getElem h, List.map_append, List.flatten_append]
  simp)
 have A0 := hid (show acc 0 = [123, 10] by rw [hacc]; simp)
 have AN := hid (show blT (stT f) deep t = acc t.kids.length ++ (tabsT deep ++ [125]) by
  rw [hacc, hg]
  unfold blT
  simp)
 have GL := hid (show ∀ i (h : i < t.kids.length), (g t.kids[i]).length ≤ 10000000000000 by
  intro i h
  have h1 := hgl _ (List.getElem_mem h)
  have h2 := Nd.size_kid (List.getElem_mem h)
  omega)
 have CS := hid fun i (h : i < t.kids.length) W (X : Ext none' w W) v' (hv' : NdV none' W t.kids[i] v') => H (deep + 1) (by omega) t.kids[i] (by have := Nd.size_kid (List.getElem_mem h); omega) (hkb _ (List.getElem_mem h)) v' W (maxL_later hm X) hv'
 have CL := hid fun i (h : i < t.kids.length) W => line_any (deep + 1) (by omega) false (stT f (deep + 1) t.kids[i]) (by have := hlen _ (List.getElem_mem h); have := Nd.size_kid (List.getElem_mem h); omega) W
 have GE := hid (show ∀ x, lineT (deep + 1) (stT f (deep + 1) x) = g x by intro x; rw [hg])
 have CI := hid fun W => shin_any deep (by omega) head W
 have CE := hid fun W => line_any deep (by omega) head [125] (by simp) W
 have TE := hid fun W => Tryz.strings_TrimSuffix ⟨(lineT deep [125]).toArray⟩ ⟨([10] : List UInt8).toArray⟩ W (by rw [bsize]; unfold lineT; simp only [List.length_append, tabsT_len, List.length_cons, List.length_nil]; omega)
 have hte : Lib.trimSuffix (lineT deep [125]) [10] = tabsT deep ++ [125] := trim_nl _
 have TE := hid fun W => (show Calls Tryz.prog 88 #[.string ⟨(lineT deep [125]).toArray⟩, .string ⟨([10] : List UInt8).toArray⟩] W (fun e w' => e = .returned (.string ⟨(tabsT deep ++ [125]).toArray⟩) ∧ w' = W) by rw [← hte]; exact TE.out W)
 obtain ⟨tb, htb⟩ : ∃ tb, tabsT deep ++ [125] = tb := ⟨_, rfl⟩
 have htbl : tb.length ≤ 10000000000000 := by rw [← htb]; simp only [List.length_append, tabsT_len, List.length_cons, List.length_nil]; omega
 rw [htb] at AN TE
 obtain ⟨lt, hlt⟩ : ∃ lt, lineT deep [125] = lt := ⟨_, rfl⟩
 rw [hlt] at CE TE
 obtain ⟨rr, hrr⟩ : ∃ r, r = blT (stT f) deep t := ⟨_, rfl⟩
 rw [← hrr]
 have HR := hid (hrr.trans AN.out)
 obtain ⟨y, rfl, hy⟩ := hv
 have HY := hid hy
 obtain ⟨a1, cap1, rfl, hcap, _⟩ := hy
 obtain ⟨B, hB⟩ : ∃ B, B = w.heap.size := ⟨_, rfl⟩
 have BX := TwoBox.mk' (deep := deep) (head := head) (cs := #[.int .i64 t.kind, .string ⟨t.text.toArray⟩, .slice a1 t.kids.length cap1, .int .i64 t.pos]) hB
 obtain ⟨W0, hW0⟩ : ∃ W0, W0 = ((w.alloc (.cells #[.int .i64 (deep : Nat), .bool head] 50)).alloc (.cells #[.int .i64 t.kind, .string ⟨t.text.toArray⟩, .slice a1 t.kids.length cap1, .int .i64 t.pos] 24)) := ⟨_, rfl⟩
 rw [← hW0] at BX
 have BX := hid BX
 clear hrr hg hacc hte htb hlt AN he hkb hlen hgl hz ht hd hf H hm
 go_enter Tryz.func41, Tryz.ntmps41
 go_upto_region 1 with (fail)
 rw [← hW0, ← hB]
 clear hW0 hB
 have c2 := cell_at BX.out.g1 2
 simp only [List.getElem?_toArray, List.getElem?_cons_zero, List.getElem?_cons_succ] at c2
 go_wp2_with fail
 clear c2
 go_loopw [5, 7, 11] (fun o _ z wr => ∃ (i : Nat), z = .int .i64 (i : Nat) ∧ i ≤ t.kids.length ∧ o = .string ⟨(acc i).toArray⟩ ∧ Hid (TwoBox B deep head #[.int .i64 t.kind, .string ⟨t.text.toArray⟩, .slice a1 t.kids.length cap1, .int .i64 t.pos] w wr)) (fun _ _ z _ => t.kids.length - (RowKit.intOf z).toNat)
 case atStart => exact ⟨0, rfl, by omega, by rw [A0.out], BX⟩
 case round =>
  obtain ⟨i, rfl, hle, rfl, R⟩ := hrel
  by_cases hi : i < t.kids.length
  · obtain ⟨b, off, cs, rfl, _, hbw, hcc, hty⟩ := (HY.out.ext isNd_good R.out.x fun _ _ h => h.elim).at i hi
    obtain ⟨y, rfl, hy⟩ := hty.parts
    have HYI := hid hy
    have c0 := hcc 0 _ rfl
    have c1 := hcc 1 _ rfl
    have c2 := hcc 2 _ rfl
    have c3 := hcc 3 _ rfl
    simp only [Nat.add_zero] at c0
    obtain ⟨a3, cap3, rfl, _⟩ := hy
    have CS := hid (CS.out i hi)
    have CL := hid (CL.out i hi)
    have A1 := hid (A1.out i hi)
    have hal := AL.out i
    have hgl := GL.out i hi
    rw [GE.out] at CL
    obtain ⟨t1, ht1⟩ : ∃ t1, t.kids[i] = t1 := ⟨_, rfl⟩
    rw [ht1] at c0 c1 c2 c3 CS CL A1 hgl
    obtain ⟨x1, hx1⟩ : ∃ x1, stT f (deep + 1) t1 = x1 := ⟨_, rfl⟩
    rw [hx1] at CS CL
    obtain ⟨q1, hq1⟩ : ∃ q1, g t1 = q1 := ⟨_, rfl⟩
    rw [hq1] at CL A1 hgl
    obtain ⟨o1, ho1⟩ : ∃ o1, acc i = o1 := ⟨_, rfl⟩
    rw [ho1] at A1 hal ⊢
    have cat := str_cat o1 q1
    rw [ht1] at HYI
    obtain ⟨W1, hW1⟩ : ∃ W1, W1 = wr.alloc (.cells #[.int .i64 t1.kind, .string ⟨t1.text.toArray⟩, .slice a3 t1.kids.length cap3, .int .i64 t1.pos] 24) := ⟨_, rfl⟩
    have X1 := hid (show Ext none' wr W1 by rw [hW1]; exact (Ext.refl _ _).alloc _)
    have GB := hid (show W1.heap[wr.heap.size]? = some (.cells #[.int .i64 t1.kind, .string ⟨t1.text.toArray⟩, .slice a3 t1.kids.length cap3, .int .i64 t1.pos] 24 (0, 0)) by rw [hW1]; exact heap_alloc_at rfl _)
    clear ht1 hx1 hq1 ho1 hcc hty
    go_upto_region 5 with (fail)
    rw [← hW1]
    clear hW1 c0 c1 c2 c3
    obtain ⟨BB, hBB⟩ : ∃ BB, BB = wr.heap.size := ⟨_, rfl⟩
    rw [← hBB] at GB ⊢
    clear hBB
    have BX := hid (R.out.ext X1.out)
    clear R
    obtain ⟨x0, x1⟩ := cell2L fun t' : LaterF none' W1 => t'.x.heap BX.out.g0 fun h => h
    obtain ⟨m0, m1, m2, m3⟩ := cell4L fun t' : LaterF none' W1 => t'.x.heap GB.out fun h => h
    refine region_q none' W1 (.qs [0, 1, 3, 5] (.one 2 true (.one 4 true (.one 6 true (.one 7 true (.one 8 false (.one 9 false .fin))))))) (by kernel_rfl) (by kernel_rfl) (fun dst v c a w h => by cases dst <;> exact h) ?_
    refine ⟨In.of (Ext.refl _ _).drew, ?_⟩
    change wpQuiet _ _ (fun w' => ∃ t : LaterF none' W1, w' = t.w) _ _ _
    simp only [sel, List.getElem?_cons_succ, List.getElem?_cons_zero]
    repeat (go_big_quiet_step (fail))
    refine wpQuiet_nil ?_
    simp only [wpTreeQ, stepT, sel, List.getElem?_cons_succ, List.getElem?_cons_zero]
    have D1 := hid (Ext.refl none' W1).drew
    clear x0 x1 m0 m1 m2 m3
    go_wp2_with fail
    refine (CI.out _).mono ?_
    rintro e w1 ⟨rfl, X2⟩
    have XX := hid (D1.out.trans X2)
    clear X2
    go_wp2_with fail
    refine ⟨In.of XX.out, ?_⟩
    go_wp2_with fail
    refine (CI.out _).mono ?_
    rintro e w2 ⟨rfl, X2⟩
    have XX := hid (XX.out.trans X2)
    clear X2
    go_wp2_with fail
    refine ⟨In.of XX.out, ?_⟩
    go_wp2_with fail
    refine (CS.out _ (BX.out.x.trans XX.out) _ ⟨_, rfl, HYI.out.ext isNd_good (X1.out.trans XX.out) fun _ _ h => h⟩).mono ?_
    rintro e w3 ⟨rfl, X2⟩
    have XX := hid (XX.out.trans X2)
    clear X2
    go_wp2_with fail
    refine ⟨In.of XX.out, ?_⟩
    go_wp2_with fail
    refine (CL.out _).mono ?_
    rintro e w4 ⟨rfl, X2⟩
    have XX := hid (XX.out.trans X2)
    clear X2
    go_wp2_with fail
    refine ⟨In.of XX.out, ?_⟩
    go_wp2_with fail
    have N := hid (BX.out.ext XX.out)
    clear BX XX D1 X1
    go_roundw
    case rel => exact ⟨i + 1, by go_num, by omega, by rw [A1.out], N⟩
    case measure => simp [RowKit.intOf]; omega
  · obtain rfl : i = t.kids.length := by omega
    have hal := AL.out t.kids.length
    obtain ⟨o1, ho1⟩ : ∃ o1, acc t.kids.length = o1 := ⟨_, rfl⟩
    rw [ho1] at HR hal ⊢
    have cat := str_cat o1 tb
    have x0 := cell_at R.out.g0 0
    have x1 := cell_at R.out.g0 1
    simp only [List.getElem?_toArray, List.getElem?_cons_zero, List.getElem?_cons_succ] at x0 x1
    clear ho1
    go_wp2_with fail
    refine (CE.out _).mono ?_
    rintro e w1 ⟨rfl, X1⟩
    have BX := hid (R.out.ext X1)
    clear x0 x1
    go_wp2_with fail
    refine (TE.out _).mono ?_
    rintro e w2 ⟨rfl, rfl⟩
    go_wp2_with fail
    go_ret
    exact ⟨by rw [HR.out]; rfl, BX.out.x⟩
theorem join_flat (sep : List UInt8) : ∀ (l : List (List UInt8)) (a : List UInt8), Lib.join (a :: l) sep = a ++ (l.map fun x => sep ++ x).flatten
 | [], a => by simp [Lib.join, List.intercalate]
 | b :: l, a => by
  have h := join_flat sep l b
  have e : Lib.join (a :: b :: l) sep = a ++ sep ++ Lib.join (b :: l) sep := by simp [Lib.join, List.intercalate, List.intersperse]
  rw [e, h]; simp
def optP (sep x : List UInt8) : List UInt8 := if x = [] then [] else sep ++ x
theorem betw_flat (sep : List UInt8) (l : List (List UInt8)) (a : List UInt8) (ha : a ≠ []) : betw sep (a :: l) = a ++ (l.map (optP sep)).flatten := by
 unfold betw
 have e : (a :: l).filter (fun p => !p.isEmpty) = a :: l.filter (fun p => !p.isEmpty) := by
  rw [List.filter_cons_of_pos (by simpa using ha)]
 rw [e, join_flat]
 congr 1
 induction l with
 | nil => rfl
 | cons b l ih =>
  by_cases hb : b = []
  · subst hb
    rw [List.filter_cons_of_neg (by simp)]
    simp only [List.map_cons, List.flatten_cons, optP, if_pos, List.nil_append]
    exact ih (by rw [List.filter_cons_of_pos (by simpa using ha)])
  · rw [List.filter_cons_of_pos (by simpa using hb)]
    simp only [List.map_cons, List.flatten_cons]
    rw [ih (by rw [List.filter_cons_of_pos (by simpa using ha)])]
    simp only [optP, if_neg hb]
theorem optP_ne {sep x : List UInt8} (h : x ≠ []) : optP sep x = sep ++ x := by unfold optP; rw [if_neg h]
theorem optP_opt {sep : List UInt8} {p : Nd → List UInt8} {t : Nd} (h : t.kind ≠ 0 → p t ≠ []) : optP sep (optT p t) = if t.kind = 0 then [] else sep ++ p t := by
 unfold optT
 by_cases hk : t.kind = 0
 · rw [if_pos hk, if_pos hk]; rfl
 · rw [if_neg hk, if_neg hk, optP_ne (h hk)]
theorem isStrs_lit {w : World} {B : Nat} {l : List (List UInt8)} {n : Nat} {ty : TypeId} {fz : Nat × Nat} (h : w.heap[B]? = some (.cells (l.map fun s => Value.string ⟨s.toArray⟩).toArray ty fz)) (hn : n = l.length) : IsStrs none' w (.slice (some ⟨B, 0, none⟩) n n) l := by
 subst hn
 refine ⟨_, l.length, rfl, Nat.le_refl _, (fun h => by cases h), fun _ => ⟨B, 0, rfl, fun h => h, heap_lt h, fun i hi => ⟨[.string ⟨l[i].toArray⟩], fun j v hj => ?_, rfl⟩⟩⟩
 match j, hj with
 | 0, hj =>
  simp at hj; subst hj
  have := cell_at h i
  rw [Nat.zero_add, Nat.mul_one, Nat.add_zero, this]
  simp [hi]
def ExD (f : Nat) (t : Nd) : Prop := t.size ≤ f ∧ exF f t = true
theorem exT1_ne {ty : Nd → List UInt8} {ex : ExT} {st : StT} {deep : Nat} {head : Bool} {t : Nd} {p q r : Nd → Bool} (h : exB p q r t = true) : exT1 ty ex st deep head t ≠ [] := by
 unfold exB at h
 unfold exT1
 have nm0 : ∀ {s : List UInt8}, nmB s = true → s ≠ [] := fun h e => by subst e; rw [nmB_nil'] at h; cases h
 by_cases h17 : t.kind = 17
 · rw [if_pos h17]; unfold quoteP; simp
 rw [if_neg h17]
 rw [if_neg h17] at h
 by_cases h19 : t.kind = 19
 · rw [if_pos h19]
   rw [if_neg (by omega), if_neg (by omega), if_pos h19] at h
   have := (namB_parts h).2.1
   unfold unB at this
   simp only [Bool.or_eq_true, beq_iff_eq] at this
   rcases this with e | e <;> rw [e] <;> simp
 rw [if_neg h19]
 by_cases h20 : t.kind = 20
 · rw [if_pos h20]; simp
 rw [if_neg h20]
 by_cases h21 : t.kind = 21
 · rw [if_pos h21]; simp
 rw [if_neg h21]
 by_cases h22 : t.kind = 22
 · rw [if_pos h22]; simp
 rw [if_neg h22]
 by_cases h23 : t.kind = 23
 · rw [if_pos h23]; simp
 rw [if_neg h23]
 by_cases h24 : t.kind = 24
 · rw [if_pos h24]; split <;> simp
 rw [if_neg h24]
 by_cases h25 : t.kind = 25
 · rw [if_pos h25]; unfold wFunc; simp
 rw [if_neg h25]
 by_cases h16 : t.kind = 16
 · rw [if_pos h16] at h
   have := (namB_parts h).2.1
   intro e
   rw [e] at this
   revert this
   decide
 rw [if_neg h16] at h
 by_cases h18 : t.kind = 18
 · rw [if_pos h18] at h
   exact nm0 (namB_parts h).2.1
 rw [if_neg h18, if_neg h19, if_neg h20, if_neg h21, if_neg h22, if_neg h23, if_neg h24] at h
 exact absurd (ofB_parts h).1 h25
theorem exT_ne {f deep : Nat} {head : Bool} {t : Nd} (h : exF f t = true) : exT f deep head t ≠ [] := by
 cases f with
 | zero => cases h
 | succ f => exact exT1_ne h
theorem var1_any (f : Nat) (H : ExpH f) (deep : Nat) (hd : deep + f ≤ 1200000) (hf : f ≤ 1100000) (B : Nat) (t : Nd) (ht : ExD f t) (v : Value) (w : World) (hm : MaxL w) (hb : w.heap[B]? = some (.cells #[.int .i64 (deep : Nat), .bool false] 50 (0, 0))) (hv : NdV none' w t v) :
  Calls Tryz.prog 90 #[v, .pointer (some ⟨B, 0, none⟩)] w (StrPost ([61, 32] ++ exT f deep false t) w) := by
 have HL := (lens_all f deep hd).1 t ht.1 ht.2 false
 have hts := ht.1
 have CE := hid fun W (X : Ext none' w W) => H deep false hd t ht.1 ht.2 v W (maxL_later hm X) (hv.ext X fun _ _ h => h)
 obtain ⟨y, rfl, hy⟩ := hv
 obtain ⟨a1, cap1, rfl, _⟩ := hy
 obtain ⟨q, hq⟩ : ∃ q, exT f deep false t = q := ⟨_, rfl⟩
 rw [hq] at CE HL ⊢
 have hql : q.length ≤ 10000000000000 := by omega
 have cat1 := str_cat [61, 32] q
 obtain ⟨W0, hW0⟩ : ∃ W0, W0 = w.alloc (.cells #[.int .i64 t.kind, .string ⟨t.text.toArray⟩, .slice a1 t.kids.length cap1, .int .i64 t.pos] 24) := ⟨_, rfl⟩
 have X0 := hid (show Ext none' w W0 by rw [hW0]; exact (Ext.refl _ _).alloc _)
 have G0 := hid (X0.out.heap hb fun h => h)
 have G1 := hid (show W0.heap[w.heap.size]? = some (.cells #[.int .i64 t.kind, .string ⟨t.text.toArray⟩, .slice a1 t.kids.length cap1, .int .i64 t.pos] 24 (0, 0)) by rw [hW0]; exact heap_alloc_at rfl _)
 obtain ⟨C, hC⟩ : ∃ C, C = w.heap.size := ⟨_, rfl⟩
 rw [← hC] at G1
 clear hq HL ht hm H hd hf hts hb
 go_enter Tryz.func90, Tryz.ntmps90
 go_upto_region 1 with (fail)
 rw [← hW0, ← hC]
 clear hW0 hC
 have x0 := cell_at G0.out 0
 have x1 := cell_at G0.out 1
 have c0 := cell_at G1.out 0
 have c1 := cell_at G1.out 1
 have c2 := cell_at G1.out 2
 have c3 := cell_at G1.out 3
 simp only [List.getElem?_toArray, List.getElem?_cons_zero, List.getElem?_cons_succ] at x0 x1 c0 c1 c2 c3
 go_wp2_with fail
 refine (CE.out _ X0.out).mono ?_
 rintro e w1 ⟨rfl, X1⟩
 have X1 := hid (X0.out.trans X1)
 clear x0 x1 c0 c1 c2 c3
 go_wp2_with fail
 go_ret
 exact ⟨rfl, X1.out⟩
theorem var1_tell (f : Nat) (H : ExpH f) (deep : Nat) (hd : deep + f ≤ 1200000) (hf : f ≤ 1100000) (B : Nat) (w : World) (hm : MaxL w) (hb : w.heap[B]? = some (.cells #[.int .i64 (deep : Nat), .bool false] 50 (0, 0))) :
  TellV (ExD f) (fun x => [61, 32] ++ exT f deep false x) w (.func (.func 90) #[] #[.pointer (some ⟨B, 0, none⟩)]) :=
 ⟨_, _, _, rfl, Go.Proofs.enters_of Tryz.func90 (by kernel_rfl) rfl, fun t ht W x X hx => var1_any f H deep hd hf B t ht x W (maxL_later hm X) (X.heap hb fun h => h) hx⟩
theorem shvar_any (f : Nat) (H : ExpH f) (deep : Nat) (hd : deep + (f + 1) ≤ 1200000) (hf : f + 1 ≤ 1100000) (t : Nd) (ht : t.size ≤ f + 1) (he : varB (tyF nmB f) (exF f) t = true) (v : Value) (w : World) (hm : MaxL w) (hv : NdV none' w t v) :
  Calls Tryz.prog 45 #[shV deep false, v] w (StrPost (varT (typF f) (exT f) deep t) w) := by
 obtain ⟨y, rfl, hy⟩ := hv
 have HY := hid hy
 obtain ⟨a1, cap1, rfl, hcap, _⟩ := hy
 have hkl : t.kids.length ≤ 1100000 := by have := t.kids_len; omega
 obtain ⟨B, hB⟩ : ∃ B, B = w.heap.size := ⟨_, rfl⟩
 have BX := TwoBox.mk' (deep := deep) (head := false) (cs := #[.int .i64 t.kind, .string ⟨t.text.toArray⟩, .slice a1 t.kids.length cap1, .int .i64 t.pos]) hB
 obtain ⟨W0, hW0⟩ : ∃ W0, W0 = ((w.alloc (.cells #[.int .i64 (deep : Nat), .bool false] 50)).alloc (.cells #[.int .i64 t.kind, .string ⟨t.text.toArray⟩, .slice a1 t.kids.length cap1, .int .i64 t.pos] 24)) := ⟨_, rfl⟩
 rw [← hW0] at BX
 have BX := hid BX
 obtain ⟨rr, hrr⟩ : ∃ r, r = varT (typF f) (exT f) deep t := ⟨_, rfl⟩
 rw [← hrr]
 have he2 := he
 unfold varB at he2
 simp only [Bool.and_eq_true] at he2
 obtain ⟨hk5, htn, h3⟩ := namB_parts he2.1
 obtain ⟨x, y, hkx, hx1, hy1⟩ := two_kids h3
 obtain ⟨hx0, hy0⟩ := kid_two hkx
 have hsz := size_two hkx
 have hl : t.kids.length = 2 := by rw [hkx]; rfl
 have htl := nmB_len _ htn
 have hxD : x.kind ≠ 0 → TyD f x := fun h0 => by
  unfold orB at hx1
  simp only [Bool.or_eq_true] at hx1
  exact ⟨by omega, hx1.resolve_left fun h => h0 (emptyB_kind h)⟩
 have hyD : y.kind ≠ 0 → ExD f y := fun h0 => by
  unfold orB at hy1
  simp only [Bool.or_eq_true] at hy1
  exact ⟨by omega, hy1.resolve_left fun h => h0 (emptyB_kind h)⟩
 obtain ⟨o1, ho1⟩ : ∃ o, optT (fun x => [61, 32] ++ exT f deep false x) (t.kid 1) = o := ⟨_, rfl⟩
 obtain ⟨o0, ho0⟩ : ∃ o, optT (typF f) (t.kid 0) = o := ⟨_, rfl⟩
 have C1 := hid fun W (X : Ext none' W0 W) v' (hv' : NdV none' W (t.kid 1) v') => optional_any (ExD f) (fun x => [61, 32] ++ exT f deep false x) (t.kid 1) v' _ W hv' (var1_tell f H deep (by omega) (by omega) B W (maxL_later hm (BX.out.x.trans X)) (X.heap BX.out.g0 fun h => h)) (by rw [hy0]; exact hyD)
 have C0 := hid fun W v' (hv' : NdV none' W (t.kid 0) v') => optional_any (TyD f) (typF f) (t.kid 0) v' _ W hv' (typ_tell (typ_any f (by unfold bigD; omega)) W) (by rw [hx0]; exact hxD)
 have hl1 : o1.length ≤ 4000000 * y.size := by
  rw [← ho1, hy0]
  unfold optT
  split
  · simp
  · rename_i h0
    have := (lens_all f deep (by omega)).1 y (hyD h0).1 (hyD h0).2 false
    simp only [List.length_append, List.length_cons, List.length_nil]; omega
 have hl0 : o0.length ≤ 4000000 * x.size := by
  rw [← ho0, hx0]
  unfold optT
  split
  · simp
  · rename_i h0
    have := ty_len (hxD h0).2 (hxD h0).1
    omega
 have HR := hid (show betw [32] [wVar, t.text, o0, o1] = rr by
  have hn : t.text ≠ [] := fun e => by rw [e, nmB_nil'] at htn; cases htn
  rw [hrr, betw_flat _ _ _ (by unfold wVar; simp), ← ho0, ← ho1]
  unfold varT
  simp only [List.map_cons, List.map_nil, List.flatten_cons, List.flatten_nil, List.append_nil, List.append_assoc]
  rw [optP_ne hn, optP_opt fun h => ty_ne (by rw [hx0] at h ⊢; exact (hxD h).2), optP_opt fun h => by simp]
  simp)
 have CB := hid fun W u (hu : IsStrs none' W u [wVar, t.text, o0, o1]) => between_any [32] _ u W hu (by simp) (by simp only [Lib.lens, List.length_cons, List.length_nil, List.map_cons, List.map_nil, List.sum_cons, List.sum_nil, wVar]; omega)
 rw [HR.out] at CB
 rw [ho1] at C1
 rw [ho0] at C0
 unfold wVar at CB
 have y0 : (0 : Int) < (t.kids.length : Int) := by omega
 have y1 : (1 : Int) < (t.kids.length : Int) := by omega
 have hmf := mkf_run
 clear hrr ht hd hf hk5 he he2 htn h3 hkx hx1 hy1 hx0 hy0 hsz hl hxD hyD ho1 ho0 H hl1 hl0 HR
 go_enter Tryz.func45, Tryz.ntmps45
 go_upto_region 1 with (fail)
 rw [← hW0, ← hB]
 clear hW0 hB
 obtain ⟨b, off, z0, rfl, hbw, k00, k01, k02, k03, hz0⟩ := kid_val (HY.out.ext isNd_good BX.out.x fun _ _ h => h) 0 (by omega)
 obtain ⟨b', off', z1, e1, hbw1, k10, k11, k12, k13, hz1⟩ := kid_val (HY.out.ext isNd_good BX.out.x fun _ _ h => h) 1 (by omega)
 injection e1 with e1
 injection e1 with e1 e2 _
 subst e1 e2
 simp only [Nat.zero_mul, Nat.one_mul, Nat.add_zero] at k00 k01 k02 k03 k10 k11 k12 k13
 have HZ0 := hid hz0
 obtain ⟨a2, cap2, rfl, _⟩ := hz0
 have HZ1 := hid hz1
 obtain ⟨a3, cap3, rfl, _⟩ := hz1
 obtain ⟨x0, x1⟩ := cell2 BX.out.g0
 obtain ⟨c0, c1, c2, c3⟩ := cell4 BX.out.g1
 go_wp2_with fail
 refine (C1.out _ (Ext.refl _ _) _ ⟨_, rfl, HZ1.out⟩).mono ?_
 rintro e w1 ⟨rfl, X1⟩
 have X1 := hid X1
 clear x0 x1 c0 c1 c2 c3
 have m00 := (X1.out.cell (p := ⟨b, off, none⟩) hbw (fun h => h)).trans k00
 have m01 := (X1.out.cell (p := ⟨b, off + 1, none⟩) hbw (fun h => h)).trans k01
 have m02 := (X1.out.cell (p := ⟨b, off + 2, none⟩) hbw (fun h => h)).trans k02
 have m03 := (X1.out.cell (p := ⟨b, off + 3, none⟩) hbw (fun h => h)).trans k03
 have hbw1 := Nat.lt_of_lt_of_le hbw X1.out.size
 clear k00 k01 k02 k03 k10 k11 k12 k13
 go_upto_region 2 with (fail)
 have BX := hid (BX.out.ext X1.out)
 obtain ⟨x0, x1⟩ := cell2L fun t' : LaterF none' w1 => t'.x.heap BX.out.g0 fun h => h
 obtain ⟨c0, c1, c2, c3⟩ := cell4L fun t' : LaterF none' w1 => t'.x.heap BX.out.g1 fun h => h
 have m00 := fun t' : LaterF none' w1 => (t'.x.cell (p := ⟨b, off, none⟩) hbw1 (fun h => h)).trans m00
 have m01 := fun t' : LaterF none' w1 => (t'.x.cell (p := ⟨b, off + 1, none⟩) hbw1 (fun h => h)).trans m01
 have m02 := fun t' : LaterF none' w1 => (t'.x.cell (p := ⟨b, off + 2, none⟩) hbw1 (fun h => h)).trans m02
 have m03 := fun t' : LaterF none' w1 => (t'.x.cell (p := ⟨b, off + 3, none⟩) hbw1 (fun h => h)).trans m03
 refine region_q none' w1 (.qs [0, 1, 2, 3, 4, 5, 7] (.one 6 true (.one 8 false (.one 9 false (.one 10 false .fin))))) (by kernel_rfl) (by kernel_rfl) (fun dst v c a w h => by cases dst <;> exact h) ?_
 refine ⟨In.of (Ext.refl _ _).drew, ?_⟩
 change wpQuiet _ _ (fun w' => ∃ t : LaterF none' w1, w' = t.w) _ _ _
 simp only [sel, List.getElem?_cons_succ, List.getElem?_cons_zero]
 repeat (go_big_quiet_step (fail))
 refine wpQuiet_nil ?_
 simp only [wpTreeQ, stepT, sel, List.getElem?_cons_succ, List.getElem?_cons_zero]
 have D1 := hid (Ext.refl none' w1).drew
 clear x0 x1 c0 c1 c2 c3 m00 m01 m02 m03
 go_wp2_with fail
 refine (C0.out _ _ ⟨_, rfl, HZ0.out.ext isNd_good (X1.out.trans D1.out) fun _ _ h => h⟩).mono ?_
 rintro e w2 ⟨rfl, X2⟩
 have XX := hid (D1.out.trans X2)
 go_wp2_with fail
 refine ⟨In.of XX.out, ?_⟩
 go_wp2_with fail
 have Y := hid ((Ext.refl none' w2).alloc (.cells #[.string ⟨#[118, 97, 114]⟩, .string ⟨t.text.toArray⟩, .string ⟨o0.toArray⟩, .string ⟨o1.toArray⟩] 9))
 refine (CB.out _ _ (isStrs_lit (heap_alloc_at rfl _) rfl)).mono ?_
 rintro e w3 ⟨rfl, X3⟩
 have XX := hid (XX.out.trans (Y.out.trans X3))
 go_wp2_with fail
 go_ret
 exact ⟨rfl, BX.out.x.trans XX.out⟩
end Go.Proofs.YthbmjamgidfneaaGreatDoor
