import Derived.Test.YthbmjamgidfneaaGreatDoorPAb
import Derived.Test.YthbmjamgidfneaaGreatDoorPAe
import Derived.Test.YthbmjamgidfneaaGreatDoorPAy
import Derived.Laws.IdiomStrings
set_option maxRecDepth 100000
set_option maxHeartbeats 6400000
namespace Go.Proofs.YthbmjamgidfneaaGreatDoor
open Go.RowKit Go.Lib Go.BigFrame
set_option linter.unusedVariables false
set_option linter.unusedSimpArgs false
theorem bytes_str {B : Nat} {w : World} {v : Value} {s : List UInt8} (h : Bytes B w v s) (hs : s ≠ []) : (convert 37 9 v).run Tryz.prog w = .ok (.string ⟨s.toArray⟩) w := by
 obtain ⟨a, cap, rfl, h1, h2, h3, h4⟩ := h
 obtain ⟨b, off, rfl, hB, hb, hc⟩ := h4 hs
 exact run_convert_bytes_back w _ _ _ _ cap s Tryz.underlying37 Tryz.underlying5 Tryz.underlying9 fun j hj => by rw [← hc j hj]; congr 1; unfold Addr.add; split <;> simp_all
theorem file_parts {f : Nat} {t : Nd} (h : rightB (fileB (tyF nmB f) (exF f) (stF f) t) t = true) : t.text.length ≤ 100 ∧ ∀ x ∈ t.kids, declB (tyF nmB f) (exF f) (stF f) x = true := by
 have h3 := rightB_p h
 unfold fileB at h3
 simp only [Bool.and_eq_true, List.all_eq_true] at h3
 exact ⟨nmB_len _ h3.2.1, h3.2.2⟩
theorem law_joins (t : Nd) (hn : t.size ≤ 1048576) (v : Value) (w : World) (hm : MaxL w) (hv : NdV none' w t v) : Calls Tryz.prog 7 #[v] w (TruePost w) := by
 obtain ⟨f, hf⟩ : ∃ f, t.size = f + 1 := ⟨t.size - 1, by have := t.size_pos; omega⟩
 have CZ := hid fun W (X : Ext none' w W) => small_any t 500 (by omega) (by unfold bigD; omega) v W (hv.ext X fun _ _ h => h)
 have CF := hid fun W (X : Ext none' w W) => shfile_any f (by omega) t (by omega) v W (maxL_later hm X) (hv.ext X fun _ _ h => h)
 have CA := hid fun W (X : Ext none' w W) => awake_any W (maxL_later hm X)
 have HV := hid hv
 obtain ⟨x, rfl, hx⟩ := hv
 have HY := hid hx
 obtain ⟨a1, cap1, rfl, _⟩ := hx
 have HM := hid hm
 have HN := hid hn
 have HF := hid hf
 obtain ⟨z, hz⟩ : ∃ z, decide (sizeD 1000 t ≤ 500) = z := ⟨_, rfl⟩
 have HZ := hid hz
 rw [hz] at CZ
 obtain ⟨p, hp⟩ : ∃ p, rightB (fileB (tyF nmB f) (exF f) (stF f) t) t = p := ⟨_, rfl⟩
 have HP := hid hp
 rw [hp] at CF
 obtain ⟨rr, hrr⟩ : ∃ r, fileT (typF f) (exT f) (stT f) t = r := ⟨_, rfl⟩
 have HRR := hid hrr
 rw [hrr] at CF
 have hkl : t.kids.length ≤ 1100000 := by have := t.kids_len; omega
 obtain ⟨B, W0, hB, hW0, X0, G0⟩ := boxed w (.cells #[.int .i64 t.kind, .string ⟨t.text.toArray⟩, .slice a1 t.kids.length cap1, .int .i64 t.pos] 24)
 clear hz hp hrr hn hm hf
 go_enter Tryz.func7, Tryz.ntmps7
 go_upto_region 1 with (fail)
 rw [← hW0, ← hB]
 clear hW0 hB
 obtain ⟨c0, c1, c2, c3⟩ := cell4 G0.out
 go_wp2_with fail
 refine (CZ.out _ X0.out).mono ?_
 rintro e W1 ⟨rfl, X1⟩
 have G0 := hid (X1.heap G0.out fun h => h)
 have X1 := hid (X0.out.trans X1)
 clear c0 c1 c2 c3
 obtain ⟨c0, c1, c2, c3⟩ := cell4 G0.out
 cases z
 case false =>
  go_wp2_with fail
  go_ret
  exact ⟨rfl, X1.out⟩
 go_wp2_with fail
 refine (CF.out _ X1.out).mono ?_
 rintro e W2 ⟨bv, rfl, hb, X2⟩
 have G0 := hid (X2.heap G0.out fun h => h)
 have X2 := hid (X1.out.trans X2)
 clear c0 c1 c2 c3
 cases p
 case false =>
  clear hb
  go_wp2_with fail
  refine (CA.out _ X2.out).mono ?_
  rintro e W3 ⟨rfl, X3⟩
  have X3 := hid (X2.out.trans X3)
  go_wp2_with fail
  go_ret
  exact ⟨rfl, X3.out⟩
 have HB := hid hb
 clear hb
 obtain ⟨htl, hkb⟩ := file_parts HP.out
 have HN' := HN.out
 have HF' := HF.out
 have HZ' := HZ.out
 obtain ⟨g, hg⟩ : ∃ g, g = fun d => [10] ++ declT (typF f) (exT f) (stT f) d ++ [10] := ⟨_, rfl⟩
 have hgl : ∀ x ∈ t.kids, (g x).length ≤ 4000000 * x.size := fun x hx => by
  have h1 := declT_len (f := f) (by omega) (by have := Nd.size_kid hx; omega) (hkb x hx)
  rw [hg]
  simp only [List.length_append, List.length_cons, List.length_nil]
  omega
 have hz := size_kids t
 obtain ⟨acc, hacc⟩ : ∃ acc : Nat → List UInt8, acc = fun i => [112, 97, 99, 107, 97, 103, 101, 32] ++ (t.text ++ [10]) ++ ((t.kids.take i).map g).flatten := ⟨_, rfl⟩
 have AL := hid (show ∀ i, (acc i).length ≤ 10000000000000 by
  intro i
  have h1 := flat_len (p := g) (l := t.kids.take i) fun x hx => hgl x (List.mem_of_mem_take hx)
  have h2 : Nd.sizeL (t.kids.take i) ≤ Nd.sizeL t.kids := by
   conv => rhs; rw [← List.take_append_drop i t.kids]
   clear h1
   generalize t.kids.take i = a
   induction a with
   | nil => simp [Nd.sizeL]
   | cons x r ih => simp only [List.cons_append, Nd.sizeL]; omega
  rw [hacc]
  simp only [List.length_append, List.length_cons, List.length_nil]
  omega)
 have A1 := hid (show ∀ i (h : i < t.kids.length), acc (i + 1) = acc i ++ g t.kids[i] by
  intro i h
  rw [hacc]
  show _ ++ ((t.kids.take (i + 1)).map g).flatten = _ ++ ((t.kids.take i).map g).flatten ++ g t.kids[i]
  rw [List.take_add_one, List.getElem?_eq_getElem h, List.map_append, List.flatten_append]
  simp)
 have A0 := hid (show 112 :: 97 :: 99 :: 107 :: 97 :: 103 :: 101 :: 32 :: (t.text ++ [10]) = acc 0 by rw [hacc]; simp)
 have HR := hid (show rr = acc t.kids.length by
  rw [← HRR.out, hacc, hg]
  unfold fileT
  simp)
 have NE := hid (show rr ≠ [] by rw [HR.out, hacc]; simp)
 have GL := hid (show ∀ i (h : i < t.kids.length), (g t.kids[i]).length ≤ 10000000000000 by
  intro i h
  have h1 := hgl _ (List.getElem_mem h)
  have h2 := Nd.size_kid (List.getElem_mem h)
  omega)
 have CD := hid fun i (h : i < t.kids.length) W (X : Ext none' w W) v' (hv' : NdV none' W t.kids[i] v') => (show Calls Tryz.prog 10 #[v', .string ⟨sDecl.toArray⟩] W (TextPost true (declT (typF f) (exT f) (stT f) t.kids[i]) W) from by
  have h1 := declText_any f (by have := HN.out; have := HF.out; omega) t.kids[i] (by have := Nd.size_kid (List.getElem_mem h); have := HF.out; omega) v' W (maxL_later HM.out X) hv'
  rw [rightB_kid HP.out (by have := of_decide_eq_true HZ.out; omega) (List.getElem_mem h) ((file_parts HP.out).2 _ (List.getElem_mem h))] at h1
  exact h1)
 have GE := hid (show ∀ x, [10] ++ declT (typF f) (exT f) (stT f) x ++ [10] = g x by intro x; rw [hg])
 have cat1 := str_cat [112, 97, 99, 107, 97, 103, 101, 32] t.text
 have cat2 := str_cat ([112, 97, 99, 107, 97, 103, 101, 32] ++ t.text) [10]
 simp only [List.append_assoc, List.cons_append, List.nil_append] at cat1 cat2
 have c1 := cell_at G0.out 1
 have c2 := cell_at G0.out 2
 simp only [List.getElem?_toArray, List.getElem?_cons_zero, List.getElem?_cons_succ] at c1 c2
 clear hg hacc hkb hgl hz HN' HF' HZ'
 go_wp2_with fail
 rw [A0.out]
 clear c1 c2
 go_loopw [5, 6] (fun o z wr => ∃ (i : Nat), z = .int .i64 (i : Nat) ∧ i ≤ t.kids.length ∧ o = .string ⟨(acc i).toArray⟩ ∧ Hid (Ext none' W2 wr)) (fun _ z _ => t.kids.length - (RowKit.intOf z).toNat)
 case atStart => exact ⟨0, rfl, by omega, rfl, hid (Ext.refl _ _)⟩
 case round =>
  obtain ⟨i, rfl, hle, rfl, R⟩ := hrel
  have b2 := (show wr.cell? ⟨B, 2, none⟩ = some (.slice a1 t.kids.length cap1) from cell_at (R.out.heap G0.out fun h => h) 2)
  have XR := hid (X2.out.trans R.out)
  by_cases hi : i < t.kids.length
  · obtain ⟨b, off, cs, rfl, _, hbw, hcc, hty⟩ := (HY.out.ext isNd_good XR.out fun _ _ h => h.elim).at i hi
    obtain ⟨y, rfl, hy⟩ := hty.parts
    have HYI := hid hy
    have c0 := hcc 0 _ rfl
    have c1 := hcc 1 _ rfl
    have c2 := hcc 2 _ rfl
    have c3 := hcc 3 _ rfl
    simp only [Nat.add_zero] at c0
    obtain ⟨a3, cap3, rfl, _⟩ := hy
    have CD := hid (CD.out i hi)
    have A1 := hid (A1.out i hi)
    have hal := AL.out i
    have hgl := GL.out i hi
    have GE := hid (GE.out t.kids[i])
    obtain ⟨t1, ht1⟩ : ∃ t1, t.kids[i] = t1 := ⟨_, rfl⟩
    rw [ht1] at c0 c1 c2 c3 CD A1 hgl HYI GE
    obtain ⟨x1, hx1⟩ : ∃ x1, declT (typF f) (exT f) (stT f) t1 = x1 := ⟨_, rfl⟩
    rw [hx1] at CD GE
    obtain ⟨q1, hq1⟩ : ∃ q1, g t1 = q1 := ⟨_, rfl⟩
    rw [hq1] at A1 hgl GE
    obtain ⟨o1, ho1⟩ : ∃ o1, acc i = o1 := ⟨_, rfl⟩
    rw [ho1] at A1 hal ⊢
    have hxl : x1.length ≤ 10000000000000 := by
     have := congrArg List.length GE.out
     simp only [List.length_append, List.length_cons, List.length_nil] at this
     omega
    have cat1 := str_cat [10] x1
    have cat2 := str_cat (10 :: x1) [10]
    have cat3 := str_cat o1 (10 :: (x1 ++ [10]))
    have hg2 := GE.out
    simp only [List.append_assoc, List.cons_append, List.nil_append] at cat1 cat2 cat3 hg2
    have HG2 := hid hg2
    clear ht1 hx1 hq1 ho1 hcc hty hg2
    go_wp2_with fail
    refine (CD.out _ XR.out _ ⟨_, rfl, HYI.out⟩).mono ?_
    rintro e w2 ⟨rfl, X2'⟩
    have N := hid (R.out.trans X2')
    clear c0 c1 c2 c3 X2' b2
    go_wp2_with fail
    go_roundw
    case rel => exact ⟨i + 1, by go_num, by omega, by rw [A1.out, ← HG2.out], N⟩
    case measure => simp [RowKit.intOf]; omega
  · obtain rfl : i = t.kids.length := by omega
    have hal := AL.out t.kids.length
    have cv := bytes_str (HB.out.ext R.out fun _ h => h.elim) NE.out
    have HR := hid HR.out
    obtain ⟨o1, ho1⟩ : ∃ o1, acc t.kids.length = o1 := ⟨_, rfl⟩
    rw [ho1] at HR hal ⊢
    have e := HR.out
    subst e
    have CA := hid (CA.out _ XR.out)
    clear ho1 HR
    go_wp2_with fail
    refine CA.out.mono ?_
    rintro e W3 ⟨rfl, X3⟩
    have X3 := hid (XR.out.trans X3)
    go_wp2_with fail
    go_ret
    exact ⟨rfl, X3.out⟩
end Go.Proofs.YthbmjamgidfneaaGreatDoor
namespace Go.Proofs.YthbmjamgidfneaaGreatDoor
open Go.RowKit Go.Lib
theorem partT_ex {f : Nat} {t : Nd} (h : exF f t = true) (deep : Nat) : partT (typF f) (exT f) deep t = exT f deep false t := by
 have := exF_kind h
 unfold partT
 rw [if_neg (by omega)]
theorem call_text (f : Nat) (a x y : Nd) (ps : Int) (ha : a.kind = 18) (hx : exF f x = true) (hy : exF f y = true) :
  exT (f + 1) 0 false (.mk 21 [] [a, x, y] ps) = exT f 0 false a ++ [40] ++ exT f 0 false x ++ [44, 32] ++ exT f 0 false y ++ [41] := by
 rw [exT_succ]
 unfold exT1
 rw [if_neg (by simp [Nd.kind]), if_neg (by simp [Nd.kind]), if_neg (by simp [Nd.kind]), if_pos (by simp [Nd.kind])]
 unfold fstT othT brT
 show (if (a.kind == 19 || a.kind == 20) = true then _ else exT f 0 false a) ++ [40] ++ Lib.join [partT (typF f) (exT f) 0 x, partT (typF f) (exT f) 0 y] sComma ++ [41] = _
 rw [partT_ex hx, partT_ex hy, ha, if_neg (by simp)]
 simp [Lib.join, sComma]
theorem index_text (f : Nat) (a x : Nd) (ps : Int) (ha : a.kind = 18) (hx : exF f x = true) :
  exT (f + 1) 0 false (.mk 22 [] [a, x] ps) = exT f 0 false a ++ [91] ++ exT f 0 false x ++ [93] := by
 rw [exT_succ]
 unfold exT1
 rw [if_neg (by simp [Nd.kind]), if_neg (by simp [Nd.kind]), if_neg (by simp [Nd.kind]), if_neg (by simp [Nd.kind]), if_pos (by simp [Nd.kind])]
 unfold fstT othT brT
 show (if (a.kind == 19 || a.kind == 20) = true then _ else exT f 0 false a) ++ [91] ++ Lib.join [partT (typF f) (exT f) 0 x] sComma ++ [93] = _
 rw [partT_ex hx, ha, if_neg (by simp)]
 simp [Lib.join, sComma]
theorem field_text (f : Nat) (a : Nd) (ps : Int) (ha : a.kind = 18) :
  exT (f + 1) 0 false (.mk 23 [97] [a] ps) = exT f 0 false a ++ [46, 97] := by
 rw [exT_succ]
 unfold exT1
 rw [if_neg (by simp [Nd.kind]), if_neg (by simp [Nd.kind]), if_neg (by simp [Nd.kind]), if_neg (by simp [Nd.kind]), if_neg (by simp [Nd.kind]), if_pos (by simp [Nd.kind])]
 unfold fstT brT
 show (if (a.kind == 19 || a.kind == 20) = true then _ else exT f 0 false a) ++ [46] ++ [97] = _
 rw [ha, if_neg (by simp)]
 simp
end Go.Proofs.YthbmjamgidfneaaGreatDoor
namespace Go.Proofs.YthbmjamgidfneaaGreatDoor
open Go.RowKit Go.Lib Go.BigFrame
set_option linter.unusedVariables false
set_option linter.unusedSimpArgs false
theorem exT_len {f : Nat} {t : Nd} {deep : Nat} {head : Bool} (h : exF f t = true) (hs : t.size ≤ f) (hd : deep + f ≤ 1200000) : (exT f deep head t).length ≤ 4000000 * t.size := by
 have := (lens_all f deep hd).1 t hs h head
 omega
def TxP (s : List UInt8) (z : Int) (w : World) (e : Ending) (w' : World) : Prop := e = .returned (.tuple #[.string ⟨s.toArray⟩, .int .i64 z]) ∧ Ext none' w w'
def txZ (p : Bool) : Int := if p then 0 else 9
def txS (p : Bool) (q : List UInt8) : List UInt8 := if p then q else []
theorem txZ_zero {p : Bool} (h : txZ p = 0) : p = true := by cases p with | true => rfl | false => cases h
theorem exprTx_any (f : Nat) (hf : f ≤ 1100000) (t : Nd) (ht : t.size ≤ f) (v : Value) (w : World) (hm : MaxL w) (hv : NdV none' w t v) : Calls Tryz.prog 10 #[v, .string ⟨sExpr.toArray⟩] w (TxP (txS (rightB (exF f t) t) (exT f 0 false t)) (txZ (rightB (exF f t) t)) w) :=
 exprText_any f hf t ht v w hm hv
theorem ndp {w W : World} {t : Nd} {u : Value} (h : IsSl 4 IsNd none' w u t.kids) (X : Ext none' w W) : IsNd none' W t [.int .i64 t.kind, .string ⟨t.text.toArray⟩, u, .int .i64 t.pos] := NdV.nd (h.ext isNd_good X fun _ _ h => h)
theorem ndk {w W : World} {t : Nd} {u : Value} {k : Int} (hk : t.kind = k) (h : IsSl 4 IsNd none' w u t.kids) (X : Ext none' w W) : IsNd none' W t [.int .i64 k, .string ⟨t.text.toArray⟩, u, .int .i64 t.pos] := by subst hk; exact ndp h X
theorem row_one {w : World} {b : Nat} {t : TypeId} {fz : Nat × Nat} {cx : List Value} (x : Nd) (hx : IsNd none' w x cx) (h : w.heap[b]? = some (.cells cx.toArray t fz)) : IsSl 4 IsNd none' w (.slice (some ⟨b, 0, none⟩) 1 1) [x] := by
 have lx := isNd_good.len hx
 exact isNd_one h x (by
  show IsNd none' w x (cx.take 4)
  rw [List.take_of_length_le (by omega)]; exact hx)
theorem row_two {w : World} {b : Nat} {t : TypeId} {fz : Nat × Nat} {cx cy : List Value} (x y : Nd) (hx : IsNd none' w x cx) (hy : IsNd none' w y cy) (h : w.heap[b]? = some (.cells (cx ++ cy).toArray t fz)) : IsSl 4 IsNd none' w (.slice (some ⟨b, 0, none⟩) 2 2) [x, y] := by
 have lx := isNd_good.len hx
 have ly := isNd_good.len hy
 exact isNd_two h x y (by
  show IsNd none' w x ((cx ++ cy).take 4)
  rw [List.take_append_of_le_length (by omega), List.take_of_length_le (by omega)]; exact hx) (by
  show IsNd none' w y (((cx ++ cy).drop 4).take 4)
  rw [← lx, List.drop_left, lx, List.take_of_length_le (by omega)]; exact hy)
theorem row_three {w : World} {b : Nat} {t : TypeId} {fz : Nat × Nat} {cx cy cz : List Value} (x y z : Nd) (hx : IsNd none' w x cx) (hy : IsNd none' w y cy) (hz : IsNd none' w z cz)
  (h : w.heap[b]? = some (.cells (cx ++ cy ++ cz).toArray t fz)) : IsSl 4 IsNd none' w (.slice (some ⟨b, 0, none⟩) 3 3) [x, y, z] := by
 have lx := isNd_good.len hx
 have ly := isNd_good.len hy
 have lz := isNd_good.len hz
 refine isSl_lit (xs := [x, y, z]) h (fun h => h) (by simp) (fun i hi => ?_)
 have h' : i < 3 := hi
 have hi : i = 0 ∨ i = 1 ∨ i = 2 := by omega
 rcases hi with rfl | rfl | rfl
 · have : ((cx ++ cy ++ cz).drop 0).take 4 = cx := by rw [List.drop_zero, List.append_assoc, List.take_append_of_le_length (by omega), List.take_of_length_le (by omega)]
   show IsNd none' w x (((cx ++ cy ++ cz).drop 0).take 4)
   rw [this]; exact hx
 · have : ((cx ++ cy ++ cz).drop 4).take 4 = cy := by rw [List.append_assoc, ← lx, List.drop_left, lx, List.take_append_of_le_length (by omega), List.take_of_length_le (by omega)]
   show IsNd none' w y (((cx ++ cy ++ cz).drop 4).take 4)
   rw [this]; exact hy
 · have : ((cx ++ cy ++ cz).drop 8).take 4 = cz := by rw [show 8 = (cx ++ cy).length by rw [List.length_append]; omega, List.drop_left, List.take_of_length_le (by omega)]
   show IsNd none' w z (((cx ++ cy ++ cz).drop 8).take 4)
   rw [this]; exact hz
theorem law_calls (a x y : Nd) (hs : a.size + x.size + y.size ≤ 1048576) (va vx vy : Value) (w : World) (hm : MaxL w) (ha : NdV none' w a va) (hx : NdV none' w x vx) (hy : NdV none' w y vy) : Calls Tryz.prog 5 #[va, vx, vy] w (TruePost w) := by
 obtain ⟨F, hF⟩ : ∃ F, F = 1048577 := ⟨_, rfl⟩
 have CA := hid fun W (X : Ext none' w W) => awake_any W (maxL_later hm X)
 have MK := hid fun (k : Int) (s : List UInt8) (l : List Nd) (hl : 1 + Nd.sizeL l + s.length ≤ F + 1) W (X : Ext none' w W) u (hu : NdV none' W (.mk k s l 0) u) => exprTx_any (F + 1) (by omega) (.mk k s l 0) (by rw [Nd.size]; omega) u W (maxL_later hm X) hu
 have CZa := hid fun W (X : Ext none' w W) => small_any a 200 (by omega) (by unfold bigD; omega) va W (ha.ext X fun _ _ h => h)
 have CTa := hid fun W (X : Ext none' w W) => exprTx_any F (by omega) a (by omega) va W (maxL_later hm X) (ha.ext X fun _ _ h => h)
 have CZx := hid fun W (X : Ext none' w W) => small_any x 200 (by omega) (by unfold bigD; omega) vx W (hx.ext X fun _ _ h => h)
 have CTx := hid fun W (X : Ext none' w W) => exprTx_any F (by omega) x (by omega) vx W (maxL_later hm X) (hx.ext X fun _ _ h => h)
 have CZy := hid fun W (X : Ext none' w W) => small_any y 200 (by omega) (by unfold bigD; omega) vy W (hy.ext X fun _ _ h => h)
 have CTy := hid fun W (X : Ext none' w W) => exprTx_any F (by omega) y (by omega) vy W (maxL_later hm X) (hy.ext X fun _ _ h => h)
 have HL := hid (show ∀ t : Nd, t.size ≤ 1048576 → exF F t = true → (exT F 0 false t).length ≤ 10000000000000 from fun t ht h => by have := exT_len (head := false) (deep := 0) h (by omega) (by omega); omega)
 have CTC := hid fun W X u hu => MK.out 21 [] [a, x, y] (by simp only [Nd.sizeL, List.length_nil]; omega) W X u hu
 have CTI := hid fun W X u hu => MK.out 22 [] [a, x] (by simp only [Nd.sizeL, List.length_nil]; omega) W X u hu
 have CTF := hid fun W X u hu => MK.out 23 [97] [a] (by simp only [Nd.sizeL, List.length_cons, List.length_nil]; omega) W X u hu
 have HVa := hid ha
 obtain ⟨za, rfl, za'⟩ := ha
 have HSa := hid za'
 obtain ⟨a1, ac, rfl, _⟩ := za'
 obtain ⟨da, hsa⟩ : ∃ b, decide (sizeD 1000 a ≤ 200) = b := ⟨_, rfl⟩
 rw [hsa] at CZa
 obtain ⟨pa, hpa⟩ : ∃ b, rightB (exF F a) a = b := ⟨_, rfl⟩
 obtain ⟨ta, hta⟩ : ∃ b, exT F 0 false a = b := ⟨_, rfl⟩
 rw [hpa, hta] at CTa
 obtain ⟨sa, hssa⟩ : ∃ b, txS pa ta = b := ⟨_, rfl⟩
 obtain ⟨ea, hea⟩ : ∃ b, txZ pa = b := ⟨_, rfl⟩
 rw [hssa, hea] at CTa
 have HEa := hid fun (h : ea = 0) => (show exF F a = true ∧ sa = ta from by
  have hp := txZ_zero (hea.trans h)
  refine ⟨rightB_p (hpa.trans hp), ?_⟩
  rw [← hssa, hp]; rfl)
 have HTa := hid hta
 clear hsa hpa hta hssa hea
 have HVx := hid hx
 obtain ⟨zx, rfl, zx'⟩ := hx
 have HSx := hid zx'
 obtain ⟨x1, xc, rfl, _⟩ := zx'
 obtain ⟨dx, hsx⟩ : ∃ b, decide (sizeD 1000 x ≤ 200) = b := ⟨_, rfl⟩
 rw [hsx] at CZx
 obtain ⟨px, hpx⟩ : ∃ b, rightB (exF F x) x = b := ⟨_, rfl⟩
 obtain ⟨tx, htx⟩ : ∃ b, exT F 0 false x = b := ⟨_, rfl⟩
 rw [hpx, htx] at CTx
 obtain ⟨sx, hssx⟩ : ∃ b, txS px tx = b := ⟨_, rfl⟩
 obtain ⟨ex, hex⟩ : ∃ b, txZ px = b := ⟨_, rfl⟩
 rw [hssx, hex] at CTx
 have HEx := hid fun (h : ex = 0) => (show exF F x = true ∧ sx = tx from by
  have hp := txZ_zero (hex.trans h)
  refine ⟨rightB_p (hpx.trans hp), ?_⟩
  rw [← hssx, hp]; rfl)
 have HTx := hid htx
 clear hsx hpx htx hssx hex
 have HVy := hid hy
 obtain ⟨zy, rfl, zy'⟩ := hy
 have HSy := hid zy'
 obtain ⟨y1, yc, rfl, _⟩ := zy'
 obtain ⟨dy, hsy⟩ : ∃ b, decide (sizeD 1000 y ≤ 200) = b := ⟨_, rfl⟩
 rw [hsy] at CZy
 obtain ⟨py, hpy⟩ : ∃ b, rightB (exF F y) y = b := ⟨_, rfl⟩
 obtain ⟨ty, hty⟩ : ∃ b, exT F 0 false y = b := ⟨_, rfl⟩
 rw [hpy, hty] at CTy
 obtain ⟨sy, hssy⟩ : ∃ b, txS py ty = b := ⟨_, rfl⟩
 obtain ⟨ey, hey⟩ : ∃ b, txZ py = b := ⟨_, rfl⟩
 rw [hssy, hey] at CTy
 have HEy := hid fun (h : ey = 0) => (show exF F y = true ∧ sy = ty from by
  have hp := txZ_zero (hey.trans h)
  refine ⟨rightB_p (hpy.trans hp), ?_⟩
  rw [← hssy, hp]; rfl)
 have HTy := hid hty
 clear hsy hpy hty hssy hey
 obtain ⟨pC, hpC⟩ : ∃ b, rightB (exF (F + 1) (.mk 21 [] [a, x, y] 0)) (.mk 21 [] [a, x, y] 0) = b := ⟨_, rfl⟩
 obtain ⟨tC, htC⟩ : ∃ b, exT (F + 1) 0 false (.mk 21 [] [a, x, y] 0) = b := ⟨_, rfl⟩
 rw [hpC, htC] at CTC
 obtain ⟨sC, hssC⟩ : ∃ b, txS pC tC = b := ⟨_, rfl⟩
 obtain ⟨eC, heC⟩ : ∃ b, txZ pC = b := ⟨_, rfl⟩
 rw [hssC, heC] at CTC
 have HEC := hid fun (h : eC = 0) => (show sC = exT (F + 1) 0 false (.mk 21 [] [a, x, y] 0) from by
  have hp := txZ_zero (heC.trans h)
  rw [← hssC, hp, htC]; rfl)
 clear hpC htC hssC heC
 obtain ⟨pI, hpI⟩ : ∃ b, rightB (exF (F + 1) (.mk 22 [] [a, x] 0)) (.mk 22 [] [a, x] 0) = b := ⟨_, rfl⟩
 obtain ⟨tI, htI⟩ : ∃ b, exT (F + 1) 0 false (.mk 22 [] [a, x] 0) = b := ⟨_, rfl⟩
 rw [hpI, htI] at CTI
 obtain ⟨sI, hssI⟩ : ∃ b, txS pI tI = b := ⟨_, rfl⟩
 obtain ⟨eI, heI⟩ : ∃ b, txZ pI = b := ⟨_, rfl⟩
 rw [hssI, heI] at CTI
 have HEI := hid fun (h : eI = 0) => (show sI = exT (F + 1) 0 false (.mk 22 [] [a, x] 0) from by
  have hp := txZ_zero (heI.trans h)
  rw [← hssI, hp, htI]; rfl)
 clear hpI htI hssI heI
 obtain ⟨pF, hpF⟩ : ∃ b, rightB (exF (F + 1) (.mk 23 [97] [a] 0)) (.mk 23 [97] [a] 0) = b := ⟨_, rfl⟩
 obtain ⟨tF, htF⟩ : ∃ b, exT (F + 1) 0 false (.mk 23 [97] [a] 0) = b := ⟨_, rfl⟩
 rw [hpF, htF] at CTF
 obtain ⟨sF, hssF⟩ : ∃ b, txS pF tF = b := ⟨_, rfl⟩
 obtain ⟨eF, heF⟩ : ∃ b, txZ pF = b := ⟨_, rfl⟩
 rw [hssF, heF] at CTF
 have HEF := hid fun (h : eF = 0) => (show sF = exT (F + 1) 0 false (.mk 23 [97] [a] 0) from by
  have hp := txZ_zero (heF.trans h)
  rw [← hssF, hp, htF]; rfl)
 clear hpF htF hssF heF
 obtain ⟨k, hk⟩ : ∃ k, a.kind = k := ⟨_, rfl⟩
 have HK := hid hk
 rw [hk] at CZa CTa HVa ⊢
 obtain ⟨B, hB⟩ : ∃ B, B = w.heap.size := ⟨_, rfl⟩
 obtain ⟨W0, hW0⟩ : ∃ W0, W0 = (((w.alloc (.cells #[.int .i64 k, .string ⟨a.text.toArray⟩, .slice a1 a.kids.length ac, .int .i64 a.pos] 24)).alloc (.cells #[.int .i64 x.kind, .string ⟨x.text.toArray⟩, .slice x1 x.kids.length xc, .int .i64 x.pos] 24)).alloc (.cells #[.int .i64 y.kind, .string ⟨y.text.toArray⟩, .slice y1 y.kids.length yc, .int .i64 y.pos] 24)) := ⟨_, rfl⟩
 have X0 := hid (show Ext none' w W0 by rw [hW0]; exact (((Ext.refl _ _).alloc _).alloc _).alloc _)
 have Ga := hid (show W0.heap[B]? = some (.cells #[.int .i64 k, .string ⟨a.text.toArray⟩, .slice a1 a.kids.length ac, .int .i64 a.pos] 24 (0, 0)) by rw [hW0]; exact heap_alloc_keep (heap_alloc_keep (heap_alloc_at hB _) _) _)
 have Gx := hid (show W0.heap[B + 1]? = some (.cells #[.int .i64 x.kind, .string ⟨x.text.toArray⟩, .slice x1 x.kids.length xc, .int .i64 x.pos] 24 (0, 0)) by rw [hW0]; exact heap_alloc_keep (heap_alloc_at (by rw [hB]; simp) _) _)
 have Gy := hid (show W0.heap[B + 1 + 1]? = some (.cells #[.int .i64 y.kind, .string ⟨y.text.toArray⟩, .slice y1 y.kids.length yc, .int .i64 y.pos] 24 (0, 0)) by rw [hW0]; exact heap_alloc_at (by rw [hB]; simp) _)
 have XX := hid (Ext.refl none' W0)
 have HSS := hid hs
 have HFF := hid hF
 clear hs hF hk
 go_enter Tryz.func5, Tryz.ntmps5
 go_upto_region 1 with (fail)
 rw [← hW0, ← hB]
 clear hW0 hB
 have a0'' := cell_at ((XX.out).heap Ga.out fun h => h) 0
 have a1'' := cell_at ((XX.out).heap Ga.out fun h => h) 1
 have a2'' := cell_at ((XX.out).heap Ga.out fun h => h) 2
 have a3'' := cell_at ((XX.out).heap Ga.out fun h => h) 3
 have x0'' := cell_at ((XX.out).heap Gx.out fun h => h) 0
 have x1'' := cell_at ((XX.out).heap Gx.out fun h => h) 1
 have x2'' := cell_at ((XX.out).heap Gx.out fun h => h) 2
 have x3'' := cell_at ((XX.out).heap Gx.out fun h => h) 3
 have y0'' := cell_at ((XX.out).heap Gy.out fun h => h) 0
 have y1'' := cell_at ((XX.out).heap Gy.out fun h => h) 1
 have y2'' := cell_at ((XX.out).heap Gy.out fun h => h) 2
 have y3'' := cell_at ((XX.out).heap Gy.out fun h => h) 3
 simp only [List.getElem?_toArray, List.getElem?_cons_zero, List.getElem?_cons_succ] at a0'' a1'' a2'' a3'' x0'' x1'' x2'' x3'' y0'' y1'' y2'' y3''
 go_wp2_with fail
 refine (CZa.out _ (X0.out.trans XX.out)).mono ?_
 rintro e W1 ⟨rfl, X⟩
 have XX := hid (XX.out.trans X)
 clear X
 clear a0'' a1'' a2'' a3'' x0'' x1'' x2'' x3'' y0'' y1'' y2'' y3''
 have a0'' := cell_at ((XX.out).heap Ga.out fun h => h) 0
 have a1'' := cell_at ((XX.out).heap Ga.out fun h => h) 1
 have a2'' := cell_at ((XX.out).heap Ga.out fun h => h) 2
 have a3'' := cell_at ((XX.out).heap Ga.out fun h => h) 3
 have x0'' := cell_at ((XX.out).heap Gx.out fun h => h) 0
 have x1'' := cell_at ((XX.out).heap Gx.out fun h => h) 1
 have x2'' := cell_at ((XX.out).heap Gx.out fun h => h) 2
 have x3'' := cell_at ((XX.out).heap Gx.out fun h => h) 3
 have y0'' := cell_at ((XX.out).heap Gy.out fun h => h) 0
 have y1'' := cell_at ((XX.out).heap Gy.out fun h => h) 1
 have y2'' := cell_at ((XX.out).heap Gy.out fun h => h) 2
 have y3'' := cell_at ((XX.out).heap Gy.out fun h => h) 3
 simp only [List.getElem?_toArray, List.getElem?_cons_zero, List.getElem?_cons_succ] at a0'' a1'' a2'' a3'' x0'' x1'' x2'' x3'' y0'' y1'' y2'' y3''
 cases da
 case false =>
  go_wp2_with fail
  go_ret
  exact ⟨rfl, X0.out.trans XX.out⟩
 go_wp2_with fail
 refine (CZx.out _ (X0.out.trans XX.out)).mono ?_
 rintro e W2 ⟨rfl, X⟩
 have XX := hid (XX.out.trans X)
 clear X
 clear a0'' a1'' a2'' a3'' x0'' x1'' x2'' x3'' y0'' y1'' y2'' y3''
 have a0'' := cell_at ((XX.out).heap Ga.out fun h => h) 0
 have a1'' := cell_at ((XX.out).heap Ga.out fun h => h) 1
 have a2'' := cell_at ((XX.out).heap Ga.out fun h => h) 2
 have a3'' := cell_at ((XX.out).heap Ga.out fun h => h) 3
 have x0'' := cell_at ((XX.out).heap Gx.out fun h => h) 0
 have x1'' := cell_at ((XX.out).heap Gx.out fun h => h) 1
 have x2'' := cell_at ((XX.out).heap Gx.out fun h => h) 2
 have x3'' := cell_at ((XX.out).heap Gx.out fun h => h) 3
 have y0'' := cell_at ((XX.out).heap Gy.out fun h => h) 0
 have y1'' := cell_at ((XX.out).heap Gy.out fun h => h) 1
 have y2'' := cell_at ((XX.out).heap Gy.out fun h => h) 2
 have y3'' := cell_at ((XX.out).heap Gy.out fun h => h) 3
 simp only [List.getElem?_toArray, List.getElem?_cons_zero, List.getElem?_cons_succ] at a0'' a1'' a2'' a3'' x0'' x1'' x2'' x3'' y0'' y1'' y2'' y3''
 cases dx
 case false =>
  go_wp2_with fail
  go_ret
  exact ⟨rfl, X0.out.trans XX.out⟩
 go_wp2_with fail
 refine (CZy.out _ (X0.out.trans XX.out)).mono ?_
 rintro e W3 ⟨rfl, X⟩
 have XX := hid (XX.out.trans X)
 clear X
 clear a0'' a1'' a2'' a3'' x0'' x1'' x2'' x3'' y0'' y1'' y2'' y3''
 have a0'' := cell_at ((XX.out).heap Ga.out fun h => h) 0
 have a1'' := cell_at ((XX.out).heap Ga.out fun h => h) 1
 have a2'' := cell_at ((XX.out).heap Ga.out fun h => h) 2
 have a3'' := cell_at ((XX.out).heap Ga.out fun h => h) 3
 have x0'' := cell_at ((XX.out).heap Gx.out fun h => h) 0
 have x1'' := cell_at ((XX.out).heap Gx.out fun h => h) 1
 have x2'' := cell_at ((XX.out).heap Gx.out fun h => h) 2
 have x3'' := cell_at ((XX.out).heap Gx.out fun h => h) 3
 have y0'' := cell_at ((XX.out).heap Gy.out fun h => h) 0
 have y1'' := cell_at ((XX.out).heap Gy.out fun h => h) 1
 have y2'' := cell_at ((XX.out).heap Gy.out fun h => h) 2
 have y3'' := cell_at ((XX.out).heap Gy.out fun h => h) 3
 simp only [List.getElem?_toArray, List.getElem?_cons_zero, List.getElem?_cons_succ] at a0'' a1'' a2'' a3'' x0'' x1'' x2'' x3'' y0'' y1'' y2'' y3''
 cases dy
 case false =>
  go_wp2_with fail
  go_ret
  exact ⟨rfl, X0.out.trans XX.out⟩
 by_cases h18 : k = 18
 case neg =>
  have q1 : (k != 18) = true := by simpa using h18
  have q2 : (k == 18) = false := by simpa using h18
  clear h18
  go_wp2_with fail
  go_ret
  exact ⟨rfl, X0.out.trans XX.out⟩
 have q1 : (k != 18) = false := by simp [h18]
 have q2 : (k == 18) = true := by simp [h18]
 have H18 := hid h18
 clear h18
 go_wp2_with fail
 refine (CTa.out _ (X0.out.trans XX.out)).mono ?_
 rintro e W4 ⟨rfl, X⟩
 have XX := hid (XX.out.trans X)
 clear X
 clear a0'' a1'' a2'' a3'' x0'' x1'' x2'' x3'' y0'' y1'' y2'' y3''
 have a0'' := cell_at ((XX.out).heap Ga.out fun h => h) 0
 have a1'' := cell_at ((XX.out).heap Ga.out fun h => h) 1
 have a2'' := cell_at ((XX.out).heap Ga.out fun h => h) 2
 have a3'' := cell_at ((XX.out).heap Ga.out fun h => h) 3
 have x0'' := cell_at ((XX.out).heap Gx.out fun h => h) 0
 have x1'' := cell_at ((XX.out).heap Gx.out fun h => h) 1
 have x2'' := cell_at ((XX.out).heap Gx.out fun h => h) 2
 have x3'' := cell_at ((XX.out).heap Gx.out fun h => h) 3
 have y0'' := cell_at ((XX.out).heap Gy.out fun h => h) 0
 have y1'' := cell_at ((XX.out).heap Gy.out fun h => h) 1
 have y2'' := cell_at ((XX.out).heap Gy.out fun h => h) 2
 have y3'' := cell_at ((XX.out).heap Gy.out fun h => h) 3
 simp only [List.getElem?_toArray, List.getElem?_cons_zero, List.getElem?_cons_succ] at a0'' a1'' a2'' a3'' x0'' x1'' x2'' x3'' y0'' y1'' y2'' y3''
 go_wp2_with fail
 refine (CTx.out _ (X0.out.trans XX.out)).mono ?_
 rintro e W5 ⟨rfl, X⟩
 have XX := hid (XX.out.trans X)
 clear X
 clear a0'' a1'' a2'' a3'' x0'' x1'' x2'' x3'' y0'' y1'' y2'' y3''
 have a0'' := cell_at ((XX.out).heap Ga.out fun h => h) 0
 have a1'' := cell_at ((XX.out).heap Ga.out fun h => h) 1
 have a2'' := cell_at ((XX.out).heap Ga.out fun h => h) 2
 have a3'' := cell_at ((XX.out).heap Ga.out fun h => h) 3
 have x0'' := cell_at ((XX.out).heap Gx.out fun h => h) 0
 have x1'' := cell_at ((XX.out).heap Gx.out fun h => h) 1
 have x2'' := cell_at ((XX.out).heap Gx.out fun h => h) 2
 have x3'' := cell_at ((XX.out).heap Gx.out fun h => h) 3
 have y0'' := cell_at ((XX.out).heap Gy.out fun h => h) 0
 have y1'' := cell_at ((XX.out).heap Gy.out fun h => h) 1
 have y2'' := cell_at ((XX.out).heap Gy.out fun h => h) 2
 have y3'' := cell_at ((XX.out).heap Gy.out fun h => h) 3
 simp only [List.getElem?_toArray, List.getElem?_cons_zero, List.getElem?_cons_succ] at a0'' a1'' a2'' a3'' x0'' x1'' x2'' x3'' y0'' y1'' y2'' y3''
 go_wp2_with fail
 refine (CTy.out _ (X0.out.trans XX.out)).mono ?_
 rintro e W6 ⟨rfl, X⟩
 have XX := hid (XX.out.trans X)
 clear X
 clear a0'' a1'' a2'' a3'' x0'' x1'' x2'' x3'' y0'' y1'' y2'' y3''
 have a0'' := cell_at ((XX.out).heap Ga.out fun h => h) 0
 have a1'' := cell_at ((XX.out).heap Ga.out fun h => h) 1
 have a2'' := cell_at ((XX.out).heap Ga.out fun h => h) 2
 have a3'' := cell_at ((XX.out).heap Ga.out fun h => h) 3
 have x0'' := cell_at ((XX.out).heap Gx.out fun h => h) 0
 have x1'' := cell_at ((XX.out).heap Gx.out fun h => h) 1
 have x2'' := cell_at ((XX.out).heap Gx.out fun h => h) 2
 have x3'' := cell_at ((XX.out).heap Gx.out fun h => h) 3
 have y0'' := cell_at ((XX.out).heap Gy.out fun h => h) 0
 have y1'' := cell_at ((XX.out).heap Gy.out fun h => h) 1
 have y2'' := cell_at ((XX.out).heap Gy.out fun h => h) 2
 have y3'' := cell_at ((XX.out).heap Gy.out fun h => h) 3
 simp only [List.getElem?_toArray, List.getElem?_cons_zero, List.getElem?_cons_succ] at a0'' a1'' a2'' a3'' x0'' x1'' x2'' x3'' y0'' y1'' y2'' y3''
 go_wp2_with fail
 obtain ⟨R1, hR1⟩ : ∃ B, B = W6.heap.size := ⟨_, rfl⟩
 obtain ⟨V1, hV1⟩ : ∃ W, W = W6.alloc (.cells #[.int .i64 k, .string ⟨a.text.toArray⟩, .slice a1 a.kids.length ac, .int .i64 a.pos, .int .i64 x.kind, .string ⟨x.text.toArray⟩, .slice x1 x.kids.length xc, .int .i64 x.pos, .int .i64 y.kind, .string ⟨y.text.toArray⟩, .slice y1 y.kids.length yc, .int .i64 y.pos] 24) := ⟨_, rfl⟩
 rw [← hV1, ← hR1]
 have GR := hid (show V1.heap[R1]? = some (.cells #[.int .i64 k, .string ⟨a.text.toArray⟩, .slice a1 a.kids.length ac, .int .i64 a.pos, .int .i64 x.kind, .string ⟨x.text.toArray⟩, .slice x1 x.kids.length xc, .int .i64 x.pos, .int .i64 y.kind, .string ⟨y.text.toArray⟩, .slice y1 y.kids.length yc, .int .i64 y.pos] 24 (0, 0)) by rw [hV1]; exact heap_alloc_at hR1 _)
 have XX := hid (show Ext none' W0 V1 by rw [hV1]; exact XX.out.alloc _)
 clear hR1 hV1
 refine (node_any 21 [] _ 3 3 _).mono ?_
 rintro e U1 ⟨rfl, X⟩
 have GR := hid (X.heap GR.out fun h => h)
 have XX := hid (XX.out.trans X)
 clear X
 go_wp2_with fail
 refine (CTC.out _ (X0.out.trans XX.out) _ ⟨_, rfl, row_three a x y (ndk HK.out HSa.out (X0.out.trans XX.out)) (ndp HSx.out (X0.out.trans XX.out)) (ndp HSy.out (X0.out.trans XX.out)) GR.out⟩).mono ?_
 rintro e W7 ⟨rfl, X⟩
 have XX := hid (XX.out.trans X)
 clear X GR
 clear a0'' a1'' a2'' a3'' x0'' x1'' x2'' x3'' y0'' y1'' y2'' y3''
 have a0'' := cell_at ((XX.out).heap Ga.out fun h => h) 0
 have a1'' := cell_at ((XX.out).heap Ga.out fun h => h) 1
 have a2'' := cell_at ((XX.out).heap Ga.out fun h => h) 2
 have a3'' := cell_at ((XX.out).heap Ga.out fun h => h) 3
 have x0'' := cell_at ((XX.out).heap Gx.out fun h => h) 0
 have x1'' := cell_at ((XX.out).heap Gx.out fun h => h) 1
 have x2'' := cell_at ((XX.out).heap Gx.out fun h => h) 2
 have x3'' := cell_at ((XX.out).heap Gx.out fun h => h) 3
 have y0'' := cell_at ((XX.out).heap Gy.out fun h => h) 0
 have y1'' := cell_at ((XX.out).heap Gy.out fun h => h) 1
 have y2'' := cell_at ((XX.out).heap Gy.out fun h => h) 2
 have y3'' := cell_at ((XX.out).heap Gy.out fun h => h) 3
 simp only [List.getElem?_toArray, List.getElem?_cons_zero, List.getElem?_cons_succ] at a0'' a1'' a2'' a3'' x0'' x1'' x2'' x3'' y0'' y1'' y2'' y3''
 go_wp2_with fail
 obtain ⟨R2, hR2⟩ : ∃ B, B = W7.heap.size := ⟨_, rfl⟩
 obtain ⟨V2, hV2⟩ : ∃ W, W = W7.alloc (.cells #[.int .i64 k, .string ⟨a.text.toArray⟩, .slice a1 a.kids.length ac, .int .i64 a.pos, .int .i64 x.kind, .string ⟨x.text.toArray⟩, .slice x1 x.kids.length xc, .int .i64 x.pos] 24) := ⟨_, rfl⟩
 rw [← hV2, ← hR2]
 have GR := hid (show V2.heap[R2]? = some (.cells #[.int .i64 k, .string ⟨a.text.toArray⟩, .slice a1 a.kids.length ac, .int .i64 a.pos, .int .i64 x.kind, .string ⟨x.text.toArray⟩, .slice x1 x.kids.length xc, .int .i64 x.pos] 24 (0, 0)) by rw [hV2]; exact heap_alloc_at hR2 _)
 have XX := hid (show Ext none' W0 V2 by rw [hV2]; exact XX.out.alloc _)
 clear hR2 hV2
 refine (node_any 22 [] _ 2 2 _).mono ?_
 rintro e U2 ⟨rfl, X⟩
 have GR := hid (X.heap GR.out fun h => h)
 have XX := hid (XX.out.trans X)
 clear X
 go_wp2_with fail
 refine (CTI.out _ (X0.out.trans XX.out) _ ⟨_, rfl, row_two a x (ndk HK.out HSa.out (X0.out.trans XX.out)) (ndp HSx.out (X0.out.trans XX.out)) GR.out⟩).mono ?_
 rintro e W8 ⟨rfl, X⟩
 have XX := hid (XX.out.trans X)
 clear X GR
 clear a0'' a1'' a2'' a3'' x0'' x1'' x2'' x3'' y0'' y1'' y2'' y3''
 have a0'' := cell_at ((XX.out).heap Ga.out fun h => h) 0
 have a1'' := cell_at ((XX.out).heap Ga.out fun h => h) 1
 have a2'' := cell_at ((XX.out).heap Ga.out fun h => h) 2
 have a3'' := cell_at ((XX.out).heap Ga.out fun h => h) 3
 have x0'' := cell_at ((XX.out).heap Gx.out fun h => h) 0
 have x1'' := cell_at ((XX.out).heap Gx.out fun h => h) 1
 have x2'' := cell_at ((XX.out).heap Gx.out fun h => h) 2
 have x3'' := cell_at ((XX.out).heap Gx.out fun h => h) 3
 have y0'' := cell_at ((XX.out).heap Gy.out fun h => h) 0
 have y1'' := cell_at ((XX.out).heap Gy.out fun h => h) 1
 have y2'' := cell_at ((XX.out).heap Gy.out fun h => h) 2
 have y3'' := cell_at ((XX.out).heap Gy.out fun h => h) 3
 simp only [List.getElem?_toArray, List.getElem?_cons_zero, List.getElem?_cons_succ] at a0'' a1'' a2'' a3'' x0'' x1'' x2'' x3'' y0'' y1'' y2'' y3''
 go_wp2_with fail
 obtain ⟨R3, hR3⟩ : ∃ B, B = W8.heap.size := ⟨_, rfl⟩
 obtain ⟨V3, hV3⟩ : ∃ W, W = W8.alloc (.cells #[.int .i64 k, .string ⟨a.text.toArray⟩, .slice a1 a.kids.length ac, .int .i64 a.pos] 24) := ⟨_, rfl⟩
 rw [← hV3, ← hR3]
 have GR := hid (show V3.heap[R3]? = some (.cells #[.int .i64 k, .string ⟨a.text.toArray⟩, .slice a1 a.kids.length ac, .int .i64 a.pos] 24 (0, 0)) by rw [hV3]; exact heap_alloc_at hR3 _)
 have XX := hid (show Ext none' W0 V3 by rw [hV3]; exact XX.out.alloc _)
 clear hR3 hV3
 refine (node_any 23 [97] _ 1 1 _).mono ?_
 rintro e U3 ⟨rfl, X⟩
 have GR := hid (X.heap GR.out fun h => h)
 have XX := hid (XX.out.trans X)
 clear X
 go_wp2_with fail
 refine (CTF.out _ (X0.out.trans XX.out) _ ⟨_, rfl, row_one a (ndk HK.out HSa.out (X0.out.trans XX.out)) GR.out⟩).mono ?_
 rintro e W9 ⟨rfl, X⟩
 have XX := hid (XX.out.trans X)
 clear X GR
 clear a0'' a1'' a2'' a3'' x0'' x1'' x2'' x3'' y0'' y1'' y2'' y3''
 by_cases h0 : ea = 0
 case neg =>
  have qa : (ea != 0) = true := by simpa using h0
  have qa' : (ea == 0) = false := by simpa using h0
  clear h0
  go_wp2_with fail
  refine (CA.out _ (X0.out.trans XX.out)).mono ?_
  rintro e W10 ⟨rfl, X⟩
  have XX := hid (XX.out.trans X)
  clear X
  go_wp2_with fail
  go_ret
  exact ⟨rfl, X0.out.trans XX.out⟩
 have HEa := hid (HEa.out h0)
 have qa : (ea != 0) = false := by simp [h0]
 have qa' : (ea == 0) = true := by simp [h0]
 clear h0
 by_cases h0 : ex = 0
 case neg =>
  have qx : (ex != 0) = true := by simpa using h0
  have qx' : (ex == 0) = false := by simpa using h0
  clear h0
  go_wp2_with fail
  refine (CA.out _ (X0.out.trans XX.out)).mono ?_
  rintro e W10 ⟨rfl, X⟩
  have XX := hid (XX.out.trans X)
  clear X
  go_wp2_with fail
  go_ret
  exact ⟨rfl, X0.out.trans XX.out⟩
 have HEx := hid (HEx.out h0)
 have qx : (ex != 0) = false := by simp [h0]
 have qx' : (ex == 0) = true := by simp [h0]
 clear h0
 by_cases h0 : ey = 0
 case neg =>
  have qy : (ey != 0) = true := by simpa using h0
  have qy' : (ey == 0) = false := by simpa using h0
  clear h0
  go_wp2_with fail
  refine (CA.out _ (X0.out.trans XX.out)).mono ?_
  rintro e W10 ⟨rfl, X⟩
  have XX := hid (XX.out.trans X)
  clear X
  go_wp2_with fail
  go_ret
  exact ⟨rfl, X0.out.trans XX.out⟩
 have HEy := hid (HEy.out h0)
 have qy : (ey != 0) = false := by simp [h0]
 have qy' : (ey == 0) = true := by simp [h0]
 clear h0
 by_cases h0 : eC = 0
 case neg =>
  have qC : (eC != 0) = true := by simpa using h0
  have qC' : (eC == 0) = false := by simpa using h0
  clear h0
  go_wp2_with fail
  refine (CA.out _ (X0.out.trans XX.out)).mono ?_
  rintro e W10 ⟨rfl, X⟩
  have XX := hid (XX.out.trans X)
  clear X
  go_wp2_with fail
  go_ret
  exact ⟨rfl, X0.out.trans XX.out⟩
 have HEC := hid (HEC.out h0)
 have qC : (eC != 0) = false := by simp [h0]
 have qC' : (eC == 0) = true := by simp [h0]
 clear h0
 by_cases h0 : eI = 0
 case neg =>
  have qI : (eI != 0) = true := by simpa using h0
  have qI' : (eI == 0) = false := by simpa using h0
  clear h0
  go_wp2_with fail
  refine (CA.out _ (X0.out.trans XX.out)).mono ?_
  rintro e W10 ⟨rfl, X⟩
  have XX := hid (XX.out.trans X)
  clear X
  go_wp2_with fail
  go_ret
  exact ⟨rfl, X0.out.trans XX.out⟩
 have HEI := hid (HEI.out h0)
 have qI : (eI != 0) = false := by simp [h0]
 have qI' : (eI == 0) = true := by simp [h0]
 clear h0
 by_cases h0 : eF = 0
 case neg =>
  have qF : (eF != 0) = true := by simpa using h0
  have qF' : (eF == 0) = false := by simpa using h0
  clear h0
  go_wp2_with fail
  refine (CA.out _ (X0.out.trans XX.out)).mono ?_
  rintro e W10 ⟨rfl, X⟩
  have XX := hid (XX.out.trans X)
  clear X
  go_wp2_with fail
  go_ret
  exact ⟨rfl, X0.out.trans XX.out⟩
 have HEF := hid (HEF.out h0)
 have qF : (eF != 0) = false := by simp [h0]
 have qF' : (eF == 0) = true := by simp [h0]
 clear h0
 have sC : sC = sa ++ 40 :: (sx ++ 44 :: 32 :: (sy ++ [41])) := by
  rw [HEC.out, call_text F a x y 0 (HK.out.trans H18.out) HEx.out.1 HEy.out.1, HTa.out, HTx.out, HTy.out, HEa.out.2, HEx.out.2, HEy.out.2]
  simp
 have sI : sI = sa ++ 91 :: (sx ++ [93]) := by
  rw [HEI.out, index_text F a x 0 (HK.out.trans H18.out) HEx.out.1, HTa.out, HTx.out, HEa.out.2, HEx.out.2]
  simp
 have sF : sF = sa ++ [46, 97] := by
  rw [HEF.out, field_text F a 0 (HK.out.trans H18.out), HTa.out, HEa.out.2]
 have la : sa.length ≤ 10000000000000 := by have := HL.out a (by have := HSS.out; omega) HEa.out.1; rw [HTa.out] at this; rw [HEa.out.2]; exact this
 have lx : sx.length ≤ 10000000000000 := by have := HL.out x (by have := HSS.out; omega) HEx.out.1; rw [HTx.out] at this; rw [HEx.out.2]; exact this
 have ly : sy.length ≤ 10000000000000 := by have := HL.out y (by have := HSS.out; omega) HEy.out.1; rw [HTy.out] at this; rw [HEy.out.2]; exact this
 have cat1 := str_cat sa [40]
 have cat2 := str_cat (sa ++ [40]) sx
 have cat3 := str_cat (sa ++ [40] ++ sx) [44, 32]
 have cat4 := str_cat (sa ++ [40] ++ sx ++ [44, 32]) sy
 have cat5 := str_cat (sa ++ [40] ++ sx ++ [44, 32] ++ sy) [41]
 have cat6 := str_cat sa [91]
 have cat7 := str_cat (sa ++ [91]) sx
 have cat8 := str_cat (sa ++ [91] ++ sx) [93]
 have cat9 := str_cat sa [46, 97]
 simp only [List.append_assoc, List.cons_append, List.nil_append] at cat1 cat2 cat3 cat4 cat5 cat6 cat7 cat8 cat9
 clear HEa HEx HEy HEC HEI HEF HTa HTx HTy HL
 subst sC sI sF
 go_wp2_with fail
 refine (CA.out _ (X0.out.trans XX.out)).mono ?_
 rintro e W10 ⟨rfl, X⟩
 have XX := hid (XX.out.trans X)
 clear X
 go_wp2_with fail
 go_ret
 exact ⟨rfl, X0.out.trans XX.out⟩
end Go.Proofs.YthbmjamgidfneaaGreatDoor
