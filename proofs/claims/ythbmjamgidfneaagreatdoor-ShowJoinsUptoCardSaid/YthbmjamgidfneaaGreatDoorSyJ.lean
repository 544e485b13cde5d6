import Derived.Test.YthbmjamgidfneaaGreatDoorZAv
import Derived.Laws.IdiomStrings
/-
  ShowJoins: the law's function.
-/
namespace Go.Proofs.YthbmjamgidfneaaGreatDoor
open Go.RowKit Go.Lib Go.BigFrame
set_option linter.unusedVariables false
set_option linter.unusedSimpArgs false
theorem bytes_str {B : Nat} {w : World} {v : Value} {s : List UInt8} (h : Bytes B w v s) (hs : s ≠ []) : (convert 37 9 v).run Tryz.prog w = .ok (.string ⟨s.toArray⟩) w := by
  obtain ⟨a, cap, rfl, h1, h2, h3, h4⟩ := h
  obtain ⟨b, off, rfl, hB, hb, hc⟩ := h4 hs
  exact run_convert_bytes_back w _ _ _ _ cap s Tryz.underlying37 Tryz.underlying5 Tryz.underlying9 fun j hj => by rw [← hc j hj]; congr 1; unfold Addr.add; split <;> simp_all
theorem file_parts {f : Nat} {t : Nd} (h : rightB (fileB (tyF nmB f) (exF f) (stF f) t) t = true) : t.text.length ≤ 100 ∧ ∀ x ∈ t.kids, declB (tyF nmB f) (exF f) (stF f) x = true := by
  have h3 := rightB_p h
  unfold fileB at h3
  simp only [Bool.and_eq_true, List.all_eq_true] at h3
  exact ⟨nmB_len _ h3.2.1, h3.2.2⟩
set_option maxRecDepth 100000 in
set_option maxHeartbeats 6400000 in
theorem law_joins (t : Nd) (hn : t.size ≤ 1048576) (v : Value) (w : World) (hm : MaxL w) (hv : NdV none' w t v) : Calls Tryz.prog 7 #[v] w (TruePost w) := by
  obtain ⟨f, hf⟩ : ∃ f, t.size = f + 1 := ⟨t.size - 1, by have := t.size_pos; omega⟩
  have CZ := hid fun W (X : Ext none' w W) => small_any t 500 (by omega) (by unfold bigD; omega) v W (hv.ext X fun _ _ h => h)
  have CF := hid fun W (X : Ext none' w W) => shfile_any f (by omega) t (by omega) v W (maxL_later hm X) (hv.ext X fun _ _ h => h)
  have CA := hid fun W (X : Ext none' w W) => awake_any W (maxL_later hm X)
  have HV := hid hv
  obtain ⟨x, rfl, hx⟩ := hv
  have HY := hid hx
  obtain ⟨a1, cap1, rfl, _⟩ := hx
  have HM := hid hm
  have HN := hid hn
  have HF := hid hf
  obtain ⟨z, hz⟩ : ∃ z, decide (sizeD 1000 t ≤ 500) = z := ⟨_, rfl⟩
  have HZ := hid hz
  rw [hz] at CZ
  obtain ⟨p, hp⟩ : ∃ p, rightB (fileB (tyF nmB f) (exF f) (stF f) t) t = p := ⟨_, rfl⟩
  have HP := hid hp
  rw [hp] at CF
  obtain ⟨rr, hrr⟩ : ∃ r, fileT (typF f) (exT f) (stT f) t = r := ⟨_, rfl⟩
  have HRR := hid hrr
  rw [hrr] at CF
  have hkl : t.kids.length ≤ 1100000 := by have := t.kids_len; omega
  obtain ⟨B, hB⟩ : ∃ B, B = w.heap.size := ⟨_, rfl⟩
  obtain ⟨W0, hW0⟩ : ∃ W0, W0 = (w.alloc (.cells #[.int .i64 t.kind, .string ⟨t.text.toArray⟩, .slice a1 t.kids.length cap1, .int .i64 t.pos] 24)) := ⟨_, rfl⟩
  have X0 := hid (show Ext none' w W0 by rw [hW0]; exact (Ext.refl _ _).alloc _)
  have G0 := hid (show W0.heap[B]? = some (.cells #[.int .i64 t.kind, .string ⟨t.text.toArray⟩, .slice a1 t.kids.length cap1, .int .i64 t.pos] 24 (0, 0)) by rw [hW0, hB]; exact heap_alloc_at rfl _)
  clear hz hp hrr hn hm hf
  go_enter Tryz.func7, Tryz.ntmps7
  go_upto_region 1 with (fail)
  rw [← hW0, ← hB]
  clear hW0 hB
  have c0 := cell_at G0.out 0
  have c1 := cell_at G0.out 1
  have c2 := cell_at G0.out 2
  have c3 := cell_at G0.out 3
  simp only [List.getElem?_toArray, List.getElem?_cons_zero, List.getElem?_cons_succ] at c0 c1 c2 c3
  go_wp2_with fail
  refine (CZ.out _ X0.out).mono ?_
  rintro e W1 ⟨rfl, X1⟩
  have G0 := hid (X1.heap G0.out fun h => h)
  have X1 := hid (X0.out.trans X1)
  clear c0 c1 c2 c3
  have c0 := cell_at G0.out 0
  have c1 := cell_at G0.out 1
  have c2 := cell_at G0.out 2
  have c3 := cell_at G0.out 3
  simp only [List.getElem?_toArray, List.getElem?_cons_zero, List.getElem?_cons_succ] at c0 c1 c2 c3
  cases z
  case false =>
    go_wp2_with fail
    go_ret
    exact ⟨rfl, X1.out⟩
  go_wp2_with fail
  refine (CF.out _ X1.out).mono ?_
  rintro e W2 ⟨bv, rfl, hb, X2⟩
  have G0 := hid (X2.heap G0.out fun h => h)
  have X2 := hid (X1.out.trans X2)
  clear c0 c1 c2 c3
  cases p
  case false =>
    clear hb
    go_wp2_with fail
    refine (CA.out _ X2.out).mono ?_
    rintro e W3 ⟨rfl, X3⟩
    have X3 := hid (X2.out.trans X3)
    go_wp2_with fail
    go_ret
    exact ⟨rfl, X3.out⟩
  have HB := hid hb
  clear hb
  obtain ⟨htl, hkb⟩ := file_parts HP.out
  have HN' := HN.out
  have HF' := HF.out
  have HZ' := HZ.out
  obtain ⟨g, hg⟩ : ∃ g, g = fun d => [10] ++ declT (typF f) (exT f) (stT f) d ++ [10] := ⟨_, rfl⟩
  have hgl : ∀ x ∈ t.kids, (g x).length ≤ 4000000 * x.size := fun x hx => by
    have h1 := declT_len (f := f) (by omega) (by have := Nd.size_kid hx; omega) (hkb x hx)
    rw [hg]
    simp only [List.length_append, List.length_cons, List.length_nil]
    omega
  have hz := size_kids t
  obtain ⟨acc, hacc⟩ : ∃ acc : Nat → List UInt8, acc = fun i => [112, 97, 99, 107, 97, 103, 101, 32] ++ (t.text ++ [10]) ++ ((t.kids.take i).map g).flatten := ⟨_, rfl⟩
  have AL := hid (show ∀ i, (acc i).length ≤ 10000000000000 by
    intro i
    have h1 := flat_len (p := g) (l := t.kids.take i) fun x hx => hgl x (List.mem_of_mem_take hx)
    have h2 : Nd.sizeL (t.kids.take i) ≤ Nd.sizeL t.kids := by
      conv => rhs; rw [← List.take_append_drop i t.kids]
      clear h1
      generalize t.kids.take i = a
      induction a with
      | nil => simp [Nd.sizeL]
      | cons x r ih => simp only [List.cons_append, Nd.sizeL]; omega
    rw [hacc]
    simp only [List.length_append, List.length_cons, List.length_nil]
    omega)
  have A1 := hid (show ∀ i (h : i < t.kids.length), acc (i + 1) = acc i ++ g t.kids[i] by
    intro i h
    rw [hacc]
    show _ ++ ((t.kids.take (i + 1)).map g).flatten = _ ++ ((t.kids.take i).map g).flatten ++ g t.kids[i]
    rw [List.take_add_one, List.getElem?_eq_getElem h, List.map_append, List.flatten_append]
    simp)
  have A0 := hid (show 112 :: 97 :: 99 :: 107 :: 97 :: 103 :: 101 :: 32 :: (t.text ++ [10]) = acc 0 by rw [hacc]; simp)
  have HR := hid (show rr = acc t.kids.length by
    rw [← HRR.out, hacc, hg]
    unfold fileT
    simp)
  have NE := hid (show rr ≠ [] by rw [HR.out, hacc]; simp)
  have GL := hid (show ∀ i (h : i < t.kids.length), (g t.kids[i]).length ≤ 10000000000000 by
    intro i h
    have h1 := hgl _ (List.getElem_mem h)
    have h2 := Nd.size_kid (List.getElem_mem h)
    omega)
  have CD := hid fun i (h : i < t.kids.length) W (X : Ext none' w W) v' (hv' : NdV none' W t.kids[i] v') => (show Calls Tryz.prog 10 #[v', .string ⟨sDecl.toArray⟩] W (TextPost true (declT (typF f) (exT f) (stT f) t.kids[i]) W) from by
    have h1 := declText_any f (by have := HN.out; have := HF.out; omega) t.kids[i] (by have := Nd.size_kid (List.getElem_mem h); have := HF.out; omega) v' W (maxL_later HM.out X) hv'
    rw [rightB_kid HP.out (by have := of_decide_eq_true HZ.out; omega) (List.getElem_mem h) ((file_parts HP.out).2 _ (List.getElem_mem h))] at h1
    exact h1)
  have GE := hid (show ∀ x, [10] ++ declT (typF f) (exT f) (stT f) x ++ [10] = g x by intro x; rw [hg])
  have cat1 := str_cat [112, 97, 99, 107, 97, 103, 101, 32] t.text
  have cat2 := str_cat ([112, 97, 99, 107, 97, 103, 101, 32] ++ t.text) [10]
  simp only [List.append_assoc, List.cons_append, List.nil_append] at cat1 cat2
  have c1 := cell_at G0.out 1
  have c2 := cell_at G0.out 2
  simp only [List.getElem?_toArray, List.getElem?_cons_zero, List.getElem?_cons_succ] at c1 c2
  clear hg hacc hkb hgl hz HN' HF' HZ'
  go_wp2_with fail
  rw [A0.out]
  clear c1 c2
  go_loopw [5, 6] (fun o z wr => ∃ (i : Nat), z = .int .i64 (i : Nat) ∧ i ≤ t.kids.length ∧ o = .string ⟨(acc i).toArray⟩ ∧ Hid (Ext none' W2 wr)) (fun _ z _ => t.kids.length - (RowKit.intOf z).toNat)
  case atStart => exact ⟨0, rfl, by omega, rfl, hid (Ext.refl _ _)⟩
  case round =>
    obtain ⟨i, rfl, hle, rfl, R⟩ := hrel
    have b2 := (show wr.cell? ⟨B, 2, none⟩ = some (.slice a1 t.kids.length cap1) from cell_at (R.out.heap G0.out fun h => h) 2)
    have XR := hid (X2.out.trans R.out)
    by_cases hi : i < t.kids.length
    · obtain ⟨b, off, cs, rfl, _, hbw, hcc, hty⟩ := (HY.out.ext isNd_good XR.out fun _ _ h => h.elim).at i hi
      obtain ⟨y, rfl, hy⟩ := hty.parts
      have HYI := hid hy
      have c0 := hcc 0 _ rfl
      have c1 := hcc 1 _ rfl
      have c2 := hcc 2 _ rfl
      have c3 := hcc 3 _ rfl
      simp only [Nat.add_zero] at c0
      obtain ⟨a3, cap3, rfl, _⟩ := hy
      have CD := hid (CD.out i hi)
      have A1 := hid (A1.out i hi)
      have hal := AL.out i
      have hgl := GL.out i hi
      have GE := hid (GE.out t.kids[i])
      obtain ⟨t1, ht1⟩ : ∃ t1, t.kids[i] = t1 := ⟨_, rfl⟩
      rw [ht1] at c0 c1 c2 c3 CD A1 hgl HYI GE
      obtain ⟨x1, hx1⟩ : ∃ x1, declT (typF f) (exT f) (stT f) t1 = x1 := ⟨_, rfl⟩
      rw [hx1] at CD GE
      obtain ⟨q1, hq1⟩ : ∃ q1, g t1 = q1 := ⟨_, rfl⟩
      rw [hq1] at A1 hgl GE
      obtain ⟨o1, ho1⟩ : ∃ o1, acc i = o1 := ⟨_, rfl⟩
      rw [ho1] at A1 hal ⊢
      have hxl : x1.length ≤ 10000000000000 := by
        have := congrArg List.length GE.out
        simp only [List.length_append, List.length_cons, List.length_nil] at this
        omega
      have cat1 := str_cat [10] x1
      have cat2 := str_cat (10 :: x1) [10]
      have cat3 := str_cat o1 (10 :: (x1 ++ [10]))
      have hg2 := GE.out
      simp only [List.append_assoc, List.cons_append, List.nil_append] at cat1 cat2 cat3 hg2
      have HG2 := hid hg2
      clear ht1 hx1 hq1 ho1 hcc hty hg2
      go_wp2_with fail
      refine (CD.out _ XR.out _ ⟨_, rfl, HYI.out⟩).mono ?_
      rintro e w2 ⟨rfl, X2'⟩
      have N := hid (R.out.trans X2')
      clear c0 c1 c2 c3 X2' b2
      go_wp2_with fail
      go_roundw
      case rel => exact ⟨i + 1, by go_num, by omega, by rw [A1.out, ← HG2.out], N⟩
      case measure => simp [RowKit.intOf]; omega
    · obtain rfl : i = t.kids.length := by omega
      have hal := AL.out t.kids.length
      have cv := bytes_str (HB.out.ext R.out fun _ h => h.elim) NE.out
      have HR := hid HR.out
      obtain ⟨o1, ho1⟩ : ∃ o1, acc t.kids.length = o1 := ⟨_, rfl⟩
      rw [ho1] at HR hal ⊢
      have e := HR.out
      subst e
      have CA := hid (CA.out _ XR.out)
      clear ho1 HR
      go_wp2_with fail
      refine CA.out.mono ?_
      rintro e W3 ⟨rfl, X3⟩
      have X3 := hid (XR.out.trans X3)
      go_wp2_with fail
      go_ret
      exact ⟨rfl, X3.out⟩
end Go.Proofs.YthbmjamgidfneaaGreatDoor
