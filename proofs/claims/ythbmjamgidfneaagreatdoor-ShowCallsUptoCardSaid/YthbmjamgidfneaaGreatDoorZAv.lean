import Derived.Test.YthbmjamgidfneaaGreatDoorZAs
import Derived.Test.YthbmjamgidfneaaGreatDoorZAu
import Derived.Laws.IdiomStrings
import Derived.Laws.AppendOwn
import Derived.Test.YthbmjamgidfneaaGreatDoorZAg
import Derived.Test.YthbmjamgidfneaaGreatDoorZAi
import Derived.Test.YthbmjamgidfneaaGreatDoorZAb
import Derived.Test.YthbmjamgidfneaaGreatDoorProg
import Derived.Deep.Slices
import Derived.ChangeMaps5
import Derived.Test.YthbmjamgidfneaaGreatDoorRows
import Derived.Deep.Strs
import Derived.Lib.SmallJoins
/-
  show.File: printed by mksxp.py.
-/
namespace Go.Proofs.YthbmjamgidfneaaGreatDoor
open Go.RowKit Go.Lib Go.BigFrame
set_option linter.unusedVariables false
set_option linter.unusedSimpArgs false
theorem declT_len {f : Nat} {t : Nd} (hf : f + 1 ≤ 1100000) (hs : t.size ≤ f + 1) (h : declB (tyF nmB f) (exF f) (stF f) t = true) : (declT (typF f) (exT f) (stT f) t).length + 1000000 ≤ 4000000 * t.size := by
  have hx := fun x (hx : x.size ≤ f) => (lens_all f 0 (by omega)).1 x hx
  have hs1 := fun x (hx : x.size ≤ f) => (lens_all f 1 (by omega)).2 x hx
  unfold declB at h
  unfold declT
  by_cases h2 : t.kind = 2
  · rw [if_pos h2] at h ⊢
    obtain ⟨_, hn, h3⟩ := namB_parts h
    obtain ⟨x, y, z, hk, hx1, hy1, hz1⟩ := three_kids h3
    obtain ⟨e0, e1, e2⟩ := kid_three hk
    have := size_three hk
    have := nmB_len _ hn
    have := (pars_len (f := f) (by omega) hx1).1
    have := sigT_len nmB_len hy1 (show y.size ≤ f + 1 by omega)
    have := blk_len (deep := 0) (st := stT f) (f := f) (by omega) (fun z hm hz => hs1 z (by have := Nd.size_kid hm; omega) hz) hz1
    rw [e0, e1, e2]
    simp only [List.length_append, List.length_cons, List.length_nil]
    omega
  rw [if_neg h2] at h ⊢
  by_cases h3 : t.kind = 3
  · rw [if_pos h3] at h ⊢
    obtain ⟨_, hn, h3⟩ := namB_parts h
    obtain ⟨x, y, hk, hx1, hy1⟩ := two_kids h3
    obtain ⟨e0, e1⟩ := kid_two hk
    have := size_two hk
    have := nmB_len _ hn
    have := (pars_len (f := f) (by omega) hx1).1
    rw [e0, e1]
    unfold wType
    by_cases h13 : y.kind = 13
    · rw [if_pos h13]
      have hys : structB (tyF nmB f) y = true := by
        unfold orB at hy1
        simp only [Bool.or_eq_true] at hy1
        rcases hy1 with (h | h) | h
        · have := tyF_kind h; omega
        · exact h
        · have := (interB_parts h).1; omega
      unfold structB at hys
      simp only [Bool.and_eq_true, List.all_eq_true] at hys
      have hz := size_kids y
      have := flat_len (p := fun x => lineT 1 (x.text ++ [32] ++ typF f (x.kid 0))) (l := y.kids) fun x hx => (fld_len (hys.2.2 x hx) (by have := Nd.size_kid hx; omega)).1
      simp only [List.length_append, List.length_cons, List.length_nil] at this ⊢
      omega
    · rw [if_neg h13]
      have hyD : TyiD f y := ⟨by omega, by
        unfold orB at hy1
        simp only [Bool.or_eq_true] at hy1
        rcases hy1 with (h | h) | h
        · exact .inr ⟨by omega, h⟩
        · exfalso
          unfold structB at h
          simp only [Bool.and_eq_true, beq_iff_eq] at h
          exact h13 h.1
        · exact .inl h⟩
      have := inT_len hyD
      simp only [List.length_append, List.length_cons, List.length_nil]
      omega
  rw [if_neg h3] at h ⊢
  by_cases h4 : t.kind = 4
  · rw [if_pos h4] at h ⊢
    obtain ⟨_, hn, h3⟩ := namB_parts h
    obtain ⟨x, y, hk, hx1, hy1⟩ := two_kids h3
    obtain ⟨e0, e1⟩ := kid_two hk
    have := size_two hk
    have := nmB_len _ hn
    have := (pars_len (f := f) (by omega) hx1).1
    have := ty_len hy1 (show y.size ≤ f by omega)
    rw [e0, e1]
    unfold wType
    simp only [List.length_append, List.length_cons, List.length_nil]
    omega
  rw [if_neg h4] at h ⊢
  have := varT_len (deep := 0) (ex := exT f) hs (fun x hm hx' => hx x (by have := Nd.size_kid hm; omega) hx') h
  omega
/-- What show.File returns. -/
def FilePost (p : Bool) (q : List UInt8) (w : World) (e : Ending) (w' : World) : Prop :=
  ∃ v, e = .returned (.tuple #[v, .int .i64 (if p then 0 else 9)]) ∧ Bytes w'.heap.size w' v (if p then q else []) ∧ Ext none' w w'
set_option maxRecDepth 100000 in
set_option maxHeartbeats 3200000 in
theorem shfile_any (f : Nat) (hf : f + 1 ≤ 1100000) (t : Nd) (ht : t.size ≤ f + 1) (v : Value) (w : World) (hm : MaxL w) (hv : NdV none' w t v) :
    Calls Tryz.prog 15 #[v] w (FilePost (rightB (fileB (tyF nmB f) (exF f) (stF f) t) t) (fileT (typF f) (exT f) (stT f) t) w) := by
  have CRR := hid fun W (X : Ext none' w W) => fileRight_any f (by unfold bigD; omega) t ht v W (maxL_later hm X) (hv.ext X fun _ _ h => h)
  have HP := hid fun (h : rightB (fileB (tyF nmB f) (exF f) (stF f) t) t = true) => (by
    have h2 := h
    unfold rightB at h2
    simp only [Bool.and_eq_true] at h2
    have h3 := h2.2.2
    unfold fileB at h3
    simp only [Bool.and_eq_true, List.all_eq_true] at h3
    exact ⟨nmB_len _ h3.2.1, h3.2.2⟩ : t.text.length ≤ 100 ∧ ∀ x ∈ t.kids, declB (tyF nmB f) (exF f) (stF f) x = true)
  obtain ⟨p, hp⟩ : ∃ p, rightB (fileB (tyF nmB f) (exF f) (stF f) t) t = p := ⟨_, rfl⟩
  rw [hp] at CRR HP ⊢
  obtain ⟨rr, hrr⟩ : ∃ r, r = fileT (typF f) (exT f) (stT f) t := ⟨_, rfl⟩
  rw [← hrr]
  obtain ⟨y, rfl, hy⟩ := hv
  have HY := hid hy
  obtain ⟨a1, cap1, rfl, hcap, _⟩ := hy
  have hkl : t.kids.length ≤ 1100000 := by have := t.kids_len; omega
  obtain ⟨B, hB⟩ : ∃ B, B = w.heap.size := ⟨_, rfl⟩
  obtain ⟨W0, hW0⟩ : ∃ W0, W0 = (w.alloc (.cells #[.int .i64 t.kind, .string ⟨t.text.toArray⟩, .slice a1 t.kids.length cap1, .int .i64 t.pos] 24)) := ⟨_, rfl⟩
  have X0 := hid (show Ext none' w W0 by rw [hW0]; exact (Ext.refl _ _).alloc _)
  have G0 := hid (show W0.heap[B]? = some (.cells #[.int .i64 t.kind, .string ⟨t.text.toArray⟩, .slice a1 t.kids.length cap1, .int .i64 t.pos] 24 (0, 0)) by rw [hW0, hB]; exact heap_alloc_at rfl _)
  have HF := hid hf
  have HT := hid ht
  have HM := hid hm
  have HRR := hid hrr
  clear hp hf ht hm hrr
  go_enter Tryz.func15, Tryz.ntmps15
  go_upto_region 1 with (fail)
  rw [← hW0, ← hB]
  clear hW0 hB
  have c0 := cell_at G0.out 0
  have c1 := cell_at G0.out 1
  have c2 := cell_at G0.out 2
  have c3 := cell_at G0.out 3
  simp only [List.getElem?_toArray, List.getElem?_cons_zero, List.getElem?_cons_succ] at c0 c1 c2 c3
  go_wp2_with fail
  refine (CRR.out _ X0.out).mono ?_
  rintro e w1 ⟨rfl, X1⟩
  have G0 := hid (X1.heap G0.out fun h => h)
  have X1 := hid (X0.out.trans X1)
  clear c0 c1 c2 c3
  cases p with
  | false =>
    go_wp2_with fail
    go_ret2
    exact ⟨_, rfl, ⟨_, 0, rfl, Nat.le_refl _, by omega, fun _ => rfl, fun h => absurd rfl h⟩, X1.out⟩
  | true =>
    obtain ⟨htl, hkb⟩ := HP.out rfl
    have HT' := HT.out
    have HF' := HF.out
    obtain ⟨g, hg⟩ : ∃ g, g = fun d => [10] ++ declT (typF f) (exT f) (stT f) d ++ [10] := ⟨_, rfl⟩
    have hgl : ∀ x ∈ t.kids, (g x).length ≤ 4000000 * x.size := fun x hx => by
      have h1 := declT_len (f := f) HF' (by have := Nd.size_kid hx; omega) (hkb x hx)
      rw [hg]
      simp only [List.length_append, List.length_cons, List.length_nil]
      omega
    have hz := size_kids t
    obtain ⟨acc, hacc⟩ : ∃ acc : Nat → List UInt8, acc = fun i => [112, 97, 99, 107, 97, 103, 101, 32] ++ (t.text ++ [10]) ++ ((t.kids.take i).map g).flatten := ⟨_, rfl⟩
    have AL := hid (show ∀ i, (acc i).length ≤ 10000000000000 by
      intro i
      have h1 := flat_len (p := g) (l := t.kids.take i) fun x hx => hgl x (List.mem_of_mem_take hx)
      have h2 : Nd.sizeL (t.kids.take i) ≤ Nd.sizeL t.kids := by
        conv => rhs; rw [← List.take_append_drop i t.kids]
        clear h1
        generalize t.kids.take i = a
        induction a with
        | nil => simp [Nd.sizeL]
        | cons x r ih => simp only [List.cons_append, Nd.sizeL]; omega
      rw [hacc]
      simp only [List.length_append, List.length_cons, List.length_nil]
      omega)
    have A1 := hid (show ∀ i (h : i < t.kids.length), acc (i + 1) = acc i ++ g t.kids[i] by
      intro i h
      rw [hacc]
      show _ ++ ((t.kids.take (i + 1)).map g).flatten = _ ++ ((t.kids.take i).map g).flatten ++ g t.kids[i]
      rw [List.take_add_one, List.getElem?_eq_getElem h, List.map_append, List.flatten_append]
      simp)
    have A0 := hid (show 112 :: 97 :: 99 :: 107 :: 97 :: 103 :: 101 :: 32 :: (t.text ++ [10]) = acc 0 by rw [hacc]; simp)
    have HR := hid (show rr = acc t.kids.length by
      rw [HRR.out, hacc, hg]
      unfold fileT
      simp)
    have GL := hid (show ∀ i (h : i < t.kids.length), (g t.kids[i]).length ≤ 10000000000000 by
      intro i h
      have h1 := hgl _ (List.getElem_mem h)
      have h2 := Nd.size_kid (List.getElem_mem h)
      omega)
    have CD := hid fun i (h : i < t.kids.length) W (X : Ext none' w W) v' (hv' : NdV none' W t.kids[i] v') => shdecl_any f HF.out t.kids[i] (by have := Nd.size_kid (List.getElem_mem h); omega) (hkb _ (List.getElem_mem h)) v' W (maxL_later HM.out X) hv'
    have GE := hid (show ∀ x, [10] ++ declT (typF f) (exT f) (stT f) x ++ [10] = g x by intro x; rw [hg])
    have cat1 := str_cat [112, 97, 99, 107, 97, 103, 101, 32] t.text
    have cat2 := str_cat ([112, 97, 99, 107, 97, 103, 101, 32] ++ t.text) [10]
    simp only [List.append_assoc, List.cons_append, List.nil_append] at cat1 cat2
    have c1 := cell_at G0.out 1
    have c2 := cell_at G0.out 2
    simp only [List.getElem?_toArray, List.getElem?_cons_zero, List.getElem?_cons_succ] at c1 c2
    clear hg hacc hkb hgl hz HT' HF' HP
    go_wp2_with fail
    rw [A0.out]
    clear c1 c2
    go_loopw [4, 6, 17] (fun o _ z wr => ∃ (i : Nat), z = .int .i64 (i : Nat) ∧ i ≤ t.kids.length ∧ o = .string ⟨(acc i).toArray⟩ ∧ Hid (Ext none' w wr)) (fun _ _ z _ => t.kids.length - (RowKit.intOf z).toNat)
    case atStart => exact ⟨0, rfl, by omega, rfl, X1⟩
    case round =>
      obtain ⟨i, rfl, hle, rfl, R⟩ := hrel
      by_cases hi : i < t.kids.length
      · obtain ⟨b, off, cs, rfl, _, hbw, hcc, hty⟩ := (HY.out.ext isNd_good R.out fun _ _ h => h.elim).at i hi
        obtain ⟨y, rfl, hy⟩ := hty.parts
        have HYI := hid hy
        have c0 := hcc 0 _ rfl
        have c1 := hcc 1 _ rfl
        have c2 := hcc 2 _ rfl
        have c3 := hcc 3 _ rfl
        simp only [Nat.add_zero] at c0
        obtain ⟨a3, cap3, rfl, _⟩ := hy
        have CD := hid (CD.out i hi)
        have A1 := hid (A1.out i hi)
        have hal := AL.out i
        have hgl := GL.out i hi
        have GE := hid (GE.out t.kids[i])
        obtain ⟨t1, ht1⟩ : ∃ t1, t.kids[i] = t1 := ⟨_, rfl⟩
        rw [ht1] at c0 c1 c2 c3 CD A1 hgl HYI GE
        obtain ⟨x1, hx1⟩ : ∃ x1, declT (typF f) (exT f) (stT f) t1 = x1 := ⟨_, rfl⟩
        rw [hx1] at CD GE
        obtain ⟨q1, hq1⟩ : ∃ q1, g t1 = q1 := ⟨_, rfl⟩
        rw [hq1] at A1 hgl GE
        obtain ⟨o1, ho1⟩ : ∃ o1, acc i = o1 := ⟨_, rfl⟩
        rw [ho1] at A1 hal ⊢
        have hxl : x1.length ≤ 10000000000000 := by
          have := congrArg List.length GE.out
          simp only [List.length_append, List.length_cons, List.length_nil] at this
          omega
        have cat1 := str_cat [10] x1
        have cat2 := str_cat (10 :: x1) [10]
        have cat3 := str_cat o1 (10 :: (x1 ++ [10]))
        have hg2 := GE.out
        simp only [List.append_assoc, List.cons_append, List.nil_append] at cat1 cat2 cat3 hg2
        have HG2 := hid hg2
        clear ht1 hx1 hq1 ho1 hcc hty hg2
        go_wp2_with fail
        refine (CD.out _ (R.out.trans ((Ext.refl _ _).alloc _)) _ ⟨_, rfl, HYI.out.ext isNd_good ((Ext.refl _ _).alloc _) fun _ _ h => h⟩).mono ?_
        rintro e w2 ⟨rfl, X2⟩
        have N := hid (R.out.trans (((Ext.refl none' wr).alloc _).trans X2))
        clear c0 c1 c2 c3 X2
        go_wp2_with fail
        go_roundw
        case rel => exact ⟨i + 1, by go_num, by omega, by rw [A1.out, ← HG2.out], N⟩
        case measure => simp [RowKit.intOf]; omega
      · obtain rfl : i = t.kids.length := by omega
        have hal := AL.out t.kids.length
        obtain ⟨o1, ho1⟩ : ∃ o1, acc t.kids.length = o1 := ⟨_, rfl⟩
        rw [ho1] at HR hal ⊢
        have hcv := fun W => run_bytes_of_string (P := Tryz.prog) W 9 37 5 ⟨o1.toArray⟩ Tryz.underlying9 Tryz.underlying37 Tryz.underlying5
        clear ho1
        go_wp2_with fail
        go_ret2
        have e := HR.out
        subst e
        refine ⟨_, rfl, ?_, ?_⟩
        · show Bytes _ _ (.slice (some ⟨wr.heap.size, 0, none⟩) rr.length (grownCap wr rr.length 0 5)) rr
          have hge := grownCap_ge wr rr.length 0 5
          have hle := grownCap_le_maxLen wr rr.length 0 5 (by unfold maxLen; omega)
          refine ⟨_, _, rfl, hge, (by unfold maxLen at hle; omega), (fun h => by cases h), fun _ => ⟨wr.heap.size, 0, rfl, ?_, ?_, fun j hj => ?_⟩⟩
          · show wr.heap.size < (wr.alloc _).heap.size
            simp
          · show wr.heap.size < (wr.alloc _).heap.size
            simp
          · show (wr.alloc _).cell? _ = _
            rw [cell_at (heap_alloc_at rfl _), Nat.zero_add, bytesRow_at _ _ _ hj]
            rfl
        · exact R.out.trans ((Ext.refl _ _).alloc _).drew
end Go.Proofs.YthbmjamgidfneaaGreatDoor
/-
  demoticref06.Depth: how many nodes are within one another, to a depth.
-/
namespace Go.Proofs.YthbmjamgidfneaaGreatDoor
open Go.RowKit Go.Lib Go.BigFrame
def dm (f : Nat) (l : List Nd) : Nat := (l.map (depD f)).foldr max 0
theorem dm_snoc (f : Nat) (l : List Nd) (t : Nd) : dm f (l ++ [t]) = max (dm f l) (depD f t) := by
  unfold dm
  induction l with
  | nil => simp
  | cons a r ih => rw [List.cons_append, List.map_cons, List.foldr_cons, ih, List.map_cons, List.foldr_cons]; omega
theorem depD_le : ∀ (f : Nat) (t : Nd), depD f t ≤ f
  | 0, _ => Nat.le_refl _
  | f + 1, t => by
    have key : ∀ l : List Nd, (l.map (depD f)).foldr max 0 ≤ f := by
      intro l
      induction l with
      | nil => exact Nat.zero_le _
      | cons a r ih => rw [List.map_cons, List.foldr_cons]; have := depD_le f a; omega
    rw [depD]
    have := key t.kids
    omega
theorem dm_le (f : Nat) (l : List Nd) : dm f l ≤ f := by
  unfold dm
  induction l with
  | nil => exact Nat.zero_le _
  | cons a r ih => rw [List.map_cons, List.foldr_cons]; have := depD_le f a; omega
set_option maxRecDepth 100000 in
set_option maxHeartbeats 1600000 in
theorem ndepth_any : ∀ (f : Nat), f ≤ 100000 → ∀ (t : Nd), t.size ≤ bigD → ∀ (A : Nat → Prop) (v : Value) (w : World), NdV A w t v → Calls Tryz.prog 30 #[v, .int .i64 (f : Nat)] w (IntP (depD f t : Nat) w) := by
  intro f
  induction f with
  | zero =>
    intro _ t _ A v w hv
    obtain ⟨x, rfl, hx⟩ := hv
    obtain ⟨a0, cap0, rfl, _⟩ := hx
    go_enter Tryz.func30, Tryz.ntmps30
    go_wp2_with fail
    go_ret
    exact ⟨rfl, (Ext.refl _ _).alloc _⟩
  | succ f ih =>
    intro hf t hsz A v w hv
    cases t with
    | mk k n l ps =>
    obtain ⟨p, hp⟩ : ∃ p, p = depD (f + 1) (.mk k n l ps) := ⟨_, rfl⟩
    rw [← hp]
    have hp : p = dm f l + 1 := hp
    have HP := hid hp
    obtain ⟨x, rfl, hx⟩ := hv
    have hx : IsSl 4 IsNd A w x l := hx
    have HX := hid hx
    obtain ⟨a0, cap0, rfl, _⟩ := hx
    have HIH := hid (ih (by omega))
    have hll : l.length ≤ bigD := by have := Nd.kids_len (.mk k n l ps); simp only [Nd.kids] at this; omega
    unfold bigD at hll
    have HSZ := hid hsz
    have HFF := hid hf
    clear ih hp hsz
    show Calls Tryz.prog 30 #[.agg #[.int .i64 k, .string ⟨n.toArray⟩, .slice a0 l.length cap0, .int .i64 ps], .int .i64 ((f + 1 : Nat) : Nat)] w (IntP (p : Nat) w)
    obtain ⟨B, hB⟩ : ∃ B, B = w.heap.size := ⟨_, rfl⟩
    have g0 := heap_alloc_at (w := w) hB (.cells #[.int .i64 k, .string ⟨n.toArray⟩, .slice a0 l.length cap0, .int .i64 ps] 24)
    obtain ⟨W1, hW1⟩ : ∃ W1, W1 = w.alloc (.cells #[.int .i64 k, .string ⟨n.toArray⟩, .slice a0 l.length cap0, .int .i64 ps] 24) := ⟨_, rfl⟩
    have X1 : Ext none' w W1 := by rw [hW1]; exact (Ext.refl _ _).alloc _
    rw [← hW1] at g0
    have HX1 := hid (HX.out.ext isNd_good X1 fun _ _ h => h.elim)
    have X1 := hid X1
    have hb2 : Hid (∀ W, Ext none' W1 W → W.cell? ⟨B, 2, none⟩ = some (.slice a0 l.length cap0)) := hid fun W X => by rw [cell_at (X.heap g0 (fun h => h))]; rfl
    have hz : (((f + 1 : Nat) : Int) == 0) = false := by simp only [beq_eq_false_iff_ne]; omega
    have hs : ((f + 1 : Nat) : Int) - 1 = (f : Int) := by omega
    obtain ⟨F, hF⟩ : ∃ F : Int, F = ((f + 1 : Nat) : Int) := ⟨_, rfl⟩
    have hFb : F ≤ 100000 ∧ 1 ≤ F := by omega
    rw [← hF] at hz hs ⊢
    clear g0 hF
    go_enter Tryz.func30, Tryz.ntmps30
    go_wp2_with fail
    rw [← hW1, ← hB]
    clear hB hW1
    go_loopw [5, 6] (fun c z wr => ∃ (i : Nat), z = .int .i64 (i : Nat) ∧ i ≤ l.length ∧ c = .int .i64 ((dm f (l.take i) : Nat) : Nat) ∧ Hid (Ext none' W1 wr)) (fun _ z _ => l.length - (RowKit.intOf z).toNat)
    case atStart => exact ⟨0, rfl, by omega, rfl, hid (Ext.refl _ _)⟩
    case round =>
      obtain ⟨i, rfl, hle, rfl, HR⟩ := hrel
      have b2 := hb2.out _ HR.out
      by_cases hi : i < l.length
      · obtain ⟨b, off, cs, rfl, hAb, hbw, hcc, hty⟩ := (HX1.out.ext isNd_good HR.out fun _ _ h => h.elim).at i hi
        obtain ⟨x', rfl, hx'⟩ := hty.parts
        have c0 := hcc 0 _ rfl
        have c1 := hcc 1 _ rfl
        have c2 := hcc 2 _ rfl
        have c3 := hcc 3 _ rfl
        simp only [Nat.add_zero] at c0
        have hmem := List.getElem_mem hi
        have hts : l[i].size ≤ bigD := by have := Nd.size_kid (t := .mk k n l ps) hmem; have := HSZ.out; omega
        have HX2 := hid hx'
        obtain ⟨a', cap', rfl, _⟩ := hx'
        have CS := hid (HIH.out l[i] hts A (.agg #[.int .i64 l[i].kind, .string ⟨l[i].text.toArray⟩, .slice a' l[i].kids.length cap', .int .i64 l[i].pos]) wr ⟨_, rfl, HX2.out⟩)
        have htake : l.take (i + 1) = l.take i ++ [l[i]] := by rw [List.take_add_one, List.getElem?_eq_getElem hi]; rfl
        have hsn : dm f (l.take (i + 1)) = max (dm f (l.take i)) (depD f l[i]) := by rw [htake, dm_snoc]
        have hbd : depD f l[i] ≤ 100000 := by have := depD_le f l[i]; have := HFF.out; omega
        have hcl : dm f (l.take i) ≤ 100000 := by have := dm_le f (l.take i); have := HFF.out; omega
        obtain ⟨q, hq⟩ : ∃ q, depD f l[i] = q := ⟨_, rfl⟩
        obtain ⟨c, hc⟩ : ∃ c, dm f (l.take i) = c := ⟨_, rfl⟩
        rw [hq] at CS hsn hbd
        rw [hc] at hsn hcl ⊢
        have HSN := hid hsn
        clear hcc hty hsn htake hq hc hts
        go_wp2_with fail
        refine CS.out.mono ?_
        rintro e w2 ⟨rfl, X2⟩
        have X2 := hid (HR.out.trans X2)
        go_wp2_with fail
        go_roundw
        case rel => exact ⟨i + 1, by go_num, by omega, by rw [HSN.out]; congr 1; omega, X2⟩
        case measure => simp [RowKit.intOf]; omega
      · obtain rfl : i = l.length := by omega
        obtain ⟨m, hm⟩ : ∃ m, dm f (l.take l.length) = m := ⟨_, rfl⟩
        have e1 : Hid (p = m + 1) := hid (by rw [HP.out, ← hm, List.take_length])
        have hmb : m ≤ 100000 := by rw [← hm]; have := dm_le f (l.take l.length); have := HFF.out; omega
        rw [hm]
        clear hm
        go_wp2_with fail
        go_ret
        exact ⟨by rw [e1.out]; rfl, X1.out.trans HR.out⟩
end Go.Proofs.YthbmjamgidfneaaGreatDoor
/-
  What the laws of the texts ask of right trees: plain.
-/
namespace Go.Proofs.YthbmjamgidfneaaGreatDoor
open Go.RowKit Go.Lib
theorem foldr_map_le {g : Nd → Nat} {m : Nat} : ∀ {l : List Nd}, (∀ x ∈ l, g x ≤ m) → (l.map g).foldr max 0 ≤ m
  | [], _ => Nat.zero_le _
  | a :: r, h => by
    have h1 := h a (by simp)
    have h2 := foldr_map_le (g := g) (m := m) (l := r) fun x hx => h x (by simp [hx])
    rw [List.map_cons, List.foldr_cons]
    omega
theorem depD_same : ∀ (f : Nat) (t : Nd), depD f t < f → depD (f + 1) t = depD f t
  | 0, _, h => by omega
  | f + 1, t, h => by
    have key : ∀ x ∈ t.kids, depD (f + 1) x = depD f x := fun x hx => by
      have := depD_kid (f := f) hx
      exact depD_same f x (by omega)
    show (t.kids.map (depD (f + 1))).foldr max 0 + 1 = (t.kids.map (depD f)).foldr max 0 + 1
    rw [List.map_congr_left key]
theorem sizeDL_mono {f : Nat} : ∀ {l : List Nd}, (∀ x ∈ l, sizeD f x ≤ sizeD (f + 1) x) → (l.map (sizeD f)).sum ≤ (l.map (sizeD (f + 1))).sum
  | [], _ => Nat.le_refl _
  | a :: r, h => by
    have h1 := h a (by simp)
    have h2 := sizeDL_mono (f := f) (l := r) fun x hx => h x (by simp [hx])
    rw [List.map_cons, List.map_cons, List.sum_cons, List.sum_cons]
    omega
theorem sizeD_succ : ∀ (f : Nat) (t : Nd), sizeD f t ≤ sizeD (f + 1) t
  | 0, t => Nat.zero_le _
  | f + 1, t => by
    have := sizeDL_mono (f := f) (l := t.kids) fun x _ => sizeD_succ f x
    show 1 + (t.kids.map (sizeD f)).sum ≤ 1 + (t.kids.map (sizeD (f + 1))).sum
    omega
theorem sizeD_mono {f g : Nat} (h : f ≤ g) (t : Nd) : sizeD f t ≤ sizeD g t := by
  induction h with
  | refl => exact Nat.le_refl _
  | step _ ih => exact Nat.le_trans ih (sizeD_succ _ _)
theorem sum_mem_le : ∀ {l : List Nat} {x : Nat}, x ∈ l → x ≤ l.sum
  | a :: r, x, h => by
    rw [List.sum_cons]
    rcases List.mem_cons.1 h with rfl | h
    · omega
    · have := sum_mem_le h; omega
theorem sizeD_kid {f : Nat} {t x : Nd} (h : x ∈ t.kids) : sizeD f x + 1 ≤ sizeD (f + 1) t := by
  have := sum_mem_le (List.mem_map_of_mem (f := sizeD f) h)
  show _ ≤ 1 + (t.kids.map (sizeD f)).sum
  omega
/-- A kid of a right tree that is not so great is right, if it is of the sort. -/
theorem rightB_kid {p q : Bool} {t x : Nd} (h : rightB p t = true) (hs : sizeD 1000 t ≤ 65536) (hx : x ∈ t.kids) (hq : q = true) : rightB q x = true := by
  unfold rightB at h ⊢
  rw [depthN_dep] at h ⊢
  simp only [Bool.and_eq_true, decide_eq_true_eq] at h ⊢
  obtain ⟨h1, h2, h3⟩ := h
  have d1 : depD 100 x + 1 ≤ depD 101 t := depD_kid (f := 100) hx
  have d2 : depD 101 x = depD 100 x := depD_same 100 x (by omega)
  have s1 : sizeD 999 x + 1 ≤ sizeD 1000 t := sizeD_kid (f := 999) hx
  have s2 := sizeD_mono (f := 100) (g := 999) (by omega) x
  exact ⟨by omega, by omega, hq⟩
end Go.Proofs.YthbmjamgidfneaaGreatDoor
/-
  demoticlaw07: small, node, awake.
-/
namespace Go.Proofs.YthbmjamgidfneaaGreatDoor
open Go.RowKit Go.Lib Go.BigFrame
set_option linter.unusedVariables false
set_option maxRecDepth 100000 in
theorem small_any (t : Nd) (m : Nat) (hm : m ≤ 1000000) (ht : t.size ≤ bigD) (v : Value) (w : World) (hv : NdV none' w t v) :
    Calls Tryz.prog 9 #[v, .int .i64 (m : Nat)] w (BoolP (decide (sizeD 1000 t ≤ m)) w) := by
  have CZ := hid fun W (X : Ext none' w W) => nsize_any 1000 (by omega) t ht none' v W (hv.ext X fun _ _ h => h)
  obtain ⟨x, rfl, hx⟩ := hv
  obtain ⟨a1, cap1, rfl, _⟩ := hx
  have hz := sizeD_le 1000 t
  obtain ⟨z, hz'⟩ : ∃ z, sizeD 1000 t = z := ⟨_, rfl⟩
  rw [hz'] at CZ hz ⊢
  have hzb : z ≤ 20000000000 := by unfold bigD at ht; omega
  obtain ⟨r, hr⟩ : ∃ r, decide (z ≤ m) = r := ⟨_, rfl⟩
  rw [hr]
  have HR := hid hr
  clear hz' hz ht hr
  go_enter Tryz.func9, Tryz.ntmps9
  go_wp2_with fail
  refine (CZ.out _ ((Ext.refl _ _).alloc _)).mono ?_
  rintro e W2 ⟨rfl, X2⟩
  go_wp2_with fail
  go_ret
  exact ⟨by show Ending.returned (.bool (decide (z ≤ m))) = _; rw [HR.out], ((Ext.refl _ _).alloc _).trans X2⟩
def NodeV (k : Int) (s : List UInt8) (u : Value) (w : World) (e : Ending) (w' : World) : Prop := e = .returned (.agg #[.int .i64 k, .string ⟨s.toArray⟩, u, .int .i64 0]) ∧ Ext none' w w'
set_option maxRecDepth 100000 in
theorem node_any (k : Int) (s : List UInt8) (a : Option Addr) (n cap : Nat) (w : World) :
    Calls Tryz.prog 14 #[.int .i64 k, .string ⟨s.toArray⟩, .slice a n cap] w (NodeV k s (.slice a n cap) w) := by
  obtain ⟨B, hB⟩ : ∃ B, B = w.heap.size := ⟨_, rfl⟩
  obtain ⟨W0, hW0⟩ : ∃ W0, W0 = w.alloc (.cells #[.int .i64 0, .string ⟨#[]⟩, .slice none 0 0, .int .i64 0] 24) := ⟨_, rfl⟩
  have X0 := hid (show Ext none' w W0 by rw [hW0]; exact (Ext.refl _ _).alloc _)
  have G1 := hid (show W0.heap[B]? = some (.cells #[.int .i64 0, .string ⟨#[]⟩, .slice none 0 0, .int .i64 0] 24 (0, 0)) by rw [hW0]; exact heap_alloc_at hB _)
  have HB := hid hB
  go_enter Tryz.func14, Tryz.ntmps14
  go_upto_region 1 with (fail)
  rw [← hW0, ← hB]
  clear hW0 hB
  have f0 := free_at G1.out 0
  have f1 := free_at G1.out 1
  have f2 := free_at G1.out 2
  have f3 := free_at G1.out 3
  have e0 := cell_at G1.out 0
  have e1 := cell_at G1.out 1
  have e2 := cell_at G1.out 2
  have e3 := cell_at G1.out 3
  simp only [List.getElem?_toArray, List.getElem?_cons_zero, List.getElem?_cons_succ] at e0 e1 e2 e3
  go_wp2_with fail
  refine ret_nd rfl rfl (set4n G1.out _ _ _ _) rfl ?_
  exact ⟨rfl, X0.out.set4 (b := B) (.inr (by rw [HB.out]; omega)) _ _ _ _⟩
/-- A node of kids that lie in a row. -/
theorem node_nd (k : Int) (s : List UInt8) (l : List Nd) (u : Value) (w W : World) (hu : IsSl 4 IsNd none' W u l) : NdV none' W (.mk k s l 0) (.agg #[.int .i64 k, .string ⟨s.toArray⟩, u, .int .i64 0]) := ⟨_, rfl, hu⟩
/-! ### rows of nodes that were typed -/
theorem isSl_lit {α : Type} {sz : Nat} {R : Lay α} {A : Nat → Prop} {w : World} {b cap : Nat} {cs : Array Value} {t : TypeId} {fz : Nat × Nat} (h : w.heap[b]? = some (.cells cs t fz)) (xs : List α) (hA : ¬ A b) (hc : xs.length ≤ cap)
    (hx : ∀ i (h : i < xs.length), R A w xs[i] ((cs.toList.drop (i * sz)).take sz)) : IsSl sz R A w (.slice (some ⟨b, 0, none⟩) xs.length cap) xs :=
  ⟨_, cap, rfl, hc, (fun h => by cases h), fun _ => ⟨b, 0, rfl, hA, heap_lt h, fun i hi => ⟨_, fun j v hj => by
    have hjs : j < sz := by
      have := (List.getElem?_eq_some_iff.1 hj).1
      rw [List.length_take] at this
      omega
    rw [List.getElem?_take_of_lt hjs, List.getElem?_drop] at hj
    rw [cell_at h, Nat.zero_add, ← hj]
    simp, hx i hi⟩⟩⟩
/-! ### awake -/
def awA : Nd := .mk 18 [97] [] 0
def awB : Nd := .mk 18 [98] [] 0
def awC : Nd := .mk 18 [99] [] 0
def awSum : Nd := .mk 20 [43] [awA, awB] 0
def awMin : Nd := .mk 19 [45] [awSum] 0
def awAll : Nd := .mk 20 [42] [awMin, awC] 0
def awText : List UInt8 := [45, 40, 97, 32, 43, 32, 98, 41, 32, 42, 32, 99]
theorem aw_right : rightB (exF 12 awAll) awAll = true := by kernel_rfl
theorem aw_text : exT 12 0 false awAll = awText := by kernel_rfl
theorem aw_size : awAll.size ≤ 12 := by decide
end Go.Proofs.YthbmjamgidfneaaGreatDoor
/-
  demoticlaw07.awake.
-/
namespace Go.Proofs.YthbmjamgidfneaaGreatDoor
open Go.RowKit Go.Lib Go.BigFrame
set_option linter.unusedVariables false
set_option linter.unusedSimpArgs false
theorem isNd_two {w : World} {b : Nat} {cs : Array Value} {t : TypeId} {fz : Nat × Nat} (h : w.heap[b]? = some (.cells cs t fz)) (x y : Nd)
    (hx : IsNd none' w x (cs.toList.take 4)) (hy : IsNd none' w y ((cs.toList.drop 4).take 4)) : IsSl 4 IsNd none' w (.slice (some ⟨b, 0, none⟩) 2 2) [x, y] :=
  isSl_lit (xs := [x, y]) h (fun h => h) (by simp) (fun i hi => by
    have h' : i < 2 := hi
    have hi : i = 0 ∨ i = 1 := by omega
    rcases hi with rfl | rfl
    · simpa using hx
    · exact hy)
theorem isNd_one {w : World} {b : Nat} {cs : Array Value} {t : TypeId} {fz : Nat × Nat} (h : w.heap[b]? = some (.cells cs t fz)) (x : Nd)
    (hx : IsNd none' w x (cs.toList.take 4)) : IsSl 4 IsNd none' w (.slice (some ⟨b, 0, none⟩) 1 1) [x] :=
  isSl_lit (xs := [x]) h (fun h => h) (by simp) (fun i hi => by
    have h' : i < 1 := hi
    obtain rfl : i = 0 := by omega
    simpa using hx)
theorem isNd_leaf (k : Int) (s : List UInt8) (w : World) : IsNd none' w (.mk k s [] 0) [.int .i64 k, .string ⟨s.toArray⟩, .slice none 0 0, .int .i64 0] := IsNd.of (IsSl.nil _ _ _ _)
set_option maxRecDepth 100000 in
set_option maxHeartbeats 3200000 in
theorem awake_any (w : World) (hm : MaxL w) : Calls Tryz.prog 12 #[] w (TruePost w) := by
  have CT := hid fun W (X : Ext none' w W) u (hu : NdV none' W awAll u) => exprText_any 12 (by omega) awAll aw_size u W (maxL_later hm X) hu
  rw [aw_right, aw_text] at CT
  go_enter Tryz.func12, Tryz.ntmps12
  go_wp2_with fail
  refine (node_any 18 [97] none 0 0 _).mono ?_
  rintro e W1 ⟨rfl, X1⟩
  go_wp2_with fail
  refine (node_any 18 [98] none 0 0 _).mono ?_
  rintro e W2 ⟨rfl, X2⟩
  have X2 := hid (X1.trans X2)
  clear X1
  go_wp2_with fail
  obtain ⟨B3, hB3⟩ : ∃ B, B = W2.heap.size := ⟨_, rfl⟩
  obtain ⟨W3, hW3⟩ : ∃ W, W = W2.alloc (.cells #[.int .i64 18, .string ⟨#[97]⟩, .slice none 0 0, .int .i64 0, .int .i64 18, .string ⟨#[98]⟩, .slice none 0 0, .int .i64 0] 24) := ⟨_, rfl⟩
  rw [← hW3, ← hB3]
  have X3 := hid (show Ext none' w W3 by rw [hW3]; exact X2.out.alloc _)
  have G3 := hid (show W3.heap[B3]? = some (.cells #[.int .i64 18, .string ⟨#[97]⟩, .slice none 0 0, .int .i64 0, .int .i64 18, .string ⟨#[98]⟩, .slice none 0 0, .int .i64 0] 24 (0, 0)) by rw [hW3]; exact heap_alloc_at hB3 _)
  clear hW3 hB3
  refine (node_any 20 [43] _ 2 2 _).mono ?_
  rintro e W4 ⟨rfl, X4⟩
  have G3 := hid (X4.heap G3.out fun h => h)
  have X4 := hid (X3.out.trans X4)
  go_wp2_with fail
  obtain ⟨B5, hB5⟩ : ∃ B, B = W4.heap.size + 1 := ⟨_, rfl⟩
  obtain ⟨W5, hW5⟩ : ∃ W, W = (W4.alloc (.cells #[.int .i64 20, .string ⟨#[43]⟩, .slice (some ⟨B3, 0, none⟩) 2 2, .int .i64 0] 24)).alloc (.cells #[.int .i64 20, .string ⟨#[43]⟩, .slice (some ⟨B3, 0, none⟩) 2 2, .int .i64 0] 24) := ⟨_, rfl⟩
  rw [← hW5, ← hB5]
  have X5 := hid (show Ext none' W4 W5 by rw [hW5]; exact ((Ext.refl _ _).alloc _).alloc _)
  have G5 := hid (show W5.heap[B5]? = some (.cells #[.int .i64 20, .string ⟨#[43]⟩, .slice (some ⟨B3, 0, none⟩) 2 2, .int .i64 0] 24 (0, 0)) by rw [hW5]; exact heap_alloc_at (by rw [hB5]; simp) _)
  have G3 := hid (X5.out.heap G3.out fun h => h)
  have X5 := hid (X4.out.trans X5.out)
  clear hW5 hB5
  refine (node_any 19 [45] _ 1 1 _).mono ?_
  rintro e W6 ⟨rfl, X6⟩
  have G3 := hid (X6.heap G3.out fun h => h)
  have G5 := hid (X6.heap G5.out fun h => h)
  have X6 := hid (X5.out.trans X6)
  go_wp2_with fail
  refine (node_any 18 [99] none 0 0 _).mono ?_
  rintro e W7 ⟨rfl, X7⟩
  have G3 := hid (X7.heap G3.out fun h => h)
  have G5 := hid (X7.heap G5.out fun h => h)
  have X7 := hid (X6.out.trans X7)
  go_wp2_with fail
  obtain ⟨B8, hB8⟩ : ∃ B, B = W7.heap.size := ⟨_, rfl⟩
  obtain ⟨W8, hW8⟩ : ∃ W, W = W7.alloc (.cells #[.int .i64 19, .string ⟨#[45]⟩, .slice (some ⟨B5, 0, none⟩) 1 1, .int .i64 0, .int .i64 18, .string ⟨#[99]⟩, .slice none 0 0, .int .i64 0] 24) := ⟨_, rfl⟩
  rw [← hW8, ← hB8]
  have X8 := hid (show Ext none' W7 W8 by rw [hW8]; exact (Ext.refl _ _).alloc _)
  have G8 := hid (show W8.heap[B8]? = some (.cells #[.int .i64 19, .string ⟨#[45]⟩, .slice (some ⟨B5, 0, none⟩) 1 1, .int .i64 0, .int .i64 18, .string ⟨#[99]⟩, .slice none 0 0, .int .i64 0] 24 (0, 0)) by rw [hW8]; exact heap_alloc_at hB8 _)
  have G3 := hid (X8.out.heap G3.out fun h => h)
  have G5 := hid (X8.out.heap G5.out fun h => h)
  have X8 := hid (X7.out.trans X8.out)
  clear hW8 hB8
  refine (node_any 20 [42] _ 2 2 _).mono ?_
  rintro e W9 ⟨rfl, X9⟩
  have G3 := hid (X9.heap G3.out fun h => h)
  have G5 := hid (X9.heap G5.out fun h => h)
  have G8 := hid (X9.heap G8.out fun h => h)
  have X9 := hid (X8.out.trans X9)
  go_wp2_with fail
  refine (CT.out _ X9.out _ ⟨_, rfl, isNd_two G8.out awMin awC (IsNd.of (isNd_one G5.out awSum (IsNd.of (isNd_two G3.out awA awB (isNd_leaf _ _ _) (isNd_leaf _ _ _))))) (isNd_leaf _ _ _)⟩).mono ?_
  rintro e W10 ⟨rfl, X10⟩
  have X10 := hid (X9.out.trans X10)
  have ht := (show (awText == awText) = true by simp)
  unfold awText at ht ⊢
  go_wp2_with fail
  go_ret
  exact ⟨rfl, X10.out⟩
end Go.Proofs.YthbmjamgidfneaaGreatDoor
/-
  What came in, opened: slices of things of any make, out of the row's reading.
-/
namespace Go.Proofs.YthbmjamgidfneaaGreatDoor
open Go.RowKit Go.Lib Go.ChangeShapes Go.WideShapes
section
variable {H : Type} {enc : TypeId × Value → H} {P : Program} {w : World} {spare : Nat → Bool} {held : Bool}
theorem cells_at {b off : Nat} {n : Nat} {cs : List Value} (h : w.cells? 0 ⟨b, off, none⟩ n = some cs) : cs.length = n ∧ Cells w b off cs := by
  obtain ⟨_, h1, h2⟩ := World.cells?_some h
  refine ⟨h1, fun j v hj => ?_⟩
  have hjn : j < n := by have := (List.getElem?_eq_some_iff.1 hj).1; omega
  have := h2 j hjn
  rw [hj] at this
  have e : (⟨b, off, none⟩ : Addr).add j = ⟨b, off + j, none⟩ := by unfold Addr.add; split <;> simp_all
  rw [e] at this
  exact this
theorem open_sl {α : Type} {sz : Nat} {R : Lay α} (Q : α → DataW H → Prop) (hsz : 0 < sz) {t e : TypeId} (ht : P.underlying t = some (.slice e)) (hc : P.cellsOf e = sz)
    (he : ∀ (n : Nat) (cs : List Value) (x : DataW H × List MemPlace), DataW.trod enc P w 0 spare held n e cs = some x → ∃ a, R none' w a cs ∧ Q a x.1)
    {fuel : Nat} {cs : List Value} {x : DataW H × List MemPlace} (h : DataW.trod enc P w 0 spare held fuel t cs = some x) :
    ∃ v xs, cs = [v] ∧ IsSl sz R none' w v xs ∧ ((x.1 = .nil ∧ xs = []) ∨ ∃ ds sp, x.1 = .slice ds sp ∧ ds.length = xs.length ∧ ∀ i (h1 : i < xs.length) (h2 : i < ds.length), Q xs[i] ds[i]) := by
  rcases Go.Deep.open_slice ht h with ⟨rfl, rfl⟩ | ⟨a, len, cap, m, n, D, Pl, rfl, hb, hl, hm, hmm, rfl, hx⟩
  · exact ⟨_, [], rfl, IsSl.nil _ _ _ _, .inl ⟨rfl, rfl⟩⟩
  · have hlm : len ≤ m := by rw [hmm]; split <;> omega
    have key : ∀ i : Fin len, ∃ q : α × List Value, w.cells? 0 (a.add (i.1 * sz)) sz = some q.2 ∧ R none' w q.1 q.2 ∧ Q q.1 (D i.1) := fun i => by
      obtain ⟨cs', h1, h2⟩ := hx i.1 (by have := i.2; omega)
      obtain ⟨y, hy1, hy2⟩ := he n cs' _ h2
      rw [hc] at h1
      exact ⟨(y, cs'), h1, hy1, hy2⟩
    obtain ⟨f, hf⟩ := Classical.axiomOfChoice key
    refine ⟨_, List.ofFn fun i => (f i).1, rfl, ⟨some a, cap, by rw [List.length_ofFn], by rw [List.length_ofFn]; exact hl, (fun h => by cases h), fun hne => ?_⟩, .inr ⟨_, _, rfl, by simp, fun i h1 h2 => ?_⟩⟩
    · have hpos : 0 < len := by
        rcases Nat.eq_zero_or_pos len with h | h
        · subst h; simp at hne
        · exact h
      obtain ⟨b, off, spot⟩ := a
      have hs : spot = none ∧ b < w.heap.size := by
        obtain ⟨_, h1, h2⟩ := World.cells?_some (hf ⟨0, hpos⟩).1
        have h3 := h2 0 hsz
        have hlen : 0 < (f ⟨0, hpos⟩).2.length := by omega
        rw [List.getElem?_eq_getElem hlen] at h3
        have e0 : ((⟨b, off, spot⟩ : Addr).add (0 * sz)).add 0 = ⟨b, off, spot⟩ := by simp [Addr.add]
        simp only [e0] at h3
        exact ⟨World.cell?_spot h3, World.block_lt_of_cell? w _ h3⟩
      obtain ⟨rfl, hbw⟩ := hs
      refine ⟨b, off, rfl, fun h => h, hbw, fun i hi => ?_⟩
      rw [List.length_ofFn] at hi
      have hfi := hf ⟨i, hi⟩
      have e : (⟨b, off, none⟩ : Addr).add (i * sz) = ⟨b, off + i * sz, none⟩ := by unfold Addr.add; split <;> simp_all
      have h1 := hfi.1
      simp only [e] at h1
      exact ⟨_, (cells_at h1).2, by rw [List.getElem_ofFn]; exact hfi.2.1⟩
    · rw [List.length_ofFn] at h1
      have h3 := (hf ⟨i, h1⟩).2.2
      rw [List.getElem_ofFn]
      simpa using h3
theorem open_strsL {t e : TypeId} (ht : P.underlying t = some (.slice e)) (he : P.underlying e = some .string) (hc : P.cellsOf e = 1) {fuel : Nat} {cs : List Value} {x : DataW H × List MemPlace} (h : DataW.trod enc P w 0 spare held fuel t cs = some x) :
    ∃ v l, cs = [v] ∧ IsStrs none' w v l := by
  obtain ⟨v, xs, h1, h2, _⟩ := open_sl (α := List UInt8) (R := IsStr) (fun _ _ => True) (by omega) ht hc (fun n cs x hx => by
    obtain ⟨s, rfl, _⟩ := DataW.trod_string he hx
    exact ⟨s.data.toList, by unfold IsStr; simp, trivial⟩) h
  exact ⟨v, xs, h1, h2⟩
end
end Go.Proofs.YthbmjamgidfneaaGreatDoor
/-
  What came in, opened, with its bulk: slices.
-/
namespace Go.Proofs.YthbmjamgidfneaaGreatDoor
open Go.RowKit Go.Lib Go.ChangeShapes Go.WideShapes
theorem bulk_mem {H : Type} : ∀ {l : List (DataW H)} {d : DataW H}, d ∈ l → Rows.uptoBulk d ≤ Rows.uptoBulkAll l
  | a :: r, d, h => by
    rw [Rows.uptoBulkAll]
    rcases List.mem_cons.1 h with rfl | h
    · omega
    · have := bulk_mem h; omega
theorem bulk_sum {H : Type} {α : Type} {f : α → Nat} {F : List α → Nat} (h0 : F [] = 0) (hc : ∀ a r, F (a :: r) = f a + F r) : ∀ (xs : List α) (ds : List (DataW H)), ds.length = xs.length → (∀ i (h1 : i < xs.length) (h2 : i < ds.length), f xs[i] ≤ Rows.uptoBulk ds[i]) → F xs ≤ Rows.uptoBulkAll ds
  | [], _, _, _ => by rw [h0]; exact Nat.zero_le _
  | a :: r, [], h, _ => by cases h
  | a :: r, d :: s, h, hi => by
    rw [hc, Rows.uptoBulkAll]
    have h1 := hi 0 (by simp) (by simp)
    have h2 := bulk_sum h0 hc r s (by simpa using h) (fun i h1 h2 => hi (i + 1) (Nat.succ_lt_succ h1) (Nat.succ_lt_succ h2))
    simp only [List.getElem_cons_zero] at h1
    omega
theorem bulk_len {H : Type} : ∀ ds : List (DataW H), (∀ d ∈ ds, 1 ≤ Rows.uptoBulk d) → ds.length ≤ Rows.uptoBulkAll ds
  | [], _ => Nat.zero_le _
  | d :: s, h => by
    rw [Rows.uptoBulkAll, List.length_cons]
    have h1 := h d (by simp)
    have h2 := bulk_len s (fun x hx => h x (by simp [hx]))
    omega
theorem three_len : ∀ {cs : List Value}, cs.length = 3 → ∃ c0 c1 c2, cs = [c0, c1, c2]
  | [c0, c1, c2], _ => ⟨c0, c1, c2, rfl⟩
theorem six_len : ∀ {cs : List Value}, cs.length = 6 → ∃ b0 b1 b2 b3 b4 b5, cs = [b0, b1, b2, b3, b4, b5]
  | [b0, b1, b2, b3, b4, b5], _ => ⟨b0, b1, b2, b3, b4, b5, rfl⟩
section
variable {H : Type} {enc : TypeId × Value → H} {P : Program} {w : World} {spare : Nat → Bool} {held : Bool}
theorem open_slK {α : Type} {sz : Nat} {R : Lay α} (Q : α → DataW H → Prop) (hsz : 0 < sz) {t e : TypeId} (ht : P.underlying t = some (.slice e)) (hc : P.cellsOf e = sz) (K : Nat)
    (he : ∀ (n : Nat) (cs : List Value) (x : DataW H × List MemPlace), Rows.uptoBulk x.1 < K → DataW.trod enc P w 0 spare held n e cs = some x → ∃ a, R none' w a cs ∧ Q a x.1)
    {fuel : Nat} {cs : List Value} {x : DataW H × List MemPlace} (h : DataW.trod enc P w 0 spare held fuel t cs = some x) (hK : Rows.uptoBulk x.1 ≤ K) :
    ∃ v xs, cs = [v] ∧ IsSl sz R none' w v xs ∧ ((x.1 = .nil ∧ xs = []) ∨ ∃ ds sp, x.1 = .slice ds sp ∧ ds.length = xs.length ∧ ∀ i (h1 : i < xs.length) (h2 : i < ds.length), Q xs[i] ds[i]) := by
  rcases Go.Deep.open_slice ht h with ⟨rfl, rfl⟩ | ⟨a, len, cap, m, n, D, Pl, rfl, hb, hl, hm, hmm, rfl, hx⟩
  · exact ⟨_, [], rfl, IsSl.nil _ _ _ _, .inl ⟨rfl, rfl⟩⟩
  · have hlm : len ≤ m := by rw [hmm]; split <;> omega
    have key : ∀ i : Fin len, ∃ q : α × List Value, w.cells? 0 (a.add (i.1 * sz)) sz = some q.2 ∧ R none' w q.1 q.2 ∧ Q q.1 (D i.1) := fun i => by
      obtain ⟨cs', h1, h2⟩ := hx i.1 (by have := i.2; omega)
      obtain ⟨y, hy1, hy2⟩ := he n cs' _ (by
        have hmem : D i.1 ∈ (List.range len).map D := List.mem_map.2 ⟨i.1, List.mem_range.2 i.2, rfl⟩
        have h3 := bulk_mem hmem
        simp only [Rows.uptoBulk] at hK
        simp only
        omega) h2
      rw [hc] at h1
      exact ⟨(y, cs'), h1, hy1, hy2⟩
    obtain ⟨f, hf⟩ := Classical.axiomOfChoice key
    refine ⟨_, List.ofFn fun i => (f i).1, rfl, ⟨some a, cap, by rw [List.length_ofFn], by rw [List.length_ofFn]; exact hl, (fun h => by cases h), fun hne => ?_⟩, .inr ⟨_, _, rfl, by simp, fun i h1 h2 => ?_⟩⟩
    · have hpos : 0 < len := by
        rcases Nat.eq_zero_or_pos len with h | h
        · subst h; simp at hne
        · exact h
      obtain ⟨b, off, spot⟩ := a
      have hs : spot = none ∧ b < w.heap.size := by
        obtain ⟨_, h1, h2⟩ := World.cells?_some (hf ⟨0, hpos⟩).1
        have h3 := h2 0 hsz
        have hlen : 0 < (f ⟨0, hpos⟩).2.length := by omega
        rw [List.getElem?_eq_getElem hlen] at h3
        have e0 : ((⟨b, off, spot⟩ : Addr).add (0 * sz)).add 0 = ⟨b, off, spot⟩ := by simp [Addr.add]
        simp only [e0] at h3
        exact ⟨World.cell?_spot h3, World.block_lt_of_cell? w _ h3⟩
      obtain ⟨rfl, hbw⟩ := hs
      refine ⟨b, off, rfl, fun h => h, hbw, fun i hi => ?_⟩
      rw [List.length_ofFn] at hi
      have hfi := hf ⟨i, hi⟩
      have e : (⟨b, off, none⟩ : Addr).add (i * sz) = ⟨b, off + i * sz, none⟩ := by unfold Addr.add; split <;> simp_all
      have h1 := hfi.1
      simp only [e] at h1
      exact ⟨_, (cells_at h1).2, by rw [List.getElem_ofFn]; exact hfi.2.1⟩
    · rw [List.length_ofFn] at h1
      have h3 := (hf ⟨i, h1⟩).2.2
      rw [List.getElem_ofFn]
      simpa using h3
end
end Go.Proofs.YthbmjamgidfneaaGreatDoor
/-
  A node, opened with its bulk.
-/
namespace Go.Proofs.YthbmjamgidfneaaGreatDoor
open Go.RowKit Go.Lib Go.ChangeShapes Go.WideShapes
theorem four_len' : ∀ {cs : List Value}, cs.length = 4 → ∃ c0 c1 c2 c3, cs = [c0, c1, c2, c3]
  | [c0, c1, c2, c3], _ => ⟨c0, c1, c2, c3, rfl⟩
section
variable {H : Type} {enc : TypeId × Value → H} {w : World} {spare : Nat → Bool} {held : Bool}
/-- A tree, and that it is no larger than its reading's bulk. -/
theorem open_nd (K : Nat) : ∀ (fuel : Nat) (cs : List Value) (x : DataW H × List MemPlace), Rows.uptoBulk x.1 ≤ K → DataW.trod enc Tryz.prog w 0 spare held fuel 24 cs = some x → ∃ t : Nd, IsNd none' w t cs ∧ t.size ≤ Rows.uptoBulk x.1 := by
  induction K with
  | zero =>
    intro fuel cs x hK h
    obtain ⟨y0, y1, y2, y3, m, rfl, _⟩ := Go.Joins.trod_struct4 Tryz.underlying24 h
    simp only [Rows.uptoBulk] at hK
    omega
  | succ K ih =>
    intro fuel cs x hK h
    obtain ⟨y0, y1, y2, y3, m, rfl, hl, t0, t1, t2, t3⟩ := Go.Joins.trod_struct4 Tryz.underlying24 h
    have e4 : Tryz.prog.cellsOf 24 = 4 := by kernel_rfl
    rw [e4] at hl
    obtain ⟨c0, c1, c2, c3, rfl⟩ := four_len' hl
    have ks : Tryz.prog.cellsOf 9 = 1 := by kernel_rfl
    have ki : Tryz.prog.cellsOf 3 = 1 := by kernel_rfl
    have ka : Tryz.prog.cellsOf 22 = 1 := by kernel_rfl
    simp only [ki, ks, ka, List.drop_zero, List.take_succ_cons, List.take_zero, List.drop_succ_cons] at t0 t1 t2 t3
    obtain ⟨k, e0, _⟩ := DataW.trod_int Tryz.underlying3 t0
    obtain ⟨n, e1, f1, _⟩ := DataW.trod_string Tryz.underlying9 t1
    subst f1
    obtain ⟨p, e3, _⟩ := DataW.trod_int Tryz.underlying3 t3
    simp only [Rows.uptoBulk, Rows.uptoBulkAll] at hK ⊢
    obtain ⟨v, l, e2, hsl, hq⟩ := open_slK (α := Nd) (sz := 4) (R := IsNd) (fun t d => t.size ≤ Rows.uptoBulk d) (by omega) Tryz.underlying22 e4 K (fun n cs x hx h => ih n cs x (by omega) h) t2 (by omega)
    injection e0 with e0 _
    injection e1 with e1 _
    injection e2 with e2 _
    injection e3 with e3 _
    subst e0 e1 e2 e3
    have hsum : Nd.sizeL l + 1 ≤ Rows.uptoBulk y2.1 := by
      rcases hq with ⟨e, rfl⟩ | ⟨ds, sp, e, hlen, hq⟩
      · rw [e]; simp [Rows.uptoBulk, Nd.sizeL]
      · rw [e, Rows.uptoBulk]
        have := bulk_sum (F := Nd.sizeL) (f := Nd.size) rfl (fun _ _ => rfl) l ds hlen hq
        omega
    refine ⟨.mk k n.data.toList l p, ?_, ?_⟩
    · have := IsNd.of (k := k) (n := n.data.toList) (p := p) hsl
      simpa using this
    · rw [Nd.size]; omega
end
end Go.Proofs.YthbmjamgidfneaaGreatDoor
