import Derived.Test.YtmlhkgocilpobaaKiFull
import Derived.Test.YtmlhkgocilpobaaKiBehP
namespace Go.Proofs.Ytmlhkgocilpobaa
open Go.RowKit Go.Lib Go.BigFrame
set_option maxRecDepth 100000 in
set_option maxHeartbeats 1600000 in
theorem Full_any (ds : List Df) (hds : DefsFit ds) (t : Ty) (ht : t.size ≤ bigD) (A : Nat → Prop) (dv v : Value) (w : World) (hd : IsSl 6 IsDf A w dv ds) (hv : TyV A w t v) (hA : ∀ b, A b → b < w.heap.size) :
    Calls Try.prog 23 #[dv, v] w (TyPost none' A w (fullP ds t)) := by
  obtain ⟨p, hp⟩ : ∃ p, p = fullP ds t := ⟨_, rfl⟩
  rw [← hp]
  unfold fullP at hp
  have HP := hid hp
  have HD := hid hd
  obtain ⟨x, rfl, hx⟩ := hv
  have HX := hid hx
  obtain ⟨a0, cap0, rfl, _⟩ := hx
  obtain ⟨ad, capd, rfl, _⟩ := hd
  have CF := hid fun (D : Nat → Prop) v w' sb dv s => full_any ds hds 100 (by omega) t D v w' sb dv s (.inl ht)
  obtain ⟨tk, htk⟩ : ∃ tk, t.kind = tk := ⟨_, rfl⟩
  obtain ⟨tn, htn⟩ : ∃ tn, t.name = tn := ⟨_, rfl⟩
  obtain ⟨tl, htl⟩ : ∃ tl, t.args.length = tl := ⟨_, rfl⟩
  have MK := hid fun (D : Nat → Prop) (w' : World) (h : IsSl 3 IsTy D w' (.slice a0 tl cap0) t.args) => (show TyV D w' t (.agg #[.int .i64 tk, .string ⟨tn.toArray⟩, .slice a0 tl cap0]) from ⟨_, by rw [htk, htn], h⟩)
  rw [htl] at HX
  rw [htk, htn, htl]
  clear hp htk htn htl
  go_enter Try.func23, Try.ntmps23
  go_wp2_with fail
  obtain ⟨B, hB⟩ : ∃ B, B = w.heap.size := ⟨_, rfl⟩
  obtain ⟨W0, hW0⟩ : ∃ W0, W0 = ((w.alloc (.cells #[.int .i64 tk, .string ⟨tn.toArray⟩, .slice a0 tl cap0] 33)).alloc (.cells #[.int .i64 0, .string ⟨#[]⟩, .slice none 0 0] 33)).alloc (.cells #[.slice ad ds.length capd, .int .i64 20000] 72) := ⟨_, rfl⟩
  rw [← hW0, ← hB]
  have X0 : Ext none' w W0 := by rw [hW0]; exact (((Ext.refl _ _).alloc _).alloc _).alloc _
  have g1 : W0.heap[B + 1]? = some (.cells #[.int .i64 0, .string ⟨#[]⟩, .slice none 0 0] 33 (0, 0)) := by
    rw [hW0]; exact heap_alloc_keep (heap_alloc_at (by rw [hB]; simp) _) _
  have g2 : W0.heap[B + 1 + 1]? = some (.cells #[.slice ad ds.length capd, .int .i64 20000] 72 (0, 0)) := by
    rw [hW0]; exact heap_alloc_at (by rw [hB]; simp) _
  have hz : W0.heap.size = B + 3 := by rw [hW0, hB]; simp
  have HB := hid hB
  have HZ := hid hz
  have dn : ∀ b, b < w.heap.size → and1 (and1 A (B + 1)) (B + 1 + 1) b → A b := fun b hb h => by
    rcases h with (h | h) | h
    · exact h
    · omega
    · omega
  refine (CF.out (and1 (and1 A (B + 1)) (B + 1 + 1)) _ W0 (B + 1 + 1) (.slice ad ds.length capd) 20000 ⟨g2, (HD.out.mono isDf_good dn).ext isDf_good X0 fun _ _ h => h.elim, .inr rfl, and1.lt (and1.lt hA X0.size (by omega)) (Nat.le_refl _) (by omega)⟩ (MK.out _ _ ((HX.out.mono isTy_good dn).ext isTy_good X0 fun _ _ h => h.elim)) (by omega) (by omega)).mono ?_
  rintro e W1 ⟨u, rfl, ⟨y, rfl, hy⟩, X1, hw1⟩
  obtain ⟨rt, rs, hr⟩ : ∃ rt rs, fullN ds 100 t 20000 = (rt, rs) := ⟨_, _, rfl⟩
  rw [hr] at hy hw1
  have HP2 : Hid (p = if 0 < rs then rt else Ty.zero) := hid (by rw [HP.out, hr])
  rw [hr]
  simp only at hy hw1 ⊢
  have hsz := X1.size
  have HY := hid hy
  obtain ⟨a3, cap3, rfl, _⟩ := hy
  have g1 := X1.heap g1 (by unfold one; omega)
  have X1 : Hid (Ext none' w W1) := hid (X0.trans' X1 fun i hi h => by have h' : i = B + 1 + 1 := h; omega)
  have k1 := heap_alloc_keep g1 (.cells #[.int .i64 rt.kind, .string ⟨rt.name.toArray⟩, .slice a3 rt.args.length cap3] 33)
  have k2 := heap_alloc_keep hw1 (.cells #[.int .i64 rt.kind, .string ⟨rt.name.toArray⟩, .slice a3 rt.args.length cap3] 33)
  have f0 := free_at k1 0
  have f1 := free_at k1 1
  have f2 := free_at k1 2
  have e0 := cell_at k1 0
  have e1 := cell_at k1 1
  have e2 := cell_at k1 2
  have s1 := cell_at k2 1
  simp only [List.getElem?_toArray, List.getElem?_cons_zero, List.getElem?_cons_succ] at e0 e1 e2 s1
  have K1 := hid k1
  clear g1 g2 hW0 hB hz hw1 k1 k2 dn hr X0 HP CF MK HX HD
  by_cases hrs : 0 < rs
  · have e3 : Hid (p = rt) := hid (by rw [HP2.out, if_pos hrs])
    go_wp2_with fail
    refine ret_ty rfl rfl (set3 K1.out _ _ _) rfl ?_
    rw [e3.out]
    refine ⟨_, rfl, TyV.stored (((HY.out.mono isTy_good fun _ _ h => .inl h).ext isTy_good ((Ext.refl none' _).alloc _) fun _ _ h => h.elim)) _ _ _, (X1.out.alloc _).set3 (b := B + 1) (.inr (by have := HB.out; omega)) _ _ _⟩
  · have e3 : Hid (p = Ty.zero) := hid (by rw [HP2.out, if_neg hrs])
    go_wp2_with fail
    refine ret_ty rfl rfl (set3 K1.out _ _ _) rfl ?_
    rw [e3.out]
    exact ⟨_, rfl, ⟨.slice none 0 0, rfl, IsSl.nil _ _ _ _⟩, (X1.out.alloc _).set3 (b := B + 1) (.inr (by have := HB.out; omega)) _ _ _⟩
def FindPost (A : Nat → Prop) (w : World) (r : Option Df) (e : Ending) (w' : World) : Prop :=
  ∃ q, e = .returned (.pointer q) ∧ Ext none' w w' ∧ (r = none → q = none) ∧ ∀ d, r = some d → ∃ b off cs, q = some ⟨b, off, none⟩ ∧ ¬ A b ∧ b < w.heap.size ∧ Cells w b off cs ∧ IsDf A w d cs
set_option maxRecDepth 100000 in
set_option maxHeartbeats 1600000 in
theorem find_any (ds : List Df) (hl : ds.length ≤ 1000000000) (t : Ty) (A : Nat → Prop) (dv v : Value) (w : World) (hd : IsSl 6 IsDf A w dv ds) (hv : TyV A w t v) :
    Calls Try.prog 35 #[dv, v] w (FindPost A w (findD ds t)) := by
  obtain ⟨r, hr⟩ : ∃ r, r = findD ds t := ⟨_, rfl⟩
  rw [← hr]
  unfold findD at hr
  have HR := hid hr
  have HD := hid hd
  obtain ⟨x, rfl, hx⟩ := hv
  obtain ⟨a0, cap0, rfl, _⟩ := hx
  obtain ⟨ad, capd, rfl, _⟩ := hd
  obtain ⟨tn, htn⟩ : ∃ tn, t.name = tn := ⟨_, rfl⟩
  obtain ⟨tk, htk⟩ : ∃ tk, t.kind = tk := ⟨_, rfl⟩
  obtain ⟨tl, htl⟩ : ∃ tl, t.args.length = tl := ⟨_, rfl⟩
  rw [htn, htl] at HR
  rw [htk, htn, htl]
  have hzc := fstI_cases (fun d : Df => d.name == tn) ds
  have hzn := hid fun h => defAt_none (ds := ds) (n := tn) h
  have hza := hid fun (i : Nat) (hi : i < ds.length) h => defAt_at (ds := ds) (n := tn) (i := i) hi h
  have g0 : (w.alloc (.cells #[.int .i64 tk, .string ⟨tn.toArray⟩, .slice a0 tl cap0] 33)).heap[w.heap.size]? = some (.cells #[.int .i64 tk, .string ⟨tn.toArray⟩, .slice a0 tl cap0] 33 (0, 0)) := heap_alloc_at rfl _
  have CI := hid (idef_any 45 #[.pointer (some ⟨w.heap.size, 0, none⟩)] (fun d => d.name == tn) A ds (.slice ad ds.length capd) (w.alloc (.cells #[.int .i64 tk, .string ⟨tn.toArray⟩, .slice a0 tl cap0] 33)) hl (HD.out.ext isDf_good ((Ext.refl none' _).alloc _) fun _ _ h => h.elim) (fun i hi w' u x hu => find1_any ds[i] tn A u w.heap.size _ _ w' hu (x.heap g0 (fun h => h))) enter_find1)
  obtain ⟨z, hz⟩ : ∃ z, fstI (fun d : Df => d.name == tn) ds = z := ⟨_, rfl⟩
  rw [hz] at CI hzc hzn hza
  have G0 := hid g0
  have hmf : ∀ (fn : Fn) (first cap : Array Value) (w : World), (Instr.makeFunc fn first cap).run Try.prog w = .ok (.func fn first cap) w := fun _ _ _ _ => rfl
  clear hr htn htk htl hz g0
  go_enter Try.func35, Try.ntmps35
  go_wp2_with fail
  refine CI.out.mono ?_
  rintro e W1 ⟨rfl, X1⟩
  obtain ⟨B, hB⟩ : ∃ B, B = w.heap.size := ⟨_, rfl⟩
  rw [← hB]
  have g0 := X1.heap G0.out (fun h => h)
  rw [← hB] at g0
  have XW := hid (((Ext.refl none' w).alloc _).trans X1)
  have HD1 := hid (HD.out.ext isDf_good XW.out fun _ _ h => h.elim)
  have G1 := hid g0
  clear X1 hB g0 G0 CI
  have b2 := fun t : LaterF none' W1 => cell_at (t.x.heap G1.out (fun h => h)) 2
  simp only [List.getElem?_toArray, List.getElem?_cons_zero, List.getElem?_cons_succ] at b2
  rcases hzc with ⟨rfl, _⟩ | ⟨i, hi, rfl, _⟩
  · have e1 : Hid (r = none) := hid (by rw [HR.out, hzn.out rfl])
    go_upto_region 2 with (fail)
    refine region_tree none' W1 [0, 1, 2, 3, 4, 5, 6, 7, 8, 9, 10, 11, 12, 13] .fin (by kernel_rfl) (by kernel_rfl) (fun dst v c a w h => by cases dst <;> exact h) (Ext.refl _ _) ?_
    simp only [sel, List.getElem?_cons_succ, List.getElem?_cons_zero]
    repeat (go_big_quiet_step (fail))
    refine wpQuiet_nil ?_
    simp only [wpTree]
    go_wp2_with fail
    go_ret
    exact ⟨none, rfl, XW.out.drew, fun _ => rfl, fun d hd => by rw [e1.out] at hd; cases hd⟩
  · have hda := hza.out i hi rfl
    obtain ⟨b, off, cs, rfl, hAb, hbw, hcc, hdf⟩ := HD.out.at i hi
    have hdf0 := hid hdf
    have hcc0 := hid hcc
    obtain ⟨pv, tv, rfl, hpv, htv⟩ := hdf
    have y1' := hcc 1 _ rfl
    have y1 := fun t : LaterF none' W1 => ((XW.out.trans t.x).cell (p := ⟨b, off + i * 6 + 1, none⟩) hbw (fun h => h)).trans y1'
    obtain ⟨pl, hpl⟩ : ∃ pl, (ds[i]).params.length = pl := ⟨_, rfl⟩
    obtain ⟨a1, cap1, rfl, _⟩ := hpv
    rw [hpl] at y1
    have HR2 : Hid (r = if pl = tl then some ds[i] else none) := hid (by rw [HR.out, hda, ← hpl])
    have AB := hid (And.intro hAb hbw)
    clear hcc hda hpl hAb hbw y1' hzn hza
    have q1 : decide ((i : Int) < 0) = false := by simp
    by_cases hc : pl = tl
    · have e1 : Hid (r = some ds[i]) := hid (by rw [HR2.out, if_pos hc])
      have q2 : ((pl : Int) != (tl : Int)) = false := by rw [hc]; simp
      clear hc
      go_upto_region 2 with (fail)
      refine region_tree none' W1 [0, 1, 2, 3, 4, 5, 6, 7, 8, 9, 10, 11, 12, 13] .fin (by kernel_rfl) (by kernel_rfl) (fun dst v c a w h => by cases dst <;> exact h) (Ext.refl _ _) ?_
      simp only [sel, List.getElem?_cons_succ, List.getElem?_cons_zero]
      repeat (go_big_quiet_step (fail))
      refine wpQuiet_nil ?_
      simp only [wpTree]
      go_wp2_with fail
      go_ret
      refine ⟨some ⟨b, off + i * 6, none⟩, rfl, XW.out.drew, fun h => (by rw [e1.out] at h; cases h), fun d hd => ?_⟩
      rw [e1.out] at hd
      injection hd with hd
      subst hd
      exact ⟨b, off + i * 6, _, rfl, AB.out.1, AB.out.2, hcc0.out, hdf0.out⟩
    · have e1 : Hid (r = none) := hid (by rw [HR2.out, if_neg hc])
      have q2 : ((pl : Int) != (tl : Int)) = true := by simp; omega
      clear hc
      go_upto_region 2 with (fail)
      refine region_tree none' W1 [0, 1, 2, 3, 4, 5, 6, 7, 8, 9, 10, 11, 12, 13] .fin (by kernel_rfl) (by kernel_rfl) (fun dst v c a w h => by cases dst <;> exact h) (Ext.refl _ _) ?_
      simp only [sel, List.getElem?_cons_succ, List.getElem?_cons_zero]
      repeat (go_big_quiet_step (fail))
      refine wpQuiet_nil ?_
      simp only [wpTree]
      go_wp2_with fail
      go_ret
      exact ⟨none, rfl, XW.out.drew, fun _ => rfl, fun d hd => by rw [e1.out] at hd; cases hd⟩
set_option maxRecDepth 100000 in
set_option maxHeartbeats 1600000 in
theorem size_any (t : Ty) : t.size ≤ bigD → ∀ (A : Nat → Prop) (v : Value) (w : World), TyV A w t v → Calls Try.prog 36 #[v] w (IntP (sizeW t : Nat) w) := by
  induction t using Ty.induct with
  | h k n l ih =>
    intro hsz A v w hv
    obtain ⟨p, hp⟩ : ∃ p, p = sizeW (.mk k n l) := ⟨_, rfl⟩
    rw [← hp]
    rw [sizeW] at hp
    have HP := hid hp
    obtain ⟨x, rfl, hx⟩ := hv
    have hx : IsSl 3 IsTy A w x l := hx
    have HX := hid hx
    obtain ⟨a0, cap0, rfl, _⟩ := hx
    have HIH := hid ih
    have hll : l.length ≤ bigD := by have := Ty.args_len (.mk k n l); simp only [Ty.args] at this; omega
    unfold bigD at hll
    have HSZ := hid hsz
    clear ih hp hsz
    show Calls Try.prog 36 #[.agg #[.int .i64 k, .string ⟨n.toArray⟩, .slice a0 l.length cap0]] w (IntP (p : Nat) w)
    go_enter Try.func36, Try.ntmps36
    go_wp2_with fail
    go_loopw [3, 9] (fun c z wr => ∃ (i : Nat), z = .int .i64 (i : Nat) ∧ i ≤ l.length ∧ c = .int .i64 (sizeWL (l.take i) 1 : Nat) ∧ Hid (Ext none' w wr)) (fun _ z _ => l.length - (RowKit.intOf z).toNat)
    case atStart => exact ⟨0, rfl, by omega, rfl, hid ((Ext.refl _ _).alloc _)⟩
    case round =>
      obtain ⟨i, rfl, hle, rfl, HR⟩ := hrel
      by_cases hi : i < l.length
      · obtain ⟨b, off, cs, rfl, hAb, hbw, hcc, hty⟩ := (HX.out.ext isTy_good HR.out fun _ _ h => h.elim).at i hi
        obtain ⟨x', rfl, hx'⟩ := hty.parts
        have c0 := hcc 0 _ rfl
        have c1 := hcc 1 _ rfl
        have c2 := hcc 2 _ rfl
        simp only [Nat.add_zero] at c0
        have hmem := List.getElem_mem hi
        have hts : l[i].size ≤ bigD := by have := Ty.size_arg (t := .mk k n l) hmem; have := HSZ.out; omega
        have HX2 := hid hx'
        obtain ⟨a', cap', rfl, _⟩ := hx'
        have CS := hid fun o => HIH.out _ hmem hts A (.agg #[.int .i64 l[i].kind, .string ⟨l[i].name.toArray⟩, .slice a' l[i].args.length cap']) (wr.alloc o) ⟨_, rfl, HX2.out.ext isTy_good ((Ext.refl none' _).alloc _) fun _ _ h => h.elim⟩
        have htake : l.take (i + 1) = l.take i ++ [l[i]] := by rw [List.take_add_one, List.getElem?_eq_getElem hi]; rfl
        have hsn := sizeW_snoc (l.take i) l[i] 1
        rw [← htake] at hsn
        have hsw := sizeW_le l[i]
        have hbd : l[i].size ≤ 20000000000 := hts
        have hcur := (sizeWL_le (l.take i) 1 fun x _ => sizeW_le x).2
        have htk : Ty.sizeL (l.take i) ≤ Ty.sizeL l := by
          have e := Ty.sizeL_append (l.take i) (l.drop i)
          rw [List.take_append_drop] at e
          omega
        have hfull : Ty.sizeL l ≤ 20000000000 := by have := HSZ.out; rw [Ty.size] at this; unfold bigD at this; omega
        obtain ⟨q, hq⟩ : ∃ q, sizeW l[i] = q := ⟨_, rfl⟩
        obtain ⟨c, hc⟩ : ∃ c, sizeWL (l.take i) 1 = c := ⟨_, rfl⟩
        rw [hq] at CS hsn hsw
        rw [hc] at hsn hcur ⊢
        have HSN := hid hsn
        have hql : q ≤ 20000000000 := by omega
        have hcl : c ≤ 20000000001 := by omega
        clear hcc hty hsn htake hq hc hsw hbd hcur htk hfull hts
        by_cases hb : c ≤ 1000
        · have q1 : decide ((c : Int) ≤ 1000) = true := by simp; omega
          have e1 := hid (HSN.out.trans (if_pos hb))
          go_wp2_with fail
          refine (CS.out _).mono ?_
          rintro e w2 ⟨rfl, X2⟩
          have X2 := hid ((HR.out.alloc _).trans X2)
          go_wp2_with fail
          go_roundw
          case rel => exact ⟨i + 1, by go_num, by omega, by rw [e1.out]; rfl, X2⟩
          case measure => simp [RowKit.intOf]; omega
        · have q1 : decide ((c : Int) ≤ 1000) = false := by simp; omega
          have e1 := hid (HSN.out.trans (if_neg hb))
          go_wp2_with fail
          go_roundw
          case rel => exact ⟨i + 1, by go_num, by omega, by rw [e1.out], hid (HR.out.alloc _)⟩
          case measure => simp [RowKit.intOf]; omega
      · obtain rfl : i = l.length := by omega
        have e1 : Hid (p = sizeWL (l.take l.length) 1) := hid (by rw [HP.out, List.take_length])
        go_wp2_with fail
        go_ret
        exact ⟨by rw [e1.out]; rfl, HR.out⟩
end Go.Proofs.Ytmlhkgocilpobaa
