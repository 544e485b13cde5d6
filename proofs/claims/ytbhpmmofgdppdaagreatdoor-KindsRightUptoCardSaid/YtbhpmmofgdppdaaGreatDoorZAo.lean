import Derived.Test.YtbhpmmofgdppdaaGreatDoorZAe
import Derived.Test.YtbhpmmofgdppdaaGreatDoorZAn
import Derived.Test.YtbhpmmofgdppdaaGreatDoorZAc
/-
  What stands behind a type: plain. No Go in sight.
-/
namespace Go.Proofs.YtbhpmmofgdppdaaGreatDoor
open Go.Lib
mutual
/-- How many types are in one, and it, up to a bit more than may be. -/
def sizeW : Ty → Nat
  | .mk _ _ l => sizeWL l 1
def sizeWL : List Ty → Nat → Nat
  | [], n => n
  | t :: r, n => sizeWL r (if n ≤ 1000 then n + sizeW t else n)
end
theorem sizeWL_le : ∀ (l : List Ty) (n : Nat), (∀ t ∈ l, sizeW t ≤ t.size) → n ≤ sizeWL l n ∧ sizeWL l n ≤ n + Ty.sizeL l
  | [], n, _ => by simp [sizeWL, Ty.sizeL]
  | t :: r, n, h => by
    have h1 := h t (by simp)
    have h2 := sizeWL_le r (if n ≤ 1000 then n + sizeW t else n) fun x hx => h x (by simp [hx])
    rw [sizeWL, Ty.sizeL]
    split at h2 <;> split <;> omega
theorem sizeW_le (t : Ty) : sizeW t ≤ t.size := by
  induction t using Ty.induct with
  | h k n l ih => have := sizeWL_le l 1 ih; rw [sizeW, Ty.size]; omega
theorem sizeW_snoc (l : List Ty) (t : Ty) (n : Nat) : sizeWL (l ++ [t]) n = if sizeWL l n ≤ 1000 then sizeWL l n + sizeW t else sizeWL l n := by
  induction l generalizing n with
  | nil => rfl
  | cons a r ih => rw [List.cons_append, sizeWL, ih, sizeWL]
theorem sizeWL_eq : ∀ (l : List Ty) (n : Nat), (∀ t ∈ l, sizeW t ≤ 1000 → t.size ≤ sizeW t) → sizeWL l n ≤ 1000 → n + Ty.sizeL l ≤ sizeWL l n
  | [], n, _, _ => by simp [sizeWL, Ty.sizeL]
  | t :: r, n, h, hb => by
    rw [sizeWL] at hb ⊢
    have mono : ∀ (l : List Ty) (n : Nat), n ≤ sizeWL l n := fun l n => (sizeWL_le l n fun x _ => sizeW_le x).1
    have h1 := mono r (if n ≤ 1000 then n + sizeW t else n)
    have hn : n ≤ 1000 := by
      by_cases q : n ≤ 1000
      · exact q
      · rw [if_neg q] at h1; rw [if_neg q] at hb; omega
    rw [if_pos hn] at hb h1 ⊢
    have h2 := h t (by simp) (by omega)
    have h3 := sizeWL_eq r (n + sizeW t) (fun x hx => h x (by simp [hx])) hb
    rw [Ty.sizeL]; omega
theorem sizeW_eq (t : Ty) : sizeW t ≤ 1000 → t.size ≤ sizeW t := by
  induction t using Ty.induct with
  | h k n l ih => intro h; rw [sizeW] at h ⊢; have := sizeWL_eq l 1 ih h; rw [Ty.size]; omega
def findD (ds : List Df) (t : Ty) : Option Df := match defAt ds t.name with
  | none => none
  | some d => if d.params.length = t.args.length then some d else none
theorem findD_mem {ds : List Df} {t : Ty} {d : Df} (h : findD ds t = some d) : d ∈ ds := by
  unfold findD at h
  split at h
  · cases h
  · rename_i d' hd
    split at h
    · injection h with h; subst h; exact defAt_mem hd
    · cases h
def behP (ds : List Df) : Nat → Ty → Ty
  | 0, _ => Ty.zero
  | f + 1, t => if t.kind ≠ 3 then t else match findD ds t with
    | none => Ty.zero
    | some d => if 1000 < sizeW t then Ty.zero else behP ds f (withT d.params t.args d.ty)
def behindP (ds : List Df) (t : Ty) : Ty := behP ds 100 t
theorem beh_size {ds : List Df} (hd : DefsOk ds) {t : Ty} {d : Df} (h : findD ds t = some d) (hs : sizeW t ≤ 1000) : (withT d.params t.args d.ty).size ≤ bigD := by
  have h0 := sizeW_eq t hs
  have h1 := hd d (findD_mem h)
  have h2 := withT_size (ps := d.params) (by' := t.args) (m := 1000) (by omega) (fun x hx => by have := Ty.size_arg hx; omega) d.ty
  have h3 : d.ty.size * 1000 ≤ 1000000 * 1000 := Nat.mul_le_mul_right _ h1
  unfold bigD; omega
end Go.Proofs.YtbhpmmofgdppdaaGreatDoor
namespace Go.Proofs.YtbhpmmofgdppdaaGreatDoor
open Go.RowKit Go.Lib Go.BigFrame
set_option maxRecDepth 100000 in
set_option maxHeartbeats 1600000 in
theorem Full_any (ds : List Df) (hds : DefsFit ds) (t : Ty) (ht : t.size ≤ bigD) (A : Nat → Prop) (dv v : Value) (w : World) (hd : IsSl 6 IsDf A w dv ds) (hv : TyV A w t v) (hA : ∀ b, A b → b < w.heap.size) :
    Calls Tryz.prog 12 #[dv, v] w (TyPost none' A w (fullP ds t)) := by
  obtain ⟨p, hp⟩ : ∃ p, p = fullP ds t := ⟨_, rfl⟩
  rw [← hp]
  unfold fullP at hp
  have HP := hid hp
  have HD := hid hd
  obtain ⟨x, rfl, hx⟩ := hv
  have HX := hid hx
  obtain ⟨a0, cap0, rfl, _⟩ := hx
  obtain ⟨ad, capd, rfl, _⟩ := hd
  have CF := hid fun (D : Nat → Prop) v w' sb dv s => full_any ds hds 100 (by omega) t D v w' sb dv s (.inl ht)
  obtain ⟨tk, htk⟩ : ∃ tk, t.kind = tk := ⟨_, rfl⟩
  obtain ⟨tn, htn⟩ : ∃ tn, t.name = tn := ⟨_, rfl⟩
  obtain ⟨tl, htl⟩ : ∃ tl, t.args.length = tl := ⟨_, rfl⟩
  have MK := hid fun (D : Nat → Prop) (w' : World) (h : IsSl 3 IsTy D w' (.slice a0 tl cap0) t.args) => (show TyV D w' t (.agg #[.int .i64 tk, .string ⟨tn.toArray⟩, .slice a0 tl cap0]) from ⟨_, by rw [htk, htn], h⟩)
  rw [htl] at HX
  rw [htk, htn, htl]
  clear hp htk htn htl
  go_enter Tryz.func12, Tryz.ntmps12
  go_wp2_with fail
  obtain ⟨B, hB⟩ : ∃ B, B = w.heap.size := ⟨_, rfl⟩
  obtain ⟨W0, hW0⟩ : ∃ W0, W0 = ((w.alloc (.cells #[.int .i64 tk, .string ⟨tn.toArray⟩, .slice a0 tl cap0] 32)).alloc (.cells #[.int .i64 0, .string ⟨#[]⟩, .slice none 0 0] 32)).alloc (.cells #[.slice ad ds.length capd, .int .i64 20000] 64) := ⟨_, rfl⟩
  rw [← hW0, ← hB]
  have X0 : Ext none' w W0 := by rw [hW0]; exact (((Ext.refl _ _).alloc _).alloc _).alloc _
  have g1 : W0.heap[B + 1]? = some (.cells #[.int .i64 0, .string ⟨#[]⟩, .slice none 0 0] 32 (0, 0)) := by
    rw [hW0]; exact heap_alloc_keep (heap_alloc_at (by rw [hB]; simp) _) _
  have g2 : W0.heap[B + 1 + 1]? = some (.cells #[.slice ad ds.length capd, .int .i64 20000] 64 (0, 0)) := by
    rw [hW0]; exact heap_alloc_at (by rw [hB]; simp) _
  have hz : W0.heap.size = B + 3 := by rw [hW0, hB]; simp
  have HB := hid hB
  have HZ := hid hz
  have dn : ∀ b, b < w.heap.size → and1 (and1 A (B + 1)) (B + 1 + 1) b → A b := fun b hb h => by
    rcases h with (h | h) | h
    · exact h
    · omega
    · omega
  refine (CF.out (and1 (and1 A (B + 1)) (B + 1 + 1)) _ W0 (B + 1 + 1) (.slice ad ds.length capd) 20000 ⟨g2, (HD.out.mono isDf_good dn).ext isDf_good X0 fun _ _ h => h.elim, .inr rfl, and1.lt (and1.lt hA X0.size (by omega)) (Nat.le_refl _) (by omega)⟩ (MK.out _ _ ((HX.out.mono isTy_good dn).ext isTy_good X0 fun _ _ h => h.elim)) (by omega) (by omega)).mono ?_
  rintro e W1 ⟨u, rfl, ⟨y, rfl, hy⟩, X1, hw1⟩
  obtain ⟨rt, rs, hr⟩ : ∃ rt rs, fullN ds 100 t 20000 = (rt, rs) := ⟨_, _, rfl⟩
  rw [hr] at hy hw1
  have HP2 : Hid (p = if 0 < rs then rt else Ty.zero) := hid (by rw [HP.out, hr])
  rw [hr]
  simp only at hy hw1 ⊢
  have hsz := X1.size
  have HY := hid hy
  obtain ⟨a3, cap3, rfl, _⟩ := hy
  have g1 := X1.heap g1 (by unfold one; omega)
  have X1 : Hid (Ext none' w W1) := hid (X0.trans' X1 fun i hi h => by have h' : i = B + 1 + 1 := h; omega)
  have k1 := heap_alloc_keep g1 (.cells #[.int .i64 rt.kind, .string ⟨rt.name.toArray⟩, .slice a3 rt.args.length cap3] 32)
  have k2 := heap_alloc_keep hw1 (.cells #[.int .i64 rt.kind, .string ⟨rt.name.toArray⟩, .slice a3 rt.args.length cap3] 32)
  have f0 := free_at k1 0
  have f1 := free_at k1 1
  have f2 := free_at k1 2
  have e0 := cell_at k1 0
  have e1 := cell_at k1 1
  have e2 := cell_at k1 2
  have s1 := cell_at k2 1
  simp only [List.getElem?_toArray, List.getElem?_cons_zero, List.getElem?_cons_succ] at e0 e1 e2 s1
  have K1 := hid k1
  clear g1 g2 hW0 hB hz hw1 k1 k2 dn hr X0 HP CF MK HX HD
  by_cases hrs : 0 < rs
  · have e3 : Hid (p = rt) := hid (by rw [HP2.out, if_pos hrs])
    go_wp2_with fail
    refine ret_ty rfl rfl (set3 K1.out _ _ _) rfl ?_
    rw [e3.out]
    refine ⟨_, rfl, TyV.stored (((HY.out.mono isTy_good fun _ _ h => .inl h).ext isTy_good ((Ext.refl none' _).alloc _) fun _ _ h => h.elim)) _ _ _, (X1.out.alloc _).set3 (b := B + 1) (.inr (by have := HB.out; omega)) _ _ _⟩
  · have e3 : Hid (p = Ty.zero) := hid (by rw [HP2.out, if_neg hrs])
    go_wp2_with fail
    refine ret_ty rfl rfl (set3 K1.out _ _ _) rfl ?_
    rw [e3.out]
    exact ⟨_, rfl, ⟨.slice none 0 0, rfl, IsSl.nil _ _ _ _⟩, (X1.out.alloc _).set3 (b := B + 1) (.inr (by have := HB.out; omega)) _ _ _⟩
def FindPost (A : Nat → Prop) (w : World) (r : Option Df) (e : Ending) (w' : World) : Prop :=
  ∃ q, e = .returned (.pointer q) ∧ Ext none' w w' ∧ (r = none → q = none) ∧ ∀ d, r = some d → ∃ b off cs, q = some ⟨b, off, none⟩ ∧ ¬ A b ∧ b < w.heap.size ∧ Cells w b off cs ∧ IsDf A w d cs
set_option maxRecDepth 100000 in
set_option maxHeartbeats 1600000 in
theorem find_any (ds : List Df) (hl : ds.length ≤ 1000000000) (t : Ty) (A : Nat → Prop) (dv v : Value) (w : World) (hd : IsSl 6 IsDf A w dv ds) (hv : TyV A w t v) :
    Calls Tryz.prog 33 #[dv, v] w (FindPost A w (findD ds t)) := by
  obtain ⟨r, hr⟩ : ∃ r, r = findD ds t := ⟨_, rfl⟩
  rw [← hr]
  unfold findD at hr
  have HR := hid hr
  have HD := hid hd
  obtain ⟨x, rfl, hx⟩ := hv
  obtain ⟨a0, cap0, rfl, _⟩ := hx
  obtain ⟨ad, capd, rfl, _⟩ := hd
  obtain ⟨tn, htn⟩ : ∃ tn, t.name = tn := ⟨_, rfl⟩
  obtain ⟨tk, htk⟩ : ∃ tk, t.kind = tk := ⟨_, rfl⟩
  obtain ⟨tl, htl⟩ : ∃ tl, t.args.length = tl := ⟨_, rfl⟩
  rw [htn, htl] at HR
  rw [htk, htn, htl]
  have hzc := fstI_cases (fun d : Df => d.name == tn) ds
  have hzn := hid fun h => defAt_none (ds := ds) (n := tn) h
  have hza := hid fun (i : Nat) (hi : i < ds.length) h => defAt_at (ds := ds) (n := tn) (i := i) hi h
  have g0 : (w.alloc (.cells #[.int .i64 tk, .string ⟨tn.toArray⟩, .slice a0 tl cap0] 32)).heap[w.heap.size]? = some (.cells #[.int .i64 tk, .string ⟨tn.toArray⟩, .slice a0 tl cap0] 32 (0, 0)) := heap_alloc_at rfl _
  have CI := hid (idef_any 65 #[.pointer (some ⟨w.heap.size, 0, none⟩)] (fun d => d.name == tn) A ds (.slice ad ds.length capd) (w.alloc (.cells #[.int .i64 tk, .string ⟨tn.toArray⟩, .slice a0 tl cap0] 32)) hl (HD.out.ext isDf_good ((Ext.refl none' _).alloc _) fun _ _ h => h.elim) (fun i hi w' u x hu => find1_any ds[i] tn A u w.heap.size _ _ w' hu (x.heap g0 (fun h => h))) enter_find1)
  obtain ⟨z, hz⟩ : ∃ z, fstI (fun d : Df => d.name == tn) ds = z := ⟨_, rfl⟩
  rw [hz] at CI hzc hzn hza
  have G0 := hid g0
  have hmf : ∀ (fn : Fn) (first cap : Array Value) (w : World), (Instr.makeFunc fn first cap).run Tryz.prog w = .ok (.func fn first cap) w := fun _ _ _ _ => rfl
  clear hr htn htk htl hz g0
  go_enter Tryz.func33, Tryz.ntmps33
  go_wp2_with fail
  refine CI.out.mono ?_
  rintro e W1 ⟨rfl, X1⟩
  obtain ⟨B, hB⟩ : ∃ B, B = w.heap.size := ⟨_, rfl⟩
  rw [← hB]
  have g0 := X1.heap G0.out (fun h => h)
  rw [← hB] at g0
  have XW := hid (((Ext.refl none' w).alloc _).trans X1)
  have HD1 := hid (HD.out.ext isDf_good XW.out fun _ _ h => h.elim)
  have G1 := hid g0
  clear X1 hB g0 G0 CI
  have b2 := fun t : LaterF none' W1 => cell_at (t.x.heap G1.out (fun h => h)) 2
  simp only [List.getElem?_toArray, List.getElem?_cons_zero, List.getElem?_cons_succ] at b2
  rcases hzc with ⟨rfl, _⟩ | ⟨i, hi, rfl, _⟩
  · have e1 : Hid (r = none) := hid (by rw [HR.out, hzn.out rfl])
    go_upto_region 2 with (fail)
    refine region_tree none' W1 [0, 1, 2, 3, 4, 5, 6, 7, 8, 9, 10, 11, 12, 13] .fin (by kernel_rfl) (by kernel_rfl) (fun dst v c a w h => by cases dst <;> exact h) (Ext.refl _ _) ?_
    simp only [sel, List.getElem?_cons_succ, List.getElem?_cons_zero]
    repeat (go_big_quiet_step (fail))
    refine wpQuiet_nil ?_
    simp only [wpTree]
    go_wp2_with fail
    go_ret
    exact ⟨none, rfl, XW.out.drew, fun _ => rfl, fun d hd => by rw [e1.out] at hd; cases hd⟩
  · have hda := hza.out i hi rfl
    obtain ⟨b, off, cs, rfl, hAb, hbw, hcc, hdf⟩ := HD.out.at i hi
    have hdf0 := hid hdf
    have hcc0 := hid hcc
    obtain ⟨pv, tv, rfl, hpv, htv⟩ := hdf
    have y1' := hcc 1 _ rfl
    have y1 := fun t : LaterF none' W1 => ((XW.out.trans t.x).cell (p := ⟨b, off + i * 6 + 1, none⟩) hbw (fun h => h)).trans y1'
    obtain ⟨pl, hpl⟩ : ∃ pl, (ds[i]).params.length = pl := ⟨_, rfl⟩
    obtain ⟨a1, cap1, rfl, _⟩ := hpv
    rw [hpl] at y1
    have HR2 : Hid (r = if pl = tl then some ds[i] else none) := hid (by rw [HR.out, hda, ← hpl])
    have AB := hid (And.intro hAb hbw)
    clear hcc hda hpl hAb hbw y1' hzn hza
    have q1 : decide ((i : Int) < 0) = false := by simp
    by_cases hc : pl = tl
    · have e1 : Hid (r = some ds[i]) := hid (by rw [HR2.out, if_pos hc])
      have q2 : ((pl : Int) != (tl : Int)) = false := by rw [hc]; simp
      clear hc
      go_upto_region 2 with (fail)
      refine region_tree none' W1 [0, 1, 2, 3, 4, 5, 6, 7, 8, 9, 10, 11, 12, 13] .fin (by kernel_rfl) (by kernel_rfl) (fun dst v c a w h => by cases dst <;> exact h) (Ext.refl _ _) ?_
      simp only [sel, List.getElem?_cons_succ, List.getElem?_cons_zero]
      repeat (go_big_quiet_step (fail))
      refine wpQuiet_nil ?_
      simp only [wpTree]
      go_wp2_with fail
      go_ret
      refine ⟨some ⟨b, off + i * 6, none⟩, rfl, XW.out.drew, fun h => (by rw [e1.out] at h; cases h), fun d hd => ?_⟩
      rw [e1.out] at hd
      injection hd with hd
      subst hd
      exact ⟨b, off + i * 6, _, rfl, AB.out.1, AB.out.2, hcc0.out, hdf0.out⟩
    · have e1 : Hid (r = none) := hid (by rw [HR2.out, if_neg hc])
      have q2 : ((pl : Int) != (tl : Int)) = true := by simp; omega
      clear hc
      go_upto_region 2 with (fail)
      refine region_tree none' W1 [0, 1, 2, 3, 4, 5, 6, 7, 8, 9, 10, 11, 12, 13] .fin (by kernel_rfl) (by kernel_rfl) (fun dst v c a w h => by cases dst <;> exact h) (Ext.refl _ _) ?_
      simp only [sel, List.getElem?_cons_succ, List.getElem?_cons_zero]
      repeat (go_big_quiet_step (fail))
      refine wpQuiet_nil ?_
      simp only [wpTree]
      go_wp2_with fail
      go_ret
      exact ⟨none, rfl, XW.out.drew, fun _ => rfl, fun d hd => by rw [e1.out] at hd; cases hd⟩
set_option maxRecDepth 100000 in
set_option maxHeartbeats 1600000 in
theorem size_any (t : Ty) : t.size ≤ bigD → ∀ (A : Nat → Prop) (v : Value) (w : World), TyV A w t v → Calls Tryz.prog 34 #[v] w (IntP (sizeW t : Nat) w) := by
  induction t using Ty.induct with
  | h k n l ih =>
    intro hsz A v w hv
    obtain ⟨p, hp⟩ : ∃ p, p = sizeW (.mk k n l) := ⟨_, rfl⟩
    rw [← hp]
    rw [sizeW] at hp
    have HP := hid hp
    obtain ⟨x, rfl, hx⟩ := hv
    have hx : IsSl 3 IsTy A w x l := hx
    have HX := hid hx
    obtain ⟨a0, cap0, rfl, _⟩ := hx
    have HIH := hid ih
    have hll : l.length ≤ bigD := by have := Ty.args_len (.mk k n l); simp only [Ty.args] at this; omega
    unfold bigD at hll
    have HSZ := hid hsz
    clear ih hp hsz
    show Calls Tryz.prog 34 #[.agg #[.int .i64 k, .string ⟨n.toArray⟩, .slice a0 l.length cap0]] w (IntP (p : Nat) w)
    go_enter Tryz.func34, Tryz.ntmps34
    go_wp2_with fail
    go_loopw [3, 9] (fun c z wr => ∃ (i : Nat), z = .int .i64 (i : Nat) ∧ i ≤ l.length ∧ c = .int .i64 (sizeWL (l.take i) 1 : Nat) ∧ Hid (Ext none' w wr)) (fun _ z _ => l.length - (RowKit.intOf z).toNat)
    case atStart => exact ⟨0, rfl, by omega, rfl, hid ((Ext.refl _ _).alloc _)⟩
    case round =>
      obtain ⟨i, rfl, hle, rfl, HR⟩ := hrel
      by_cases hi : i < l.length
      · obtain ⟨b, off, cs, rfl, hAb, hbw, hcc, hty⟩ := (HX.out.ext isTy_good HR.out fun _ _ h => h.elim).at i hi
        obtain ⟨x', rfl, hx'⟩ := hty.parts
        have c0 := hcc 0 _ rfl
        have c1 := hcc 1 _ rfl
        have c2 := hcc 2 _ rfl
        simp only [Nat.add_zero] at c0
        have hmem := List.getElem_mem hi
        have hts : l[i].size ≤ bigD := by have := Ty.size_arg (t := .mk k n l) hmem; have := HSZ.out; omega
        have HX2 := hid hx'
        obtain ⟨a', cap', rfl, _⟩ := hx'
        have CS := hid fun o => HIH.out _ hmem hts A (.agg #[.int .i64 l[i].kind, .string ⟨l[i].name.toArray⟩, .slice a' l[i].args.length cap']) (wr.alloc o) ⟨_, rfl, HX2.out.ext isTy_good ((Ext.refl none' _).alloc _) fun _ _ h => h.elim⟩
        have htake : l.take (i + 1) = l.take i ++ [l[i]] := by rw [List.take_add_one, List.getElem?_eq_getElem hi]; rfl
        have hsn := sizeW_snoc (l.take i) l[i] 1
        rw [← htake] at hsn
        have hsw := sizeW_le l[i]
        have hbd : l[i].size ≤ 20000000000 := hts
        have hcur := (sizeWL_le (l.take i) 1 fun x _ => sizeW_le x).2
        have htk : Ty.sizeL (l.take i) ≤ Ty.sizeL l := by
          have e := Ty.sizeL_append (l.take i) (l.drop i)
          rw [List.take_append_drop] at e
          omega
        have hfull : Ty.sizeL l ≤ 20000000000 := by have := HSZ.out; rw [Ty.size] at this; unfold bigD at this; omega
        obtain ⟨q, hq⟩ : ∃ q, sizeW l[i] = q := ⟨_, rfl⟩
        obtain ⟨c, hc⟩ : ∃ c, sizeWL (l.take i) 1 = c := ⟨_, rfl⟩
        rw [hq] at CS hsn hsw
        rw [hc] at hsn hcur ⊢
        have HSN := hid hsn
        have hql : q ≤ 20000000000 := by omega
        have hcl : c ≤ 20000000001 := by omega
        clear hcc hty hsn htake hq hc hsw hbd hcur htk hfull hts
        by_cases hb : c ≤ 1000
        · have q1 : decide ((c : Int) ≤ 1000) = true := by simp; omega
          have e1 := hid (HSN.out.trans (if_pos hb))
          go_wp2_with fail
          refine (CS.out _).mono ?_
          rintro e w2 ⟨rfl, X2⟩
          have X2 := hid ((HR.out.alloc _).trans X2)
          go_wp2_with fail
          go_roundw
          case rel => exact ⟨i + 1, by go_num, by omega, by rw [e1.out]; rfl, X2⟩
          case measure => simp [RowKit.intOf]; omega
        · have q1 : decide ((c : Int) ≤ 1000) = false := by simp; omega
          have e1 := hid (HSN.out.trans (if_neg hb))
          go_wp2_with fail
          go_roundw
          case rel => exact ⟨i + 1, by go_num, by omega, by rw [e1.out], hid (HR.out.alloc _)⟩
          case measure => simp [RowKit.intOf]; omega
      · obtain rfl : i = l.length := by omega
        have e1 : Hid (p = sizeWL (l.take l.length) 1) := hid (by rw [HP.out, List.take_length])
        go_wp2_with fail
        go_ret
        exact ⟨by rw [e1.out]; rfl, HR.out⟩
end Go.Proofs.YtbhpmmofgdppdaaGreatDoor
/-
  demoticref06.Size: how many nodes a tree has, to a depth.
-/
namespace Go.Proofs.YtbhpmmofgdppdaaGreatDoor
open Go.RowKit Go.Lib Go.BigFrame
set_option maxRecDepth 100000 in
set_option maxHeartbeats 1600000 in
theorem nsize_any : ∀ (f : Nat), f ≤ 100000 → ∀ (t : Nd), t.size ≤ bigD → ∀ (A : Nat → Prop) (v : Value) (w : World), NdV A w t v → Calls Tryz.prog 26 #[v, .int .i64 (f : Nat)] w (IntP (sizeD f t : Nat) w) := by
  intro f
  induction f with
  | zero =>
    intro _ t _ A v w hv
    obtain ⟨x, rfl, hx⟩ := hv
    obtain ⟨a0, cap0, rfl, _⟩ := hx
    go_enter Tryz.func26, Tryz.ntmps26
    go_wp2_with fail
    go_ret
    exact ⟨rfl, (Ext.refl _ _).alloc _⟩
  | succ f ih =>
    intro hf t hsz A v w hv
    cases t with
    | mk k n l ps =>
    obtain ⟨p, hp⟩ : ∃ p, p = sizeD (f + 1) (.mk k n l ps) := ⟨_, rfl⟩
    rw [← hp]
    have hp : p = 1 + sizeDL f l := hp
    have HP := hid hp
    obtain ⟨x, rfl, hx⟩ := hv
    have hx : IsSl 4 IsNd A w x l := hx
    have HX := hid hx
    obtain ⟨a0, cap0, rfl, _⟩ := hx
    have HIH := hid (ih (by omega))
    have hll : l.length ≤ bigD := by have := Nd.kids_len (.mk k n l ps); simp only [Nd.kids] at this; omega
    unfold bigD at hll
    have HSZ := hid hsz
    clear ih hp hsz
    show Calls Tryz.prog 26 #[.agg #[.int .i64 k, .string ⟨n.toArray⟩, .slice a0 l.length cap0, .int .i64 ps], .int .i64 ((f + 1 : Nat) : Nat)] w (IntP (p : Nat) w)
    obtain ⟨B, hB⟩ : ∃ B, B = w.heap.size := ⟨_, rfl⟩
    have g0 := heap_alloc_at (w := w) hB (.cells #[.int .i64 k, .string ⟨n.toArray⟩, .slice a0 l.length cap0, .int .i64 ps] 49)
    obtain ⟨W1, hW1⟩ : ∃ W1, W1 = w.alloc (.cells #[.int .i64 k, .string ⟨n.toArray⟩, .slice a0 l.length cap0, .int .i64 ps] 49) := ⟨_, rfl⟩
    have X1 : Ext none' w W1 := by rw [hW1]; exact (Ext.refl _ _).alloc _
    rw [← hW1] at g0
    have HX1 := hid (HX.out.ext isNd_good X1 fun _ _ h => h.elim)
    have X1 := hid X1
    have hb2 : Hid (∀ W, Ext none' W1 W → W.cell? ⟨B, 2, none⟩ = some (.slice a0 l.length cap0)) := hid fun W X => by rw [cell_at (X.heap g0 (fun h => h))]; rfl
    have hz : (((f + 1 : Nat) : Int) == 0) = false := by simp only [beq_eq_false_iff_ne]; omega
    have hs : ((f + 1 : Nat) : Int) - 1 = (f : Int) := by omega
    obtain ⟨F, hF⟩ : ∃ F : Int, F = ((f + 1 : Nat) : Int) := ⟨_, rfl⟩
    have hFb : F ≤ 100000 ∧ 1 ≤ F := by omega
    rw [← hF] at hz hs ⊢
    clear g0 hF
    go_enter Tryz.func26, Tryz.ntmps26
    go_wp2_with fail
    rw [← hW1, ← hB]
    clear hB hW1
    go_loopw [5, 6] (fun c z wr => ∃ (i : Nat), z = .int .i64 (i : Nat) ∧ i ≤ l.length ∧ c = .int .i64 ((1 + sizeDL f (l.take i) : Nat) : Nat) ∧ Hid (Ext none' W1 wr)) (fun _ z _ => l.length - (RowKit.intOf z).toNat)
    case atStart => exact ⟨0, rfl, by omega, rfl, hid (Ext.refl _ _)⟩
    case round =>
      obtain ⟨i, rfl, hle, rfl, HR⟩ := hrel
      have b2 := hb2.out _ HR.out
      by_cases hi : i < l.length
      · obtain ⟨b, off, cs, rfl, hAb, hbw, hcc, hty⟩ := (HX1.out.ext isNd_good HR.out fun _ _ h => h.elim).at i hi
        obtain ⟨x', rfl, hx'⟩ := hty.parts
        have c0 := hcc 0 _ rfl
        have c1 := hcc 1 _ rfl
        have c2 := hcc 2 _ rfl
        have c3 := hcc 3 _ rfl
        simp only [Nat.add_zero] at c0
        have hmem := List.getElem_mem hi
        have hts : l[i].size ≤ bigD := by have := Nd.size_kid (t := .mk k n l ps) hmem; have := HSZ.out; omega
        have HX2 := hid hx'
        obtain ⟨a', cap', rfl, _⟩ := hx'
        have CS := hid (HIH.out l[i] hts A (.agg #[.int .i64 l[i].kind, .string ⟨l[i].text.toArray⟩, .slice a' l[i].kids.length cap', .int .i64 l[i].pos]) wr ⟨_, rfl, HX2.out⟩)
        have htake : l.take (i + 1) = l.take i ++ [l[i]] := by rw [List.take_add_one, List.getElem?_eq_getElem hi]; rfl
        have hsn : 1 + sizeDL f (l.take (i + 1)) = 1 + sizeDL f (l.take i) + sizeD f l[i] := by rw [htake, sizeDL_snoc]; omega
        have hbd : sizeD f l[i] ≤ 20000000000 := by have := sizeD_le f l[i]; unfold bigD at hts; omega
        have htk := sizeDL_take f l i
        have hfull : Nd.sizeL l ≤ 20000000000 := by have := HSZ.out; rw [Nd.size] at this; unfold bigD at this; omega
        have hcl : 1 + sizeDL f (l.take i) ≤ 20000000001 := by omega
        obtain ⟨q, hq⟩ : ∃ q, sizeD f l[i] = q := ⟨_, rfl⟩
        obtain ⟨c, hc⟩ : ∃ c, 1 + sizeDL f (l.take i) = c := ⟨_, rfl⟩
        rw [hq] at CS hsn hbd
        rw [hc] at hsn hcl ⊢
        have HSN := hid hsn
        clear hcc hty hsn htake hq hc htk hfull hts
        go_wp2_with fail
        refine CS.out.mono ?_
        rintro e w2 ⟨rfl, X2⟩
        have X2 := hid (HR.out.trans X2)
        go_wp2_with fail
        go_roundw
        case rel => exact ⟨i + 1, by go_num, by omega, by rw [HSN.out]; rfl, X2⟩
        case measure => simp [RowKit.intOf]; omega
      · obtain rfl : i = l.length := by omega
        have e1 : Hid (1 + sizeDL f (l.take l.length) = p) := hid (by rw [HP.out, List.take_length])
        rw [e1.out]
        go_wp2_with fail
        go_ret
        exact ⟨rfl, X1.out.trans HR.out⟩
end Go.Proofs.YtbhpmmofgdppdaaGreatDoor
