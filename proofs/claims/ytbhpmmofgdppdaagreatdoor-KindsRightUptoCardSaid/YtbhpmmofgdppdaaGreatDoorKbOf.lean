import Derived.Test.YtbhpmmofgdppdaaGreatDoorKbHas
/-
  kinds.function: a type of functions.
-/
namespace Go.Proofs.YtbhpmmofgdppdaaGreatDoor
open Go.RowKit Go.Lib Go.BigFrame
set_option maxRecDepth 100000 in
/-- function$1: of a parameter, the type of what stands in it. -/
theorem func1_tell (D : Nd → Prop) (g : Nd → Ty) (w : World) (f : Value) (C : Nat) (hc : w.heap[C]? = some (.cells #[f] 78 (0, 0))) (hf : TyTell D g w f) :
    TyTell (fun p => 0 < p.kids.length ∧ D (p.kid 0)) (fun p => g (p.kid 0)) w (.func (.func 83) #[] #[.pointer (some ⟨C, 0, none⟩)]) := by
  refine ⟨_, _, rfl, Go.Proofs.enters_of Tryz.func83 (by kernel_rfl) rfl, fun t ht B W x X hB hx => ?_⟩
  show Calls Tryz.prog 83 #[_, _] _ (TyPA B W (g (t.kid 0)))
  have CI := hid fun W' (X' : Ext none' W W') A hA => inner_any D g t ht.1 ht.2 A x f W' hA (hx.ext X' fun _ _ h => h) (hf.ext (X.trans X'))
  have HB := hid hB
  obtain ⟨y, rfl, hy⟩ := hx
  obtain ⟨a1, cap1, rfl, _⟩ := hy
  obtain ⟨fn, caps, rfl, _⟩ := hf
  obtain ⟨r, hr⟩ : ∃ r, g (t.kid 0) = r := ⟨_, rfl⟩
  rw [hr] at CI ⊢
  obtain ⟨Z, hZ⟩ : ∃ Z, Z = W.heap.size := ⟨_, rfl⟩
  obtain ⟨W0, hW0⟩ : ∃ W0, W0 = (W.alloc (.cells #[.int .i64 t.kind, .string ⟨t.text.toArray⟩, .slice a1 t.kids.length cap1, .int .i64 t.pos] 49)).alloc (.cells #[.int .i64 0, .string ⟨#[]⟩, .slice none 0 0] 32) := ⟨_, rfl⟩
  have X0 := hid (show Ext none' W W0 by rw [hW0]; exact ((Ext.refl _ _).alloc _).alloc _)
  have g0 : W0.heap[Z]? = some (.cells #[.int .i64 t.kind, .string ⟨t.text.toArray⟩, .slice a1 t.kids.length cap1, .int .i64 t.pos] 49 (0, 0)) := by rw [hW0]; exact heap_alloc_keep (heap_alloc_at hZ _) _
  have G1 := hid (show W0.heap[Z + 1]? = some (.cells #[.int .i64 0, .string ⟨#[]⟩, .slice none 0 0] 32 (0, 0)) by rw [hW0]; exact heap_alloc_at (by rw [hZ]; simp) _)
  have c0 := cell_at ((X.trans X0.out).heap hc fun h => h) 0
  have k0 := cell_at g0 0
  have k1 := cell_at g0 1
  have k2 := cell_at g0 2
  have k3 := cell_at g0 3
  simp only [List.getElem?_toArray, List.getElem?_cons_zero, List.getElem?_cons_succ] at c0 k0 k1 k2 k3
  clear hr ht hB hc X g0
  go_enter Tryz.func83, Tryz.ntmps83
  go_upto_region 1 with (fail)
  rw [← hW0, ← hZ]
  have HZ := hid hZ
  clear hW0 hZ
  go_wp2_with fail
  refine (CI.out W0 X0.out (and1 B (Z + 1)) (and1.lt HB.out X0.out.size (heap_lt G1.out))).mono ?_
  rintro e W1 ⟨u, rfl, hu, X1⟩
  obtain ⟨y, rfl, hy⟩ := hu
  have HY := hid hy
  obtain ⟨a3, cap3, rfl, _⟩ := hy
  have G1 := hid (X1.heap G1.out fun h => h)
  have X1 := hid (X0.out.trans X1)
  have f0 := free_at G1.out 0
  have f1 := free_at G1.out 1
  have f2 := free_at G1.out 2
  have e0 := cell_at G1.out 0
  have e1 := cell_at G1.out 1
  have e2 := cell_at G1.out 2
  simp only [List.getElem?_toArray, List.getElem?_cons_zero, List.getElem?_cons_succ] at e0 e1 e2
  clear c0 k0 k1 k2 k3
  go_wp2_with fail
  refine ret_ty rfl rfl (set3 G1.out _ _ _) rfl ?_
  exact ⟨_, rfl, TyV.stored HY.out _ _ _, X1.out.set3 (b := Z + 1) (.inr (by have := HZ.out; omega)) _ _ _⟩
/-- What function tells of a tree. -/
def funG (g : Nd → Ty) (n : Nd) : Ty := .mk 6 [] ((n.kid 0).kids.map (fun p => g (p.kid 0)) ++ [if (n.kid 1).kind = 0 then voidT else g (n.kid 1)])
set_option maxRecDepth 100000 in
set_option maxHeartbeats 3200000 in
theorem function_any (D : Nd → Prop) (g : Nd → Ty) (n : Nd) (hk : n.kids.length = 2) (hl : (n.kid 0).kids.length ≤ bigD) (hp : ∀ p ∈ (n.kid 0).kids, 0 < p.kids.length ∧ D (p.kid 0)) (hpk : ∀ p ∈ (n.kid 0).kids, (g (p.kid 0)).kind ≠ 0)
    (hr : (n.kid 1).kind = 0 ∨ (D (n.kid 1) ∧ (g (n.kid 1)).kind ≠ 0)) (A : Nat → Prop) (v f : Value) (w : World) (hA : ∀ b, A b → b < w.heap.size) (hv : NdV none' w n v) (hf : TyTell D g w f) :
    Calls Tryz.prog 55 #[v, f] w (TyPA A w (funG g n)) := by
  obtain ⟨x, rfl, hx⟩ := hv
  have HX := hid hx
  obtain ⟨a1, cap1, rfl, _⟩ := hx
  have HF := hid hf
  obtain ⟨fn, caps, rfl, hfn, hst⟩ := hf
  have HA := hid hA
  obtain ⟨l0, hl0⟩ : ∃ l, (n.kid 0).kids.map (fun p => g (p.kid 0)) = l := ⟨_, rfl⟩
  have hll : l0.length = (n.kid 0).kids.length := by rw [← hl0, List.length_map]
  have hne0 : ∀ x ∈ l0, x.kind ≠ 0 := by
    intro x hx
    rw [← hl0] at hx
    obtain ⟨p, hp, rfl⟩ := List.mem_map.1 hx
    exact hpk p hp
  obtain ⟨r0, hr0⟩ : ∃ r, (if (n.kid 1).kind = 0 then voidT else g (n.kid 1)) = r := ⟨_, rfl⟩
  have hr0k : r0.kind ≠ 0 := by
    rw [← hr0]
    split
    · simp [voidT, Ty.kind]
    · rename_i h
      exact (hr.resolve_left h).2
  have CT := hid fun W (X : Ext none' w W) A hA u u0 (hu : IsSl 4 IsNd none' W u (n.kid 0).kids) (h0 : TyTell (fun p => 0 < p.kids.length ∧ D (p.kid 0)) (fun p => g (p.kid 0)) W u0) => turnedT_any _ _ A (n.kid 0).kids u u0 W hl hA hu hp h0
  have CF := hid fun W (X : Ext none' w W) C (hc : W.heap[C]? = some (.cells #[.func (.func fn) #[] caps] 78 (0, 0))) => func1_tell D g W _ C hc (HF.out.ext X)
  have CO := hid fun (h : (n.kid 1).kind ≠ 0) W (X : Ext none' w W) B hB y hy => hst (n.kid 1) (hr.resolve_left h).1 B W y X hB hy
  have HR0 := hid hr0
  have e6 : funG g n = .mk 6 [] (l0 ++ [r0]) := by unfold funG; rw [hl0, hr0]
  rw [e6]
  rw [hl0] at CT
  have CW := hid fun A' W u (hu : TyV A' W (.mk 6 [] (l0 ++ [r0])) u) => whole_any (.mk 6 [] (l0 ++ [r0])) (by simp only [Ty.args, List.length_append, List.length_singleton]; unfold bigD at hl; omega) (fun x hx => by
    simp only [Ty.args, List.mem_append, List.mem_singleton] at hx
    rcases hx with hx | rfl
    · exact hne0 x hx
    · exact hr0k) A' u W hu
  obtain ⟨i0, hi0, hz0, hz1, hz2⟩ := info_parts infoTy
  have I0 := hid hi0
  have I1 := hid hz0
  have I2 := hid hz1
  have I3 := hid hz2
  have HLL : Hid (l0.length ≤ 100000000000) := hid (by unfold bigD at hl; omega)
  clear hst hA hpk hp hr hl0 hll hne0 hr0 hr0k e6 hl hi0 hz0 hz1 hz2
  have z2 : ((n.kids.length : Int) != 2) = false := by simp only [bne_eq_false_iff_eq]; omega
  have hk0 : 0 < n.kids.length := by omega
  have hk1 : 1 < n.kids.length := by omega
  have y0 : (0 : Int) < (n.kids.length : Int) := by omega
  have y1 : (1 : Int) < (n.kids.length : Int) := by omega
  clear hk
  go_enter Tryz.func55, Tryz.ntmps55
  go_upto_region 1 with (fail)
  obtain ⟨B, hB⟩ : ∃ B, B = w.heap.size := ⟨_, rfl⟩
  obtain ⟨W0, hW0⟩ : ∃ W0, W0 = ((w.alloc (.cells #[.int .i64 n.kind, .string ⟨n.text.toArray⟩, .slice a1 n.kids.length cap1, .int .i64 n.pos] 49)).alloc (.cells #[.func (.func fn) #[] caps] 78)).alloc (.cells #[.int .i64 0, .string ⟨#[]⟩, .slice none 0 0] 32) := ⟨_, rfl⟩
  rw [← hW0, ← hB]
  have X0 := hid (show Ext none' w W0 by rw [hW0]; exact (((Ext.refl _ _).alloc _).alloc _).alloc _)
  have G0 := hid (show W0.heap[B]? = some (.cells #[.int .i64 n.kind, .string ⟨n.text.toArray⟩, .slice a1 n.kids.length cap1, .int .i64 n.pos] 49 (0, 0)) by rw [hW0]; exact heap_alloc_keep (heap_alloc_keep (heap_alloc_at hB _) _) _)
  have G1 := hid (show W0.heap[B + 1]? = some (.cells #[.func (.func fn) #[] caps] 78 (0, 0)) by rw [hW0]; exact heap_alloc_keep (heap_alloc_at (by rw [hB]; simp) _) _)
  have G2 := hid (show W0.heap[B + 1 + 1]? = some (.cells #[.int .i64 0, .string ⟨#[]⟩, .slice none 0 0] 32 (0, 0)) by rw [hW0]; exact heap_alloc_at (by rw [hB]; simp) _)
  have HB := hid hB
  have HB2 := hid (heap_lt G2.out)
  clear hW0 hB
  obtain ⟨b, off, x0, rfl, hbw, k0, k1, k2, k3, hx0⟩ := kid_val (HX.out.ext isNd_good X0.out fun _ _ h => h) 0 hk0
  obtain ⟨b', off', x1, e1, hbw1, m0, m1, m2, m3, hx1⟩ := kid_val (HX.out.ext isNd_good X0.out fun _ _ h => h) 1 hk1
  injection e1 with e1
  injection e1 with e1 e2 _
  subst e1 e2
  simp only [Nat.zero_mul, Nat.one_mul, Nat.add_zero] at k0 k1 k2 k3 m0 m1 m2 m3
  have HX0 := hid hx0
  have HX1 := hid hx1
  obtain ⟨a2, cap2, rfl, _⟩ := hx0
  obtain ⟨a3, cap3, rfl, _⟩ := hx1
  have M := hid (And.intro m0 (And.intro m1 (And.intro m2 m3)))
  have c2 := cell_at G0.out 2
  simp only [List.getElem?_toArray, List.getElem?_cons_zero, List.getElem?_cons_succ] at c2
  have hmf : ∀ (fn : Fn) (first cap : Array Value) (w : World), (Instr.makeFunc fn first cap).run Tryz.prog w = .ok (.func fn first cap) w := fun _ _ _ _ => rfl
  clear m0 m1 m2 m3 k0 k1 k3
  go_wp2_with fail
  refine (CT.out W0 X0.out (and1 A (B + 1 + 1)) (and1.lt HA.out X0.out.size (heap_lt G2.out)) _ _ HX0.out (CF.out W0 X0.out (B + 1) G1.out)).mono ?_
  rintro e W1 ⟨u, rfl, hu, X1⟩
  have hsh := hu.shape
  obtain ⟨a4, cap4, rfl⟩ := hsh
  have HU := hid hu
  have X1 := hid X1
  have X01 := hid (X0.out.trans X1.out)
  have G0 := hid (X1.out.heap G0.out fun h => h)
  have G1 := hid (X1.out.heap G1.out fun h => h)
  have G2 := hid (X1.out.heap G2.out fun h => h)
  have HZ1 := hid X1.out.size
  have M := hid (show _ ∧ _ ∧ _ ∧ _ from ⟨(X1.out.cell (p := ⟨b, off + 4, none⟩) hbw fun h => h).trans M.out.1, (X1.out.cell (p := ⟨b, off + 4 + 1, none⟩) hbw fun h => h).trans M.out.2.1, (X1.out.cell (p := ⟨b, off + 4 + 2, none⟩) hbw fun h => h).trans M.out.2.2.1, (X1.out.cell (p := ⟨b, off + 4 + 3, none⟩) hbw fun h => h).trans M.out.2.2.2⟩)
  have HX1 := hid (HX1.out.ext isNd_good X1.out fun _ _ h => h)
  have hbw2 : b < W1.heap.size := Nat.lt_of_lt_of_le hbw X1.out.size
  clear hu k2 c2
  go_upto_region 5 with (fail)
  obtain ⟨C, hC⟩ : ∃ C, C = W1.heap.size := ⟨_, rfl⟩
  obtain ⟨W2, hW2⟩ : ∃ W2, W2 = W1.alloc (.cells #[.int .i64 7, .string ⟨#[]⟩, .slice none 0 0] 32) := ⟨_, rfl⟩
  rw [← hW2, ← hC]
  have X2 : Ext none' W1 W2 := by rw [hW2]; exact (Ext.refl _ _).alloc _
  have G3 := hid (show W2.heap[C]? = some (.cells #[.int .i64 7, .string ⟨#[]⟩, .slice none 0 0] 32 (0, 0)) by rw [hW2]; exact heap_alloc_at hC _)
  have hCb : C < W2.heap.size := heap_lt G3.out
  have G0 := hid (X2.heap G0.out fun h => h)
  have G1 := hid (X2.heap G1.out fun h => h)
  have G2 := hid (X2.heap G2.out fun h => h)
  have M := hid (show _ ∧ _ ∧ _ ∧ _ from ⟨(X2.cell (p := ⟨b, off + 4, none⟩) hbw2 fun h => h).trans M.out.1, (X2.cell (p := ⟨b, off + 4 + 1, none⟩) hbw2 fun h => h).trans M.out.2.1, (X2.cell (p := ⟨b, off + 4 + 2, none⟩) hbw2 fun h => h).trans M.out.2.2.1, (X2.cell (p := ⟨b, off + 4 + 3, none⟩) hbw2 fun h => h).trans M.out.2.2.2⟩)
  have HX1 := hid (HX1.out.ext isNd_good X2 fun _ _ h => h)
  have hbw3 : b < W2.heap.size := Nat.lt_of_lt_of_le hbw2 X2.size
  have X2 := hid X2
  have HC := hid hC
  have hcge : B + 1 + 1 < C := by rw [hC]; exact heap_lt (by assumption : W1.heap[B + 1 + 1]? = some _)
  clear hW2 hC
  have c2 := cell_at G0.out 2
  simp only [List.getElem?_toArray, List.getElem?_cons_zero, List.getElem?_cons_succ] at c2
  have m0 := M.out.1
  obtain ⟨kb, hkb⟩ : ∃ k, (n.kid 1).kind = k := ⟨_, rfl⟩
  rw [hkb] at m0
  have HKB := hid hkb
  by_cases hz : kb = 0
  case' pos =>
    have qz : (kb != 0) = false := by simpa using hz
    have E : r0 = voidT := by rw [← HR0.out, HKB.out, if_pos hz]
    obtain ⟨W3, a5, cap5, hW3, X3, GC, HY5⟩ : ∃ W3 a5 cap5, W3 = W2 ∧ Ext none' W1 W3 ∧ W3.heap[C]? = some (.cells #[.int .i64 r0.kind, .string ⟨r0.name.toArray⟩, .slice a5 r0.args.length cap5] 32 (0, 0)) ∧ IsSl 3 IsTy (plus (and1 A (B + 1 + 1)) (.slice a4 l0.length cap4)) W3 (.slice a5 r0.args.length cap5) r0.args :=
      ⟨W2, none, 0, rfl, X2.out, by rw [E]; exact G3.out, by rw [E]; exact IsSl.nil _ _ _ _⟩
    have HW3 := hid hW3
    have X3 := hid X3
    have GC := hid GC
    have HY5 := hid HY5
    have G2 := hid (show W3.heap[B + 1 + 1]? = some (.cells #[.int .i64 0, .string ⟨#[]⟩, .slice none 0 0] 32 (0, 0)) by rw [HW3.out]; exact G2.out)
    clear hW3 E hkb hz
    go_upto_region 7 with (fail)
    rw [← HW3.out]
  case' neg =>
    have qz : (kb != 0) = true := by simpa using hz
    have E : Hid (r0 = g (n.kid 1)) := hid (by rw [← HR0.out, HKB.out, if_neg hz])
    have CC := hid fun W (X : Ext none' w W) A hA y hy => (E.out ▸ CO.out (by rw [HKB.out]; exact hz) W X A hA y hy : Calls Tryz.prog fn (#[y] ++ caps) W (TyPA A W r0))
    clear hkb hz
    go_upto_region 6 with (fail)
    have y0' := fun t' : LaterF none' W2 => cell_at (t'.x.heap G1.out fun h => h) 0
    have y2' := fun t' : LaterF none' W2 => cell_at (t'.x.heap G0.out fun h => h) 2
    simp only [List.getElem?_toArray, List.getElem?_cons_zero, List.getElem?_cons_succ] at y0' y2'
    have j0 := fun t' : LaterF none' W2 => (t'.x.cell (p := ⟨b, off + 4, none⟩) hbw3 (fun h => h)).trans M.out.1
    have j1 := fun t' : LaterF none' W2 => (t'.x.cell (p := ⟨b, off + 4 + 1, none⟩) hbw3 (fun h => h)).trans M.out.2.1
    have j2 := fun t' : LaterF none' W2 => (t'.x.cell (p := ⟨b, off + 4 + 2, none⟩) hbw3 (fun h => h)).trans M.out.2.2.1
    have j3 := fun t' : LaterF none' W2 => (t'.x.cell (p := ⟨b, off + 4 + 3, none⟩) hbw3 (fun h => h)).trans M.out.2.2.2
    clear c2 m0
    refine region_q none' W2 (.qs [0, 1, 2, 3, 4] (.one 5 false (.one 6 false .fin))) (by kernel_rfl) (by kernel_rfl) (fun dst v c a w h => by cases dst <;> exact h) ?_
    refine ⟨In.of (Ext.refl _ _).drew, ?_⟩
    change wpQuiet _ _ (fun w' => ∃ t : LaterF none' W2, w' = t.w) _ _ _
    simp only [sel, List.getElem?_cons_succ, List.getElem?_cons_zero]
    repeat (go_big_quiet_step (fail))
    refine wpQuiet_nil ?_
    simp only [wpTreeQ, stepT, sel, List.getElem?_cons_succ, List.getElem?_cons_zero]
    have D1 := hid (Ext.refl none' W2).drew
    clear y0' y2' j0 j1 j2 j3
    go_wp2_with fail
    have XD := hid (X01.out.trans (X2.out.trans D1.out))
    refine (CC.out _ XD.out (and1 (plus (and1 A (B + 1 + 1)) (.slice a4 l0.length cap4)) C) (and1.lt (fun b hb => hb.elim (fun hb => and1.lt HA.out XD.out.size (by
      have h1 := (X2.out.trans D1.out).size
      have h2 := heap_lt G2.out
      have h3 := D1.out.size
      omega) b hb) fun hb => by
        have h1 := (X2.out.trans D1.out).size
        have h2 := (HU.out.lt b hb).2
        omega) (Nat.le_refl _) (by have h3 := D1.out.size; omega)) _ ⟨_, rfl, HX1.out.ext isNd_good D1.out fun _ _ h => h⟩).mono ?_
    rintro e W4 ⟨u, rfl, hu, X4⟩
    obtain ⟨y, rfl, hy⟩ := hu
    have HY := hid hy
    obtain ⟨a5, cap5, rfl, _⟩ := hy
    have X4 := hid (D1.out.trans X4)
    have G3 := hid (X4.out.heap G3.out fun h => h)
    have f0 := free_at G3.out 0
    have f1 := free_at G3.out 1
    have f2 := free_at G3.out 2
    have e0 := cell_at G3.out 0
    have e1 := cell_at G3.out 1
    have e2 := cell_at G3.out 2
    simp only [List.getElem?_toArray, List.getElem?_cons_zero, List.getElem?_cons_succ] at e0 e1 e2
    clear E
    go_upto_region 7 with (fail)
    have XS : Ext none' W1 (((W4.setCell ⟨C, 0, none⟩ (.int .i64 r0.kind)).setCell ⟨C, 1, none⟩ (.string ⟨r0.name.toArray⟩)).setCell ⟨C, 2, none⟩ (.slice a5 r0.args.length cap5)) := (X2.out.trans X4.out).set3 (b := C) (.inr (by rw [HC.out]; exact Nat.le_refl _)) _ _ _
    have XT : Ext (one C) W4 (((W4.setCell ⟨C, 0, none⟩ (.int .i64 r0.kind)).setCell ⟨C, 1, none⟩ (.string ⟨r0.name.toArray⟩)).setCell ⟨C, 2, none⟩ (.slice a5 r0.args.length cap5)) := Ext.self3 _ _ _ _ _
    have gs := set3 G3.out (.int .i64 r0.kind) (.string ⟨r0.name.toArray⟩) (.slice a5 r0.args.length cap5)
    obtain ⟨W3, hW3⟩ : ∃ W3, W3 = (((W4.setCell ⟨C, 0, none⟩ (.int .i64 r0.kind)).setCell ⟨C, 1, none⟩ (.string ⟨r0.name.toArray⟩)).setCell ⟨C, 2, none⟩ (.slice a5 r0.args.length cap5)) := ⟨_, rfl⟩
    rw [← hW3] at XS XT gs ⊢
    have X3 := hid XS
    have GC := hid gs
    have HY5 := hid ((HY.out.ext isTy_good XT fun b _ h => .inr h).mono (B := plus (and1 A (B + 1 + 1)) (.slice a4 l0.length cap4)) isTy_good fun b _ h => .inl h)
    have G2 := hid (XT.heap (X4.out.heap G2.out fun h => h) (by unfold one; omega))
    clear hW3 XS XT gs f0 f1 f2 e0 e1 e2
  all_goals
    have k0 := cell_at GC.out 0
    have k1 := cell_at GC.out 1
    have k2 := cell_at GC.out 2
    simp only [List.getElem?_toArray, List.getElem?_cons_zero, List.getElem?_cons_succ] at k0 k1 k2
    have X31 := hid X3.out
    have R2 := HU.out.ext isTy_good X3.out (fun b _ h => h.elim) (fun g hg h => h.elim)
    obtain ⟨cells, ho, hr⟩ := R2
    have O2 := hid (ownsRow_ext ho ((Ext.refl none' W3).alloc (.cells #[.int .i64 r0.kind, .string ⟨r0.name.toArray⟩, .slice a5 r0.args.length cap5] 32)) (fun _ _ h => h))
    have S2' := hid (three_src (P := Tryz.prog) Tryz.underlying30 W3 (.int .i64 r0.kind) (.string ⟨r0.name.toArray⟩) (.slice a5 r0.args.length cap5) 32 rfl rfl rfl)
    have HR := hid hr
    have HSZ := hid (show W0.heap.size ≤ W3.heap.size from (X1.out.trans X3.out).size)
    have hlb := HLL.out
    clear ho hr
    try clear c2 m0
    go_wp2_with (at_builtin; refine wpList_app _ rfl (.tmp 32) (.tmp 34) 30 30 rfl W0.heap.size 32 i0 _ 3 48 Tryz.underlying30 I0.out I1.out I2.out I3.out rfl _ l0.length cells rfl O2.out _ 1 _ rfl S2'.out ?_ ?_ ?_ ?_)
    · unfold maxLen; omega
    · omega
    · have := HSZ.out; rw [World.size_alloc]; omega
    intro v5 w5 own5 grow5 blk5 _
    have X35 : Ext none' W3 (W3.alloc (.cells #[.int .i64 r0.kind, .string ⟨r0.name.toArray⟩, .slice a5 r0.args.length cap5] 32)) := (Ext.refl _ _).alloc _
    have XG : Ext (fun b => (Value.slice a4 l0.length cap4).ownBlock = some b) W3 w5 := (X35.mono fun _ _ h => h.elim).grown grow5 fun g hg => .inl hg
    have XW : Ext none' w w5 := (X01.out.trans X31.out |>.trans X35).grown grow5 fun g hg => .inr (Nat.le_trans X0.out.size (O2.out.lt g hg).1)
    have G2 := hid (show w5.heap[B + 1 + 1]? = some (.cells #[.int .i64 0, .string ⟨#[]⟩, .slice none 0 0] 32 (0, 0)) from XG.heap G2.out fun h => by
      have h1 := (O2.out.lt _ h).1
      have h2 := HB2.out
      omega)
    have R5 : RowOf 3 32 IsTy (and1 A (B + 1 + 1)) w5 W0.heap.size v5 (l0 ++ [r0]) :=
      RowOf.snoc isTy_good O2.out (fun j hj => isTy_good.ext (HR.out j hj) X35 fun _ _ q => q.elim) (isTy_good.ext (TyV.ty (A := plus (and1 A (B + 1 + 1)) (.slice a4 l0.length cap4)) (t := r0) HY5.out) X35 fun _ _ q => q.elim) own5 grow5 (by rw [World.size_alloc]; exact blk5)
    have hs5 := own_slice own5
    obtain ⟨a9, cap9, rfl⟩ := hs5
    have SL := hid (R5.sl isTy_good fun b hb h => by
      rcases h with h | h
      · have h1 := HA.out b h
        have h2 := X0.out.size
        omega
      · have h2 := HB2.out
        omega)
    have CL := hid (CW.out (and1 A (B + 1 + 1)) w5 (.agg #[.int .i64 6, .string ⟨#[]⟩, .slice a9 (l0.length + 1) cap9]) ⟨_, rfl, SL.out⟩)
    have XW := hid XW
    clear R5 XG X35 own5 grow5 blk5 k0 k1 k2
    go_wp2_with fail
    refine CL.out.mono ?_
    rintro e w6 ⟨u, rfl, hu, X6⟩
    obtain ⟨y6, rfl, hy6⟩ := hu
    have HY6 := hid hy6
    obtain ⟨a7, cap7, rfl, _⟩ := hy6
    have G2 := hid (X6.heap G2.out fun h => h)
    have X6 := hid (XW.out.trans X6)
    have f0 := free_at G2.out 0
    have f1 := free_at G2.out 1
    have f2 := free_at G2.out 2
    have e0 := cell_at G2.out 0
    have e1 := cell_at G2.out 1
    have e2 := cell_at G2.out 2
    simp only [List.getElem?_toArray, List.getElem?_cons_zero, List.getElem?_cons_succ] at e0 e1 e2
    go_wp2_with fail
    refine ret_ty rfl rfl (set3 G2.out _ _ _) rfl ?_
    exact ⟨_, rfl, TyV.stored (t := .mk 6 [] (l0 ++ [r0])) HY6.out _ _ _, X6.out.set3 (b := B + 1 + 1) (.inr (by have := HB.out; omega)) _ _ _⟩
end Go.Proofs.YtbhpmmofgdppdaaGreatDoor
