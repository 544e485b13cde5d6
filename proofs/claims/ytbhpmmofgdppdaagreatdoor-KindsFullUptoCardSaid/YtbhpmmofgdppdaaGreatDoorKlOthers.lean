import Derived.Test.YtbhpmmofgdppdaaGreatDoorZAu
import Derived.Test.YtbhpmmofgdppdaaGreatDoorZAv
import Derived.Test.YtbhpmmofgdppdaaGreatDoorZAw
/-
  KindsOthers: the law's function.
-/
namespace Go.Proofs.YtbhpmmofgdppdaaGreatDoor
open Go.RowKit Go.Lib Go.BigFrame
theorem sameP_refl : ∀ (f : Nat) (t : Ty), t.size ≤ f → sameP f t t = true
  | 0, t, h => by have := t.size_pos; omega
  | f + 1, t, h => by
    rw [sameP, samesL_good rfl fun i h1 _ => sameP_refl f _ (by have := Ty.size_arg (List.getElem_mem h1); omega)]
    simp
theorem map_self {l : List Ty} {f : Ty → Ty} (h : ∀ t ∈ l, f t = t) : l.map f = l := by
  conv => rhs; rw [← List.map_id l]
  exact List.map_congr_left h
theorem fst_one (nm n : List UInt8) : fstI (· == n) [nm] = if nm == n then 0 else -1 := by
  unfold fstI
  rw [List.findIdx?_cons]
  cases nm == n <;> rfl
theorem with_self (nm : List UInt8) (t : Ty) : bareB t = true → withT [nm] [.mk 4 nm []] t = t := by
  induction t using Ty.induct with
  | h k n l ih =>
    intro h
    rw [bareB, bareL_all, Bool.and_eq_true, List.all_eq_true] at h
    rw [withT, withL_map]
    split
    · rename_i hc
      obtain ⟨rfl, hc, _⟩ := hc
      rw [fst_one] at hc ⊢
      split at hc
      · have e : nm = n := beq_iff_eq.1 ‹(nm == n) = true›
        subst e
        have hl : l = [] := by simpa using h.1
        subst hl
        simp
      · omega
    · rw [map_self fun y hy => ih y hy (h.2 y hy)]
theorem with_other (nm : List UInt8) (b : Ty) (t : Ty) : hasB nm t = false → withT [nm] [b] t = t := by
  induction t using Ty.induct with
  | h k n l ih =>
    intro h
    rw [hasB, hasL_any, Bool.or_eq_false_iff, List.any_eq_false] at h
    rw [withT, withL_map]
    split
    · rename_i hc
      obtain ⟨rfl, hc, _⟩ := hc
      rw [fst_one] at hc
      split at hc
      · have e : nm = n := beq_iff_eq.1 ‹(nm == n) = true›
        have h1 := h.1
        rw [e] at h1
        simp at h1
      · omega
    · rw [map_self fun y hy => ih y hy (by simpa using h.2 y hy)]
/-- What holds within the second region of KindsOthers. -/
def IO (t b : Ty) (nm : List UInt8) (F : Value → Value → Value → Value → Value → Act) (W5 : World) (i : Nat) (x y : Bool) (ac : Act) (w : World) : Prop :=
  ∃ v9 v29 v31 v32 v33 p9 p29 p32, ac = F v9 v29 v31 v32 v33 ∧ Ext none' W5 w ∧ (x = true → v29 = .slice (some ⟨p29, 0, none⟩) 1 1 ∧ W5.heap.size ≤ p29 ∧ w.heap[p29]? = some (.cells #[.string ⟨nm.toArray⟩] 9 (0, 0)) ∧ ¬ AV false y 0 p9 p29) ∧ (y = true → v9 = .pointer (some ⟨p9, 0, none⟩) ∧ W5.heap.size ≤ p9 ∧ w.heap[p9]? = some (.cells zTy 32 (0, 0))) ∧
    (1 ≤ i → TyV (AV false y 0 p9) w b v31) ∧ (2 ≤ i → v32 = .slice (some ⟨p32, 0, none⟩) 1 1 ∧ ¬ AV false y 0 p9 p32 ∧ ∃ c, v31 = .agg #[.int .i64 b.kind, .string ⟨b.name.toArray⟩, c] ∧ w.heap[p32]? = some (.cells #[.int .i64 b.kind, .string ⟨b.name.toArray⟩, c] 32 (0, 0))) ∧ (3 ≤ i → TyV (AV false y 0 p9) w (withT [nm] [b] t) v33)
theorem AVy.put {w : World} {p9 : Nat} {t : Ty} {v : Value} (h : TyV (AV false false 0 p9) w t v) (o : Obj) : TyV (AV false true 0 w.heap.size) (w.alloc o) t v :=
  (h.mono (B := AV false true 0 w.heap.size) fun b hb q => by
    rcases q with ⟨e, _⟩ | ⟨_, e⟩
    · cases e
    · omega).ext ((Ext.refl none' w).alloc o) fun _ _ h => h.elim
theorem isStrs_lit1 {A : Nat → Prop} {w : World} {B : Nat} {s : List UInt8} {ty : TypeId} {fz : Nat × Nat} (h : w.heap[B]? = some (.cells #[.string ⟨s.toArray⟩] ty fz)) (hA : ¬ A B) : IsStrs A w (.slice (some ⟨B, 0, none⟩) 1 1) [s] := isSl_lit (xs := [s]) h hA (Nat.le_refl _) (fun i hi => by
  have h' : i < 1 := hi
  obtain rfl : i = 0 := by omega
  rfl)
theorem isTys_lit1 {A : Nat → Prop} {w : World} {B : Nat} {t : Ty} {c : Value} {ty : TypeId} {fz : Nat × Nat} (h : w.heap[B]? = some (.cells #[.int .i64 t.kind, .string ⟨t.name.toArray⟩, c] ty fz)) (hA : ¬ A B) (hc : IsSl 3 IsTy A w c t.args) : IsSl 3 IsTy A w (.slice (some ⟨B, 0, none⟩) 1 1) [t] := isSl_lit (xs := [t]) h hA (Nat.le_refl _) (fun i hi => by
  have h' : i < 1 := hi
  obtain rfl : i = 0 := by omega
  exact TyV.ty hc)
set_option maxRecDepth 100000 in
set_option maxHeartbeats 6400000 in
theorem law_others (t b : Ty) (nm : List UInt8) (ht : t.size ≤ bigD) (hb : b.size ≤ bigD) (v u : Value) (w : World) (hv : TyV none' w t v) (hu : TyV none' w b u) : Calls Tryz.prog 4 #[v, u, .string ⟨nm.toArray⟩] w (TruePost w) := by
  have HV := hid hv
  have HU := hid hu
  obtain ⟨x, rfl, hx⟩ := hv
  obtain ⟨y, rfl, hy⟩ := hu
  obtain ⟨a1, cap1, rfl, _⟩ := hx
  obtain ⟨a2, cap2, rfl, _⟩ := hy
  have C1 := hid fun W (X : Ext none' w W) => rsize_any t ht none' _ W (HV.out.ext X fun _ _ h => h)
  have C2 := hid fun W (X : Ext none' w W) => rsize_any b hb none' _ W (HU.out.ext X fun _ _ h => h)
  have hts := ht
  have hbs := hb
  unfold bigD at hts hbs
  obtain ⟨B, hB⟩ : ∃ B, B = w.heap.size := ⟨_, rfl⟩
  have G0 := hid (heap_alloc_keep (heap_alloc_at (w := w) hB (.cells #[.int .i64 t.kind, .string ⟨t.name.toArray⟩, .slice a1 t.args.length cap1] 25)) (.cells #[.int .i64 b.kind, .string ⟨b.name.toArray⟩, .slice a2 b.args.length cap2] 25))
  have G1 := hid (heap_alloc_at (w := w.alloc (.cells #[.int .i64 t.kind, .string ⟨t.name.toArray⟩, .slice a1 t.args.length cap1] 25)) (k := B + 1) (by rw [hB]; simp) (.cells #[.int .i64 b.kind, .string ⟨b.name.toArray⟩, .slice a2 b.args.length cap2] 25))
  have HB := hid hB
  clear hB
  by_cases h6 : t.size ≤ 60
  · have z1 : ¬ ((60 : Int) < (t.size : Int)) := by omega
    by_cases h7 : b.size ≤ 60
    · have z2 : ¬ ((60 : Int) < (b.size : Int)) := by omega
      go_enter Tryz.func4, Tryz.ntmps4
      go_wp2_with fail
      refine (C1.out _ (((Ext.refl _ _).alloc _).alloc _)).mono ?_
      rintro e W1 ⟨rfl, X1⟩
      have G0 := hid (X1.heap G0.out fun h => h)
      have G1 := hid (X1.heap G1.out fun h => h)
      have X1 := hid ((((Ext.refl none' w).alloc _).alloc _).trans X1)
      have c0 := cell_at G1.out 0
      have c1 := cell_at G1.out 1
      have c2 := cell_at G1.out 2
      simp only [List.getElem?_toArray, List.getElem?_cons_zero, List.getElem?_cons_succ] at c0 c1 c2
      rw [HB.out] at c0 c1 c2
      go_wp2_with fail
      refine (C2.out _ X1.out).mono ?_
      rintro e W2 ⟨rfl, X2⟩
      have G0 := hid (X2.heap G0.out fun h => h)
      have G1 := hid (X2.heap G1.out fun h => h)
      have X2 := hid (X1.out.trans X2)
      clear c0 c1 c2
      have c0 := cell_at G0.out 0
      have c1 := cell_at G0.out 1
      have c2 := cell_at G0.out 2
      simp only [List.getElem?_toArray, List.getElem?_cons_zero, List.getElem?_cons_succ] at c0 c1 c2
      rw [HB.out] at c0 c1 c2
      have C3 := hid (of_tyany t ht none' _ W2 (HV.out.ext X2.out fun _ _ h => h) (fun _ h => h.elim))
      go_wp2_with fail
      refine C3.out.mono ?_
      rintro e W3 ⟨v3, rfl, hv3, X3⟩
      have XR3 := hid X3
      have X3 := hid (X2.out.trans X3)
      have HV3 := hid hv3
      obtain ⟨x3, rfl, hx3⟩ := hv3
      obtain ⟨a3, cap3, rfl, _⟩ := hx3
      clear c0 c1 c2
      go_wp2_with fail
      obtain ⟨WA, hWA⟩ : ∃ WA, WA = ((W3.alloc (.cells #[.int .i64 t.kind, .string ⟨t.name.toArray⟩, .slice a3 t.args.length cap3] 32)).alloc (.cells #[.string ⟨nm.toArray⟩] 9)).alloc (.cells #[.int .i64 4, .string ⟨nm.toArray⟩, .slice none 0 0] 32) := ⟨_, rfl⟩
      rw [← hWA]
      have XA : Ext none' W3 WA := by rw [hWA]; exact (((Ext.refl _ _).alloc _).alloc _).alloc _
      have ga : WA.heap[W3.heap.size]? = some (.cells #[.int .i64 t.kind, .string ⟨t.name.toArray⟩, .slice a3 t.args.length cap3] 32 (0, 0)) := by rw [hWA]; exact heap_alloc_keep (heap_alloc_keep (heap_alloc_at rfl _) _) _
      have gb : WA.heap[W3.heap.size + 1]? = some (.cells #[.string ⟨nm.toArray⟩] 9 (0, 0)) := by rw [hWA]; exact heap_alloc_keep (heap_alloc_at (by simp) _) _
      have gc : WA.heap[W3.heap.size + 1 + 1]? = some (.cells #[.int .i64 4, .string ⟨nm.toArray⟩, .slice none 0 0] 32 (0, 0)) := by rw [hWA]; exact heap_alloc_at (by simp) _
      refine (with_any [nm] [.mk 4 nm []] (by simp) t (by omega) none' _ _ _ WA (HV3.out.ext XA fun _ _ h => h) (isStrs_lit1 gb fun h => h) (isTys_lit1 (t := .mk 4 nm []) gc (fun h => h) (IsSl.nil _ _ _ _)) (fun _ h => h.elim)).mono ?_
      rintro e W4 ⟨v4, rfl, hv4, X4⟩
      obtain ⟨S1, hS1⟩ : ∃ S1, withT [nm] [.mk 4 nm []] t = S1 := ⟨_, rfl⟩
      rw [hS1] at hv4
      have HS1 := hid hS1
      have HV4 := hid hv4
      have GX := hid (X4.heap ga fun h => h)
      have XR4 := hid (XA.trans X4)
      have X4 := hid (X3.out.trans (XA.trans X4))
      obtain ⟨x4, rfl, hx4⟩ := hv4
      obtain ⟨a4, cap4, rfl, _⟩ := hx4
      clear hWA XA ga gb gc hS1
      go_upto_region 5 with (fail)
      obtain ⟨W5, hW5⟩ : ∃ W5, W5 = W4.alloc (.cells #[.int .i64 S1.kind, .string ⟨S1.name.toArray⟩, .slice a4 S1.args.length cap4] 32) := ⟨_, rfl⟩
      rw [← hW5]
      have X45 : Ext none' W4 W5 := by rw [hW5]; exact (Ext.refl _ _).alloc _
      have GS := hid (show W5.heap[W4.heap.size]? = some (.cells #[.int .i64 S1.kind, .string ⟨S1.name.toArray⟩, .slice a4 S1.args.length cap4] 32 (0, 0)) by rw [hW5]; exact heap_alloc_at rfl _)
      have GX := hid (X45.heap GX.out fun h => h)
      have HV4 := hid (HV4.out.ext X45 fun _ _ h => h)
      have X5 := hid (X4.out.trans X45)
      have HV3 := hid (HV3.out.ext (XR4.out.trans X45) fun _ _ h => h)
      have G0 := hid ((XR3.out.trans (XR4.out.trans X45)).heap G0.out fun h => h)
      have G1 := hid ((XR3.out.trans (XR4.out.trans X45)).heap G1.out fun h => h)
      have x0 := fun t' : LaterF none' W5 => cell_at (t'.x.heap GX.out fun h => h) 0
      have x1 := fun t' : LaterF none' W5 => cell_at (t'.x.heap GX.out fun h => h) 1
      have x2 := fun t' : LaterF none' W5 => cell_at (t'.x.heap GX.out fun h => h) 2
      have y0 := fun t' : LaterF none' W5 => cell_at (t'.x.heap G1.out fun h => h) 0
      have y1 := fun t' : LaterF none' W5 => cell_at (t'.x.heap G1.out fun h => h) 1
      have y2 := fun t' : LaterF none' W5 => cell_at (t'.x.heap G1.out fun h => h) 2
      simp only [List.getElem?_toArray, List.getElem?_cons_zero, List.getElem?_cons_succ] at x0 x1 x2 y0 y1 y2
      rw [HB.out] at y0 y1 y2
      clear hW5 X45 GX G1 XR3 XR4 C1 C2 C3
      have htw : t.size ≤ 100000000000 := by omega
      refine region_m none' W5 [0, 1, 3] [4, 5, 6] 2 7 (.one 8 false .fin) (by kernel_rfl) (by kernel_rfl) (fun dst v c a w h => by cases dst <;> exact h) (IO t b nm (fun v9 v29 v31 v32 v33 => { tmps := #[.agg #[.int .i64 t.kind, .string ⟨t.name.toArray⟩, .slice a1 t.args.length cap1], .agg #[.int .i64 b.kind, .string ⟨b.name.toArray⟩, .slice a2 b.args.length cap2], .string ⟨nm.toArray⟩, .pointer (some ⟨w.heap.size, 0, none⟩), .pointer (some ⟨w.heap.size + 1, 0, none⟩), undef, .bool false, .pointer (some ⟨W3.heap.size, 0, none⟩), .pointer (some ⟨W4.heap.size, 0, none⟩), v9, .agg #[.int .i64 t.kind, .string ⟨t.name.toArray⟩, .slice a1 t.args.length cap1], .int .i64 (t.size : Nat), .bool (decide ((60 : Int) < (t.size : Int))), .bool (decide ((60 : Int) < (t.size : Int))), .agg #[.int .i64 b.kind, .string ⟨b.name.toArray⟩, .slice a2 b.args.length cap2], .int .i64 (b.size : Nat), .bool (decide ((60 : Int) < (b.size : Int))), .bool (decide ((60 : Int) < (t.size : Int)) || decide ((60 : Int) < (b.size : Int))), .agg #[.int .i64 t.kind, .string ⟨t.name.toArray⟩, .slice a1 t.args.length cap1], .agg #[.int .i64 t.kind, .string ⟨t.name.toArray⟩, .slice a3 t.args.length cap3], .agg #[.int .i64 t.kind, .string ⟨t.name.toArray⟩, .slice a3 t.args.length cap3], .string ⟨nm.toArray⟩, .slice (some ⟨W3.heap.size + 1, 0, none⟩) 1 1, .string ⟨nm.toArray⟩, .agg #[.int .i64 4, .string ⟨nm.toArray⟩, .slice none 0 0], .slice (some ⟨W3.heap.size + 1 + 1, 0, none⟩) 1 1, .agg #[.int .i64 S1.kind, .string ⟨S1.name.toArray⟩, .slice a4 S1.args.length cap4], .agg #[.int .i64 t.kind, .string ⟨t.name.toArray⟩, .slice a3 t.args.length cap3], .string ⟨nm.toArray⟩, v29, .agg #[.int .i64 b.kind, .string ⟨b.name.toArray⟩, .slice a2 b.args.length cap2], v31, v32, v33, undef, undef, undef, undef, undef, undef, undef, undef, undef, undef, undef, undef, undef, undef, undef, undef, undef, undef, undef, undef, undef], defers := [] }) W5) (In.of (Ext.refl _ _).drew) ?_ ?_ ?_ ?_ ?_
      · simp only [sel, List.getElem?_cons_succ, List.getElem?_cons_zero]
        repeat (go_big_quiet_step (fail))
        refine wpQuiet_nil ?_
        exact ⟨_, _, _, _, _, 0, 0, 0, rfl, (Ext.refl _ _).drew, (fun h => by cases h), (fun h => by cases h), (fun h => by omega), (fun h => by omega), (fun h => by omega)⟩
      all_goals clear x0 x1 x2 y0 y1 y2
      · intro i hi x y hr ac W hI
        obtain ⟨v9, v29, v31, v32, v33, p9, p29, p32, rfl, XI, hx, hy, h1, h2, h3⟩ := hI
        have hi' : i < 3 := hi
        have HXI := hid XI
        have HX := hid hx
        have HY := hid hy
        have HH1 := hid h1
        have HH2 := hid h2
        have HLT : Hid (∀ q, AV false y 0 p9 q → q < W.heap.size ∧ W5.heap.size ≤ q) := hid fun q hq => by
          rcases hq with ⟨e, _⟩ | ⟨e, rfl⟩
          · cases e
          · exact ⟨heap_lt (hy e).2.2, (hy e).2.1⟩
        have HFR : Hid (∀ q, q < w.heap.size → ¬ AV false y 0 p9 q) := hid fun q hq h => by
          have := (HLT.out q h).2
          have := X5.out.size
          omega
        clear XI hx hy h1 h2 h3
        match i, hi' with
        | 0, _ =>
          show stepT _ _ _ _ 4 true _ _ _
          simp only [stepT, sel, List.getElem?_cons_succ, List.getElem?_cons_zero]
          have C := hid (of_tyany b hb (AV false y 0 p9) _ W ((HU.out.mono (B := none') fun _ _ h => h).ext (X5.out.trans HXI.out) fun _ _ h => h) (fun q hq => (HLT.out q hq).1))
          clear hr
          go_wp2_with fail
          refine C.out.mono ?_
          rintro e W6 ⟨v, rfl, hv, X6⟩
          have HVV := hid hv
          have X6 := hid X6
          clear hv
          go_wp2_with fail
          exact ⟨In.of (HXI.out.trans X6.out), _, _, _, _, _, p9, p29, p32, rfl, HXI.out.trans X6.out, fun h => ⟨(HX.out h).1, (HX.out h).2.1, X6.out.heap (HX.out h).2.2.1 fun h => h, (HX.out h).2.2.2⟩, fun h => ⟨(HY.out h).1, (HY.out h).2.1, X6.out.heap (HY.out h).2.2 fun h => h⟩, fun _ => HVV.out, fun h => by omega, fun h => by omega⟩
        | 1, _ =>
          show stepT _ _ _ _ 5 true _ _ _
          simp only [stepT, sel, List.getElem?_cons_succ, List.getElem?_cons_zero]
          have hv31 := HH1.out (by decide)
          have HV31 := hid hv31
          obtain ⟨c, rfl, hc⟩ := hv31
          clear hr
          go_wp2_with fail
          have Y : Ext none' W (W.alloc (.cells #[.int .i64 b.kind, .string ⟨b.name.toArray⟩, c] 32)) := (Ext.refl _ _).alloc _
          exact ⟨In.of (HXI.out.trans Y), _, _, _, _, _, p9, p29, W.heap.size, rfl, HXI.out.trans Y, fun h => ⟨(HX.out h).1, (HX.out h).2.1, Y.heap (HX.out h).2.2.1 fun h => h, (HX.out h).2.2.2⟩, fun h => ⟨(HY.out h).1, (HY.out h).2.1, Y.heap (HY.out h).2.2 fun h => h⟩, fun _ => HV31.out.ext Y fun _ _ h => h.elim, fun _ => ⟨rfl, fun h => by have := (HLT.out _ h).1; omega, c, rfl, heap_alloc_at rfl _⟩, fun h => by omega⟩
        | 2, _ =>
          cases x with
          | false => exact (Bool.noConfusion (hr.symm.trans (by cases y <;> kernel_rfl) : true = false))
          | true =>
            show stepT _ _ _ _ 6 true _ _ _
            simp only [stepT, sel, List.getElem?_cons_succ, List.getElem?_cons_zero]
            obtain ⟨rfl, hl29, g29, ha29⟩ := HX.out rfl
            obtain ⟨rfl, ha32, c, rfl, g32⟩ := HH2.out (by decide)
            have hv31 := HH1.out (by decide)
            obtain ⟨c', e', hc'⟩ := hv31
            injection e' with e'
            have e2 : c' = c := by simpa using e'.symm
            subst e2
            have hlt0 : ∀ q, AV false y 0 p9 q → q < W.heap.size := fun q hq => (HLT.out q hq).1
            have C := hid (with_any [nm] [b] (by simp) t htw (AV false y 0 p9) _ _ _ W ((HV3.out.mono (B := AV false y 0 p9) fun q hq h => by have := (HLT.out q h).2; omega).ext HXI.out fun _ _ h => h.elim) (isStrs_lit1 g29 ha29) (isTys_lit1 g32 ha32 hc') hlt0)
            have HG32 := hid g32
            have HA32 := hid ha32
            have HC' := hid hc'
            clear hr hlt0 hl29 g29 ha29 g32 ha32 hc' e'
            go_wp2_with fail
            refine C.out.mono ?_
            rintro e W6 ⟨v, rfl, hv, X6⟩
            have HVV := hid hv
            have X6 := hid X6
            clear hv
            go_wp2_with fail
            exact ⟨In.of (HXI.out.trans X6.out), _, _, _, _, _, p9, p29, p32, rfl, HXI.out.trans X6.out, fun _ => ⟨rfl, (HX.out (by trivial)).2.1, X6.out.heap (HX.out (by trivial)).2.2.1 fun h => h, (HX.out (by trivial)).2.2.2⟩, fun h => ⟨(HY.out h).1, (HY.out h).2.1, X6.out.heap (HY.out h).2.2 fun h => h⟩, fun _ => (HH1.out (by decide)).ext X6.out fun _ _ h => h.elim, fun _ => ⟨rfl, HA32.out, _, rfl, X6.out.heap HG32.out fun h => h⟩, fun _ => HVV.out⟩
      · intro i hi y ac W hI
        obtain ⟨v9, v29, v31, v32, v33, p9, p29, p32, rfl, XI, hx, hy, h1, h2, h3⟩ := hI
        have HXI := hid XI
        have HY := hid hy
        have HH1 := hid h1
        have HH2 := hid h2
        have HH3 := hid h3
        clear XI hx hy h1 h2 h3
        simp only [stepT, sel, List.getElem?_cons_succ, List.getElem?_cons_zero]
        go_wp2_with fail
        have Y : Ext none' W (W.alloc (.cells #[.string ⟨nm.toArray⟩] 9)) := (Ext.refl _ _).alloc _
        exact ⟨In.of (HXI.out.trans Y), _, _, _, _, _, p9, W.heap.size, p32, rfl, HXI.out.trans Y, fun _ => ⟨rfl, HXI.out.size, heap_alloc_at rfl _, fun h => by
          rcases h with ⟨e, _⟩ | ⟨e, h⟩
          · cases e
          · have := heap_lt (HY.out e).2.2; omega⟩, fun h => ⟨(HY.out h).1, (HY.out h).2.1, Y.heap (HY.out h).2.2 fun h => h⟩, fun h => (HH1.out h).ext Y fun _ _ h => h.elim, fun h => by
          obtain ⟨q1, q2, c, q3, q4⟩ := HH2.out h
          exact ⟨q1, q2, c, q3, Y.heap q4 fun h => h⟩, fun h => (HH3.out h).ext Y fun _ _ h => h.elim⟩
      · intro i hi x ac W hI
        obtain ⟨v9, v29, v31, v32, v33, p9, p29, p32, rfl, XI, hx, hy, h1, h2, h3⟩ := hI
        have HXI := hid XI
        have HX := hid hx
        have HH1 := hid h1
        have HH2 := hid h2
        have HH3 := hid h3
        clear XI hx hy h1 h2 h3
        simp only [stepT, sel, List.getElem?_cons_succ, List.getElem?_cons_zero]
        go_wp2_with fail
        have Y : Ext none' W (W.alloc (.cells zTy 32)) := (Ext.refl _ _).alloc _
        have hno : ∀ q, q < W.heap.size → ¬ AV false true 0 W.heap.size q := fun q hq h => by
          rcases h with ⟨e, _⟩ | ⟨_, h⟩
          · cases e
          · omega
        exact ⟨In.of (HXI.out.trans Y), _, _, _, _, _, W.heap.size, p29, p32, rfl, HXI.out.trans Y, fun h => ⟨(HX.out h).1, (HX.out h).2.1, Y.heap (HX.out h).2.2.1 fun h => h, hno _ (heap_lt (HX.out h).2.2.1)⟩, fun _ => ⟨rfl, HXI.out.size, heap_alloc_at rfl _⟩, fun h => AVy.put (HH1.out h) _, fun h => by
          obtain ⟨q1, q2, c, q3, q4⟩ := HH2.out h
          exact ⟨q1, hno _ (heap_lt q4), c, q3, Y.heap q4 fun h => h⟩, fun h => AVy.put (HH3.out h) _⟩
      · rintro ac W ⟨v9, v29, v31, v32, v33, p9, p29, p32, rfl, XI, hx, hy, h1, h2, h3⟩
        have h3 := h3 (by decide)
        obtain ⟨rfl, l9, g9⟩ := hy rfl
        have hS2l : True := trivial
        obtain ⟨S2, hS2⟩ : ∃ S2, withT [nm] [b] t = S2 := ⟨_, rfl⟩
        rw [hS2] at h3
        obtain ⟨x33, rfl, hx33⟩ := h3
        have HX33 := hid hx33
        obtain ⟨a5, cap5, rfl, _⟩ := hx33
        have f0 := free_at g9 0
        have f1 := free_at g9 1
        have f2 := free_at g9 2
        have e0 := cell_at g9 0
        have e1 := cell_at g9 1
        have e2 := cell_at g9 2
        simp only [zTy, List.getElem?_toArray, List.getElem?_cons_zero, List.getElem?_cons_succ] at e0 e1 e2
        have HG9 := hid g9
        have HL9 := hid l9
        have HXI := hid XI
        have HOT : Hid (hasB nm t = false → S2 = t) := hid fun h => by rw [← hS2]; exact with_other nm b t h
        have HSE : Hid (bareB t = true → S1 = t) := hid fun h => by rw [← HS1.out]; exact with_self nm t h
        clear g9 l9 XI hx hy h1 h2 hS2 hS2l
        simp only [wpTreeQ, stepT, sel, List.getElem?_cons_succ, List.getElem?_cons_zero]
        go_upto_region 6 with (fail)
        obtain ⟨W6, hW6⟩ : ∃ W6, W6 = (((W.setCell ⟨p9, 0, none⟩ (.int .i64 S2.kind)).setCell ⟨p9, 1, none⟩ (.string ⟨S2.name.toArray⟩)).setCell ⟨p9, 2, none⟩ (.slice a5 S2.args.length cap5)) := ⟨_, rfl⟩
        rw [← hW6]
        have X6 := hid (show Ext none' W5 W6 by rw [hW6]; exact HXI.out.set3 (b := p9) (.inr HL9.out) _ _ _)
        have G9 := hid (show W6.heap[p9]? = some (.cells #[.int .i64 S2.kind, .string ⟨S2.name.toArray⟩, .slice a5 S2.args.length cap5] 32 (0, 0)) by rw [hW6]; exact set3 HG9.out _ _ _)
        have HV6 := hid (show TyV none' W6 S2 (.agg #[.int .i64 S2.kind, .string ⟨S2.name.toArray⟩, .slice a5 S2.args.length cap5]) from ⟨_, rfl, (HX33.out.ext isTy_good (show Ext (AV false true 0 p9) W W6 by rw [hW6]; exact (Ext.refl _ W).set3 (b := p9) (.inl (.inr ⟨rfl, rfl⟩)) _ _ _) fun _ _ h => h).mono isTy_good fun _ _ h => h.elim⟩)
        have G0 := hid (X6.out.heap G0.out fun h => h)
        have GS := hid (X6.out.heap GS.out fun h => h)
        have HS6 := hid (HV4.out.ext X6.out fun _ _ h => h)
        have HT6 := hid (HV.out.ext (X5.out.trans X6.out) fun _ _ h => h)
        clear hW6 f0 f1 f2 e0 e1 e2 HXI HG9 HL9 HX33
        have c0 := cell_at G0.out 0
        have c1 := cell_at G0.out 1
        have c2 := cell_at G0.out 2
        simp only [List.getElem?_toArray, List.getElem?_cons_zero, List.getElem?_cons_succ] at c0 c1 c2
        rw [HB.out] at c0 c1 c2
        have d0 := cell_at GS.out 0
        have d1 := cell_at GS.out 1
        have d2 := cell_at GS.out 2
        simp only [List.getElem?_toArray, List.getElem?_cons_zero, List.getElem?_cons_succ] at d0 d1 d2
        have h0 := cell_at G9.out 0
        have h1 := cell_at G9.out 1
        have h2 := cell_at G9.out 2
        simp only [List.getElem?_toArray, List.getElem?_cons_zero, List.getElem?_cons_succ] at h0 h1 h2
        have CB := hid fun W8 (X : Ext none' W6 W8) => lbare_any t ht _ W8 (HT6.out.ext X fun _ _ h => h)
        have CH := hid fun W8 (X : Ext none' W6 W8) => lhas_any nm t ht _ W8 (HT6.out.ext X fun _ _ h => h)
        have htl : t.args.length ≤ bigD := by have := t.args_len; omega
        have hta : ∀ y ∈ t.args, y.size ≤ bigD := fun y hy => by have := Ty.size_arg hy; omega
        obtain ⟨q1, hq1⟩ : ∃ q, bareB t = q := ⟨_, rfl⟩
        obtain ⟨q2, hq2⟩ : ∃ q, hasB nm t = q := ⟨_, rfl⟩
        rw [hq1] at CB HSE
        rw [hq2] at CH HOT
        have XR := hid (Ext.refl none' W6)
        clear hq1 hq2
        go_wp2_with fail
        refine (CB.out _ XR.out).mono ?_
        rintro e W7 ⟨rfl, XB⟩
        have G0 := hid (XB.heap G0.out fun h => h)
        have GS := hid (XB.heap GS.out fun h => h)
        have G9 := hid (XB.heap G9.out fun h => h)
        clear c0 c1 c2 d0 d1 d2 h0 h1 h2
        have c0 := cell_at G0.out 0
        have c1 := cell_at G0.out 1
        have c2 := cell_at G0.out 2
        simp only [List.getElem?_toArray, List.getElem?_cons_zero, List.getElem?_cons_succ] at c0 c1 c2
        rw [HB.out] at c0 c1 c2
        have d0 := cell_at GS.out 0
        have d1 := cell_at GS.out 1
        have d2 := cell_at GS.out 2
        simp only [List.getElem?_toArray, List.getElem?_cons_zero, List.getElem?_cons_succ] at d0 d1 d2
        have h0 := cell_at G9.out 0
        have h1 := cell_at G9.out 1
        have h2 := cell_at G9.out 2
        simp only [List.getElem?_toArray, List.getElem?_cons_zero, List.getElem?_cons_succ] at h0 h1 h2
        have XB := hid (XR.out.trans XB)
        cases q1 with
        | false =>
          go_wp2_with fail
          refine (CH.out _ XB.out).mono ?_
          rintro e W7 ⟨rfl, XH⟩
          have G0 := hid (XH.heap G0.out fun h => h)
          have GS := hid (XH.heap GS.out fun h => h)
          have G9 := hid (XH.heap G9.out fun h => h)
          clear c0 c1 c2 d0 d1 d2 h0 h1 h2
          have c0 := cell_at G0.out 0
          have c1 := cell_at G0.out 1
          have c2 := cell_at G0.out 2
          simp only [List.getElem?_toArray, List.getElem?_cons_zero, List.getElem?_cons_succ] at c0 c1 c2
          rw [HB.out] at c0 c1 c2
          have d0 := cell_at GS.out 0
          have d1 := cell_at GS.out 1
          have d2 := cell_at GS.out 2
          simp only [List.getElem?_toArray, List.getElem?_cons_zero, List.getElem?_cons_succ] at d0 d1 d2
          have h0 := cell_at G9.out 0
          have h1 := cell_at G9.out 1
          have h2 := cell_at G9.out 2
          simp only [List.getElem?_toArray, List.getElem?_cons_zero, List.getElem?_cons_succ] at h0 h1 h2
          have XH := hid (XB.out.trans XH)
          cases q2 with
          | true =>
            go_wp2_with fail
            refine (awake_any _).mono ?_
            rintro e WZ ⟨rfl, XZ⟩
            have XZ := hid (XH.out.trans XZ)
            clear c0 c1 c2 d0 d1 d2 h0 h1 h2
            go_wp2_with fail
            go_ret
            exact ⟨rfl, X5.out.trans (X6.out.trans XZ.out)⟩
          | false =>
            have HO := hid (HOT.out rfl)
            have CT2 := hid fun W8 (X : Ext none' W6 W8) => told_any t.size ht S2 t (by rw [HO.out]; exact Nat.le_refl _) htl hta _ _ W8 (HV6.out.ext X fun _ _ h => h) (HT6.out.ext X fun _ _ h => h)
            have CT2 := hid fun W8 (X : Ext none' W6 W8) => (show Calls Tryz.prog _ _ W8 (BoolP true W8) from by have := CT2.out W8 X; rw [show sameP t.size S2 t = true from by rw [HO.out]; exact sameP_refl _ _ (Nat.le_refl _)] at this; exact this)
            go_wp2_with fail
            refine (CT2.out _ XH.out).mono ?_
            rintro e W7 ⟨rfl, XT2⟩
            have G0 := hid (XT2.heap G0.out fun h => h)
            have GS := hid (XT2.heap GS.out fun h => h)
            have G9 := hid (XT2.heap G9.out fun h => h)
            clear c0 c1 c2 d0 d1 d2 h0 h1 h2
            have c0 := cell_at G0.out 0
            have c1 := cell_at G0.out 1
            have c2 := cell_at G0.out 2
            simp only [List.getElem?_toArray, List.getElem?_cons_zero, List.getElem?_cons_succ] at c0 c1 c2
            rw [HB.out] at c0 c1 c2
            have d0 := cell_at GS.out 0
            have d1 := cell_at GS.out 1
            have d2 := cell_at GS.out 2
            simp only [List.getElem?_toArray, List.getElem?_cons_zero, List.getElem?_cons_succ] at d0 d1 d2
            have h0 := cell_at G9.out 0
            have h1 := cell_at G9.out 1
            have h2 := cell_at G9.out 2
            simp only [List.getElem?_toArray, List.getElem?_cons_zero, List.getElem?_cons_succ] at h0 h1 h2
            have XT2 := hid (XH.out.trans XT2)
            go_wp2_with fail
            refine (awake_any _).mono ?_
            rintro e WZ ⟨rfl, XZ⟩
            have XZ := hid (XT2.out.trans XZ)
            clear c0 c1 c2 d0 d1 d2 h0 h1 h2
            go_wp2_with fail
            go_ret
            exact ⟨rfl, X5.out.trans (X6.out.trans XZ.out)⟩
        | true =>
          have HE := hid (HSE.out rfl)
          have CT1 := hid fun W8 (X : Ext none' W6 W8) => told_any t.size ht S1 t (by rw [HE.out]; exact Nat.le_refl _) htl hta _ _ W8 (HS6.out.ext X fun _ _ h => h) (HT6.out.ext X fun _ _ h => h)
          have CT1 := hid fun W8 (X : Ext none' W6 W8) => (show Calls Tryz.prog _ _ W8 (BoolP true W8) from by have := CT1.out W8 X; rw [show sameP t.size S1 t = true from by rw [HE.out]; exact sameP_refl _ _ (Nat.le_refl _)] at this; exact this)
          go_wp2_with fail
          refine (CT1.out _ XB.out).mono ?_
          rintro e W7 ⟨rfl, XT1⟩
          have G0 := hid (XT1.heap G0.out fun h => h)
          have GS := hid (XT1.heap GS.out fun h => h)
          have G9 := hid (XT1.heap G9.out fun h => h)
          clear c0 c1 c2 d0 d1 d2 h0 h1 h2
          have c0 := cell_at G0.out 0
          have c1 := cell_at G0.out 1
          have c2 := cell_at G0.out 2
          simp only [List.getElem?_toArray, List.getElem?_cons_zero, List.getElem?_cons_succ] at c0 c1 c2
          rw [HB.out] at c0 c1 c2
          have d0 := cell_at GS.out 0
          have d1 := cell_at GS.out 1
          have d2 := cell_at GS.out 2
          simp only [List.getElem?_toArray, List.getElem?_cons_zero, List.getElem?_cons_succ] at d0 d1 d2
          have h0 := cell_at G9.out 0
          have h1 := cell_at G9.out 1
          have h2 := cell_at G9.out 2
          simp only [List.getElem?_toArray, List.getElem?_cons_zero, List.getElem?_cons_succ] at h0 h1 h2
          have XT1 := hid (XB.out.trans XT1)
          go_wp2_with fail
          refine (CH.out _ XT1.out).mono ?_
          rintro e W7 ⟨rfl, XH⟩
          have G0 := hid (XH.heap G0.out fun h => h)
          have GS := hid (XH.heap GS.out fun h => h)
          have G9 := hid (XH.heap G9.out fun h => h)
          clear c0 c1 c2 d0 d1 d2 h0 h1 h2
          have c0 := cell_at G0.out 0
          have c1 := cell_at G0.out 1
          have c2 := cell_at G0.out 2
          simp only [List.getElem?_toArray, List.getElem?_cons_zero, List.getElem?_cons_succ] at c0 c1 c2
          rw [HB.out] at c0 c1 c2
          have d0 := cell_at GS.out 0
          have d1 := cell_at GS.out 1
          have d2 := cell_at GS.out 2
          simp only [List.getElem?_toArray, List.getElem?_cons_zero, List.getElem?_cons_succ] at d0 d1 d2
          have h0 := cell_at G9.out 0
          have h1 := cell_at G9.out 1
          have h2 := cell_at G9.out 2
          simp only [List.getElem?_toArray, List.getElem?_cons_zero, List.getElem?_cons_succ] at h0 h1 h2
          have XH := hid (XT1.out.trans XH)
          cases q2 with
          | true =>
            go_wp2_with fail
            refine (awake_any _).mono ?_
            rintro e WZ ⟨rfl, XZ⟩
            have XZ := hid (XH.out.trans XZ)
            clear c0 c1 c2 d0 d1 d2 h0 h1 h2
            go_wp2_with fail
            go_ret
            exact ⟨rfl, X5.out.trans (X6.out.trans XZ.out)⟩
          | false =>
            have HO := hid (HOT.out rfl)
            have CT2 := hid fun W8 (X : Ext none' W6 W8) => told_any t.size ht S2 t (by rw [HO.out]; exact Nat.le_refl _) htl hta _ _ W8 (HV6.out.ext X fun _ _ h => h) (HT6.out.ext X fun _ _ h => h)
            have CT2 := hid fun W8 (X : Ext none' W6 W8) => (show Calls Tryz.prog _ _ W8 (BoolP true W8) from by have := CT2.out W8 X; rw [show sameP t.size S2 t = true from by rw [HO.out]; exact sameP_refl _ _ (Nat.le_refl _)] at this; exact this)
            go_wp2_with fail
            refine (CT2.out _ XH.out).mono ?_
            rintro e W7 ⟨rfl, XT2⟩
            have G0 := hid (XT2.heap G0.out fun h => h)
            have GS := hid (XT2.heap GS.out fun h => h)
            have G9 := hid (XT2.heap G9.out fun h => h)
            clear c0 c1 c2 d0 d1 d2 h0 h1 h2
            have c0 := cell_at G0.out 0
            have c1 := cell_at G0.out 1
            have c2 := cell_at G0.out 2
            simp only [List.getElem?_toArray, List.getElem?_cons_zero, List.getElem?_cons_succ] at c0 c1 c2
            rw [HB.out] at c0 c1 c2
            have d0 := cell_at GS.out 0
            have d1 := cell_at GS.out 1
            have d2 := cell_at GS.out 2
            simp only [List.getElem?_toArray, List.getElem?_cons_zero, List.getElem?_cons_succ] at d0 d1 d2
            have h0 := cell_at G9.out 0
            have h1 := cell_at G9.out 1
            have h2 := cell_at G9.out 2
            simp only [List.getElem?_toArray, List.getElem?_cons_zero, List.getElem?_cons_succ] at h0 h1 h2
            have XT2 := hid (XH.out.trans XT2)
            go_wp2_with fail
            refine (awake_any _).mono ?_
            rintro e WZ ⟨rfl, XZ⟩
            have XZ := hid (XT2.out.trans XZ)
            clear c0 c1 c2 d0 d1 d2 h0 h1 h2
            go_wp2_with fail
            go_ret
            exact ⟨rfl, X5.out.trans (X6.out.trans XZ.out)⟩
    · have z2 : (60 : Int) < (b.size : Int) := by omega
      go_enter Tryz.func4, Tryz.ntmps4
      go_wp2_with fail
      refine (C1.out _ (((Ext.refl _ _).alloc _).alloc _)).mono ?_
      rintro e W1 ⟨rfl, X1⟩
      have G1 := hid (X1.heap G1.out fun h => h)
      have X1 := hid ((((Ext.refl none' w).alloc _).alloc _).trans X1)
      have c0 := cell_at G1.out 0
      have c1 := cell_at G1.out 1
      have c2 := cell_at G1.out 2
      simp only [List.getElem?_toArray, List.getElem?_cons_zero, List.getElem?_cons_succ] at c0 c1 c2
      rw [HB.out] at c0 c1 c2
      go_wp2_with fail
      refine (C2.out _ X1.out).mono ?_
      rintro e W2 ⟨rfl, X2⟩
      have X2 := hid (X1.out.trans X2)
      clear c0 c1 c2
      go_wp2_with fail
      go_ret
      exact ⟨rfl, X2.out⟩
  · have z1 : (60 : Int) < (t.size : Int) := by omega
    go_enter Tryz.func4, Tryz.ntmps4
    go_wp2_with fail
    refine (C1.out _ (((Ext.refl _ _).alloc _).alloc _)).mono ?_
    rintro e W1 ⟨rfl, X1⟩
    have X1 := hid ((((Ext.refl none' w).alloc _).alloc _).trans X1)
    go_wp2_with fail
    go_ret
    exact ⟨rfl, X1.out⟩
end Go.Proofs.YtbhpmmofgdppdaaGreatDoor
