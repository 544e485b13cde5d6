import Derived.Test.YthoeengfgkfchaaSeAls
namespace Go.Proofs.Ythoeengfgkfchaa
open Go.RowKit Go.Lib Go.BigFrame
set_option maxRecDepth 100000 in
set_option maxHeartbeats 3200000 in
theorem law_tilde_true (ds : List Df) (t : Ty) (name : List UInt8) (hsz : ∀ d ∈ ds, d.ty.size ≤ bigD) (ht : t.size ≤ bigD) (dv tv : Value) (w : World) (hd : IsSl 6 IsDf none' w dv ds) (hv : TyV none' w t tv)
    (h : lightP ds = false ∨ 60 < t.size ∨ 20 < name.length) : Calls Try.prog 4 #[dv, tv, .string ⟨name.toArray⟩] w (TruePost w) := by
  have HD := hid hd
  obtain ⟨a, cap, rfl, _⟩ := hd
  obtain ⟨x, rfl, hx⟩ := hv
  have HX := hid hx
  obtain ⟨a1, cap1, rfl, _⟩ := hx
  have CL := hid fun (W : World) (X : Ext none' w W) => light_any ds hsz (.slice a ds.length cap) W (HD.out.ext isDf_good X fun _ _ h => h.elim)
  have CS := hid fun (W : World) (X : Ext none' w W) => rsize_any t ht none' (.agg #[.int .i64 t.kind, .string ⟨t.name.toArray⟩, .slice a1 t.args.length cap1]) W ⟨_, rfl, HX.out.ext isTy_good X fun _ _ h => h.elim⟩
  have g0 := heap_alloc_at (w := w) rfl (.cells #[.int .i64 t.kind, .string ⟨t.name.toArray⟩, .slice a1 t.args.length cap1] 29)
  have G0 := hid fun (W : World) (X : Ext none' (w.alloc (.cells #[.int .i64 t.kind, .string ⟨t.name.toArray⟩, .slice a1 t.args.length cap1] 29)) W) => X.heap g0 (fun h => h)
  obtain ⟨li, hli⟩ : ∃ li, lightP ds = li := ⟨_, rfl⟩
  obtain ⟨p, hp⟩ : ∃ p, t.size = p := ⟨_, rfl⟩
  rw [hli] at CL
  rw [hp] at CS
  rw [hli, hp] at h
  rw [hp] at ht
  unfold bigD at ht
  clear hli hp hsz g0
  have hsz : (⟨name.toArray⟩ : ByteArray).size = name.length := bsize name
  cases li with
  | false =>
    go_enter Try.func4, Try.ntmps4
    go_wp2_with fail
    refine (CL.out _ ((Ext.refl _ _).alloc _)).mono ?_
    rintro e W1 ⟨rfl, X1⟩
    have X1 := hid X1
    go_wp2_with fail
    go_ret
    exact ⟨rfl, ((Ext.refl _ _).alloc _).trans X1.out⟩
  | true =>
    by_cases h6 : 60 < p
    · have q1 : decide (60 < (p : Int)) = true := decide_eq_true (by omega)
      go_enter Try.func4, Try.ntmps4
      go_wp2_with fail
      refine (CL.out _ ((Ext.refl _ _).alloc _)).mono ?_
      rintro e W1 ⟨rfl, X1⟩
      have g := G0.out _ X1
      have c0 := cell_at g 0
      have c1 := cell_at g 1
      have c2 := cell_at g 2
      simp only [List.getElem?_toArray, List.getElem?_cons_zero, List.getElem?_cons_succ] at c0 c1 c2
      have X1 := hid (((Ext.refl none' w).alloc _).trans X1)
      clear g
      go_wp2_with fail
      refine (CS.out _ X1.out).mono ?_
      rintro e W2 ⟨rfl, X2⟩
      have X2 := hid (X1.out.trans X2)
      go_wp2_with fail
      go_ret
      exact ⟨rfl, X2.out⟩
    · have h7 : 20 < name.length := by simpa [h6] using h
      have q1 : decide (60 < (p : Int)) = false := decide_eq_false (by omega)
      have q2 : decide (20 < (name.length : Int)) = true := decide_eq_true (by omega)
      go_enter Try.func4, Try.ntmps4
      go_wp2_with fail
      refine (CL.out _ ((Ext.refl _ _).alloc _)).mono ?_
      rintro e W1 ⟨rfl, X1⟩
      have g := G0.out _ X1
      have c0 := cell_at g 0
      have c1 := cell_at g 1
      have c2 := cell_at g 2
      simp only [List.getElem?_toArray, List.getElem?_cons_zero, List.getElem?_cons_succ] at c0 c1 c2
      have X1 := hid (((Ext.refl none' w).alloc _).trans X1)
      clear g
      go_wp2_with fail
      refine (CS.out _ X1.out).mono ?_
      rintro e W2 ⟨rfl, X2⟩
      have X2 := hid (X1.out.trans X2)
      go_wp2_with fail
      go_ret
      exact ⟨rfl, X2.out⟩
end Go.Proofs.Ythoeengfgkfchaa
