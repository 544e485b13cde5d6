import Derived.Test.YthoeengfgkfchaaSeBounds
import Derived.Test.YthoeengfgkfchaaSeMoreP
import Derived.Test.YthoeengfgkfchaaSeTyp
import Derived.Test.YthoeengfgkfchaaSeSize
namespace Go.Proofs.Ythoeengfgkfchaa
open Go.RowKit Go.Lib Go.BigFrame
set_option maxRecDepth 100000 in
set_option maxHeartbeats 3200000 in
theorem law_more_true (ds : List Df) (bs : List Bd) (s : Cn) (t : Ty) (hsz : ∀ d ∈ ds, d.ty.size ≤ bigD) (ht : t.size ≤ bigD) (dv : Value) (bv : Value) (a0 a1 a2 : Option Addr) (n2 c0 c1 c2 : Nat) (w : World) (hd : IsSl 6 IsDf none' w dv ds) (hb : IsSl 4 IsBd none' w bv bs)
    (hv : IsSl 3 IsTy none' w (.slice a1 t.args.length c1) t.args) (h : lightP ds = false ∨ 20 < bs.length ∨ 20 < s.terms.length ∨ 60 < t.size) :
    Calls Try.prog 3 #[dv, bv, .agg #[.bool s.all, .bool s.cmp, .slice a0 s.terms.length c0, .int .i64 t.kind, .string ⟨t.name.toArray⟩, .slice a1 t.args.length c1, .slice a2 n2 c2]] w (TruePost w) := by
  have HD := hid hd
  obtain ⟨a, cap, rfl, _⟩ := hd
  obtain ⟨a3, cap3, rfl, _⟩ := hb
  have HX := hid hv
  have CL := hid fun (W : World) (X : Ext none' w W) => light_any ds hsz (.slice a ds.length cap) W (HD.out.ext isDf_good X fun _ _ h => h.elim)
  have CS := hid fun (W : World) (X : Ext none' w W) => rsize_any t ht none' (.agg #[.int .i64 t.kind, .string ⟨t.name.toArray⟩, .slice a1 t.args.length c1]) W ⟨_, rfl, HX.out.ext isTy_good X fun _ _ h => h.elim⟩
  have g0 := heap_alloc_at (w := w) rfl (.cells #[.bool s.all, .bool s.cmp, .slice a0 s.terms.length c0, .int .i64 t.kind, .string ⟨t.name.toArray⟩, .slice a1 t.args.length c1, .slice a2 n2 c2] 32)
  have G0 := hid fun (W : World) (X : Ext none' (w.alloc (.cells #[.bool s.all, .bool s.cmp, .slice a0 s.terms.length c0, .int .i64 t.kind, .string ⟨t.name.toArray⟩, .slice a1 t.args.length c1, .slice a2 n2 c2] 32)) W) => X.heap g0 (fun h => h)
  obtain ⟨li, hli⟩ : ∃ li, lightP ds = li := ⟨_, rfl⟩
  obtain ⟨p, hp⟩ : ∃ p, t.size = p := ⟨_, rfl⟩
  obtain ⟨m, hm⟩ : ∃ m, s.terms.length = m := ⟨_, rfl⟩
  obtain ⟨n, hn⟩ : ∃ n, bs.length = n := ⟨_, rfl⟩
  rw [hm] at G0
  rw [hm, hn]
  rw [hli] at CL
  rw [hp] at CS
  rw [hli, hp, hm, hn] at h
  rw [hp] at ht
  unfold bigD at ht
  clear hli hp hsz g0 hm hn
  cases li with
  | false =>
    go_enter Try.func3, Try.ntmps3
    go_wp2_with fail
    refine (CL.out _ ((Ext.refl _ _).alloc _)).mono ?_
    rintro e W1 ⟨rfl, X1⟩
    have X1 := hid X1
    go_wp2_with fail
    go_ret
    exact ⟨rfl, ((Ext.refl _ _).alloc _).trans X1.out⟩
  | true =>
    by_cases h5 : 20 < n
    · have q1 : decide (20 < (n : Int)) = true := decide_eq_true (by omega)
      go_enter Try.func3, Try.ntmps3
      go_wp2_with fail
      refine (CL.out _ ((Ext.refl _ _).alloc _)).mono ?_
      rintro e W1 ⟨rfl, X1⟩
      have X1 := hid X1
      go_wp2_with fail
      go_ret
      exact ⟨rfl, ((Ext.refl _ _).alloc _).trans X1.out⟩
    · have q1 : decide (20 < (n : Int)) = false := decide_eq_false (by omega)
      by_cases h6 : 20 < m
      · have q2 : decide (20 < (m : Int)) = true := decide_eq_true (by omega)
        go_enter Try.func3, Try.ntmps3
        go_wp2_with fail
        refine (CL.out _ ((Ext.refl _ _).alloc _)).mono ?_
        rintro e W1 ⟨rfl, X1⟩
        have c2 := cell_at (G0.out _ X1) 2
        simp only [List.getElem?_toArray, List.getElem?_cons_zero, List.getElem?_cons_succ] at c2
        have X1 := hid X1
        go_wp2_with fail
        go_ret
        exact ⟨rfl, ((Ext.refl _ _).alloc _).trans X1.out⟩
      · have h7 : 60 < p := by simpa [h5, h6] using h
        have q2 : decide (20 < (m : Int)) = false := decide_eq_false (by omega)
        have q3 : decide (60 < (p : Int)) = true := decide_eq_true (by omega)
        go_enter Try.func3, Try.ntmps3
        go_wp2_with fail
        refine (CL.out _ ((Ext.refl _ _).alloc _)).mono ?_
        rintro e W1 ⟨rfl, X1⟩
        have g := G0.out _ X1
        have c2 := cell_at g 2
        have c3 := cell_at g 3
        have c4 := cell_at g 4
        have c5 := cell_at g 5
        simp only [List.getElem?_toArray, List.getElem?_cons_zero, List.getElem?_cons_succ] at c2 c3 c4 c5
        have X1 := hid (((Ext.refl none' w).alloc _).trans X1)
        clear g
        go_wp2_with fail
        refine (CS.out _ X1.out).mono ?_
        rintro e W2 ⟨rfl, X2⟩
        have X2 := hid (X1.out.trans X2)
        go_wp2_with fail
        go_ret
        exact ⟨rfl, X2.out⟩
end Go.Proofs.Ythoeengfgkfchaa
