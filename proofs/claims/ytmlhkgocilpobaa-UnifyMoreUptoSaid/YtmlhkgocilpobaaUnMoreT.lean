import Derived.Test.YtmlhkgocilpobaaUnFew
/-
  UnifyMore: where what comes in is not few or small, the law returns true at once.
-/
namespace Go.Proofs.Ytmlhkgocilpobaa
open Go.RowKit Go.Lib Go.BigFrame
set_option maxRecDepth 100000 in
set_option maxHeartbeats 6400000 in
theorem law_um_true (ds : List Df) (row : List (List UInt8)) (ps ts : List Ty) (hsz : ∀ d ∈ ds, d.ty.size ≤ bigD) (hpz : ∀ t ∈ ps, t.size ≤ bigD) (htz : ∀ t ∈ ts, t.size ≤ bigD) (dv rv pv tv : Value) (a9 : Option Addr) (n9 c9 : Nat) (w : World)
    (hd : IsSl 6 IsDf none' w dv ds) (hr : IsStrs none' w rv row) (hp : IsSl 3 IsTy none' w pv ps) (ht : IsSl 3 IsTy none' w tv ts) (h : lightP ds = false ∨ 10 < row.length ∨ fewP ps = false ∨ fewP ts = false) :
    Calls Try.prog 3 #[dv, .agg #[rv, pv, tv, .slice a9 n9 c9]] w (TruePost w) := by
  have HD := hid hd
  have HP := hid hp
  have HT := hid ht
  obtain ⟨ad, capd, rfl, _⟩ := hd
  obtain ⟨ar, capr, rfl, _⟩ := hr
  obtain ⟨a1, cap1, rfl, _⟩ := hp
  obtain ⟨a2, cap2, rfl, _⟩ := ht
  have CL := hid fun (W : World) (X : Ext none' w W) => light_any ds hsz (.slice ad ds.length capd) W (HD.out.ext isDf_good X fun _ _ h => h.elim)
  have CP := hid fun (W : World) (X : Ext none' w W) => few_any ps hpz (.slice a1 ps.length cap1) W (HP.out.ext isTy_good X fun _ _ h => h.elim)
  have CQ := hid fun (W : World) (X : Ext none' w W) => few_any ts htz (.slice a2 ts.length cap2) W (HT.out.ext isTy_good X fun _ _ h => h.elim)
  have g0 := heap_alloc_at (w := w) rfl (.cells #[.slice ar row.length capr, .slice a1 ps.length cap1, .slice a2 ts.length cap2, .slice a9 n9 c9] 26)
  have G0 := hid fun (W : World) (X : Ext none' (w.alloc (.cells #[.slice ar row.length capr, .slice a1 ps.length cap1, .slice a2 ts.length cap2, .slice a9 n9 c9] 26)) W) => X.heap g0 (fun h => h)
  obtain ⟨b0, h0⟩ : ∃ b, lightP ds = b := ⟨_, rfl⟩
  obtain ⟨b1, h1⟩ : ∃ b, fewP ps = b := ⟨_, rfl⟩
  obtain ⟨b2, h2⟩ : ∃ b, fewP ts = b := ⟨_, rfl⟩
  obtain ⟨r, h3⟩ : ∃ r, row.length = r := ⟨_, rfl⟩
  rw [h0] at CL h
  rw [h1] at CP h
  rw [h2] at CQ h
  rw [h3] at G0 h ⊢
  clear h0 h1 h2 h3 g0 hsz hpz htz
  have step : ∀ {b : Bool}, b = false ∨ b = true := fun {b} => by cases b; exact .inl rfl; exact .inr rfl
  rcases step (b := b0) with rfl | rfl
  · go_enter Try.func3, Try.ntmps3
    go_wp2_with fail
    refine (CL.out _ ((Ext.refl _ _).alloc _)).mono ?_
    rintro e W1 ⟨rfl, X1⟩
    have X1 := hid (((Ext.refl none' w).alloc _).trans X1)
    go_wp2_with fail
    go_ret
    exact ⟨rfl, X1.out⟩
  · by_cases hr : 10 < r
    · have q1 : decide (10 < (r : Int)) = true := decide_eq_true (by omega)
      go_enter Try.func3, Try.ntmps3
      go_wp2_with fail
      refine (CL.out _ ((Ext.refl _ _).alloc _)).mono ?_
      rintro e W1 ⟨rfl, X1⟩
      have c0 := cell_at (G0.out _ X1) 0
      simp only [List.getElem?_toArray, List.getElem?_cons_zero] at c0
      have X1 := hid (((Ext.refl none' w).alloc _).trans X1)
      go_wp2_with fail
      go_ret
      exact ⟨rfl, X1.out⟩
    · have q1 : decide (10 < (r : Int)) = false := decide_eq_false (by omega)
      rcases step (b := b1) with rfl | rfl
      · go_enter Try.func3, Try.ntmps3
        go_wp2_with fail
        refine (CL.out _ ((Ext.refl _ _).alloc _)).mono ?_
        rintro e W1 ⟨rfl, X1⟩
        have c0 := cell_at (G0.out _ X1) 0
        have c1 := cell_at (G0.out _ X1) 1
        simp only [List.getElem?_toArray, List.getElem?_cons_zero, List.getElem?_cons_succ] at c0 c1
        have X1 := hid (((Ext.refl none' w).alloc _).trans X1)
        go_wp2_with fail
        refine (CP.out _ X1.out).mono ?_
        rintro e W2 ⟨rfl, X2⟩
        have X2 := hid (X1.out.trans X2)
        clear c0 c1
        go_wp2_with fail
        go_ret
        exact ⟨rfl, X2.out⟩
      · rcases step (b := b2) with rfl | rfl
        · go_enter Try.func3, Try.ntmps3
          go_wp2_with fail
          refine (CL.out _ ((Ext.refl _ _).alloc _)).mono ?_
          rintro e W1 ⟨rfl, X1⟩
          have g := hid (G0.out _ X1)
          have c0 := cell_at (G0.out _ X1) 0
          have c1 := cell_at (G0.out _ X1) 1
          simp only [List.getElem?_toArray, List.getElem?_cons_zero, List.getElem?_cons_succ] at c0 c1
          have X1 := hid (((Ext.refl none' w).alloc _).trans X1)
          go_wp2_with fail
          refine (CP.out _ X1.out).mono ?_
          rintro e W2 ⟨rfl, X2⟩
          have c2 := cell_at (X2.heap g.out (fun h => h)) 2
          simp only [List.getElem?_toArray, List.getElem?_cons_zero, List.getElem?_cons_succ] at c2
          have X2 := hid (X1.out.trans X2)
          clear c0 c1
          go_wp2_with fail
          refine (CQ.out _ X2.out).mono ?_
          rintro e W3 ⟨rfl, X3⟩
          have X3 := hid (X2.out.trans X3)
          clear c2
          go_wp2_with fail
          go_ret
          exact ⟨rfl, X3.out⟩
        · exfalso
          rcases h with h | h | h | h
          · cases h
          · exact hr h
          · cases h
          · cases h
end Go.Proofs.Ytmlhkgocilpobaa
