import Derived.Test.YthbmjamgidfneaaGreatDoorYAa
import Derived.Test.YthbmjamgidfneaaGreatDoorYAd
import Derived.Test.YthbmjamgidfneaaGreatDoorYAg
import Derived.Test.YthbmjamgidfneaaGreatDoorYAh
set_option maxRecDepth 100000
set_option maxHeartbeats 6400000
namespace Go.Proofs.YthbmjamgidfneaaGreatDoor
open Go.RowKit Go.Lib Go.BigFrame
set_option linter.unusedVariables false
set_option linter.unusedSimpArgs false
theorem namB_chain {so : List UInt8 → Bool} {ty : Nd → Bool} {k : Int} {t : Nd} : namB so k [ty] t = (t.kind == k && (so t.text && (t.kids.length == 1 && ty (t.kid 0)))) := by
 by_cases h : t.kids.length = 1
 · rw [namB_one h, Bool.and_assoc, show (t.kids.length == 1) = true by simpa using h]; simp
 · rw [namB_len h, show (t.kids.length == 1) = false by simpa using h]; simp
theorem interB_chain {ty : Nd → Bool} {t : Nd} : interB ty t = (t.kind == 14 && (t.text == [] && (!(t.kids.length == 0) && t.kids.all (namB tldB 15 [ty])))) := by
 unfold interB
 cases t.kids <;> rfl
theorem rinter_any (f : Nat) (hf : f + 1 ≤ bigD) (ty : Nd → Bool) (H : RTyH f ty) (t : Nd) (ht : t.size ≤ f + 1) (v : Value) (w : World) (hv : NdV none' w t v) :
 Calls Tryz.prog 76 #[v] w (BoolP (interB ty t) w) := by
 obtain ⟨a1, cap1, rfl, hcap, HV, HY⟩ := nd_open hv
 have hkl : t.kids.length ≤ 4000000000 := by have := t.kids_len; unfold bigD at hf; omega
 obtain ⟨r, hr⟩ : ∃ r, r = interB ty t := ⟨_, rfl⟩
 rw [← hr]
 have HH := hid H
 replace hr := hr.trans (interB_chain)
 obtain ⟨tk, htk⟩ : ∃ k, t.kind = k := ⟨_, rfl⟩
 obtain ⟨tx, htx⟩ : ∃ k, t.text = k := ⟨_, rfl⟩
 rw [htk, htx] at HV
 rw [htk, htx]
 try rw [htk] at hr
 try rw [htx] at hr
 have HR := hid hr
 have HTK := hid htk
 have HTX := hid htx
 have HT := hid ht
 have HF := hid hf
 obtain ⟨B, W0, hB, hW0, X0, G0⟩ := boxed w (.cells #[.int .i64 tk, .string ⟨tx.toArray⟩, .slice a1 t.kids.length cap1, .int .i64 t.pos] 24)
 have XX := hid (Ext.refl none' W0)
 clear hr htk htx ht hf H
 go_enter Tryz.func76, Tryz.ntmps76
 go_upto_region 1 with (fail)
 rw [← hW0, ← hB]
 clear hW0 hB
 obtain ⟨c0, c1, c2, c3⟩ := cellx XX.out G0.out
 by_cases hk : tk = 14
 case neg =>
  have q1k : (tk == 14) = false := by simpa using hk
  have q2k : (tk != 14) = true := by simpa using hk
  have E : Hid (r = false) := hid (by rw [HR.out, q1k]; rfl)
  clear hk
  go_wp2_with fail
  go_ret
  exact ⟨by rw [E.out]; rfl, X0.out.trans XX.out⟩
 have q1k : (tk == 14) = true := by simpa using hk
 have q2k : (tk != 14) = false := by simp [hk]
 by_cases hx : tx = []
 case neg =>
  have q1x : (tx == []) = false := by simpa using hx
  have q2x : (tx != []) = true := by simpa using hx
  have q3x : tx.isEmpty = false := by simpa using hx
  have E : Hid (r = false) := hid (by rw [HR.out, q1k, q1x]; rfl)
  clear hk hx
  go_wp2_with fail
  go_ret
  exact ⟨by rw [E.out]; rfl, X0.out.trans XX.out⟩
 have q1x : (tx == []) = true := by simpa using hx
 have q2x : (tx != []) = false := by simp [hx]
 have q3x : tx.isEmpty = true := by simpa using hx
 by_cases hl : t.kids.length = 0
 case pos =>
  have q1l : ((t.kids.length : Int) == 0) = true := by rw [beq_iff_eq]; omega
  have q2l : ((t.kids.length : Int) != 0) = false := by rw [bne_eq_false_iff_eq]; omega
  have q3l : (t.kids.length == 0) = true := by rw [beq_iff_eq]; omega
  have E : Hid (r = false) := hid (by rw [HR.out, q1k, q1x, q3l]; rfl)
  clear hk hx hl
  go_wp2_with fail
  go_ret
  exact ⟨by rw [E.out]; rfl, X0.out.trans XX.out⟩
 have q1l : ((t.kids.length : Int) == 0) = false := by rw [beq_eq_false_iff_ne]; omega
 have q2l : ((t.kids.length : Int) != 0) = true := by rw [bne_iff_ne]; omega
 have q3l : (t.kids.length == 0) = false := by rw [beq_eq_false_iff_ne]; omega
 have HR := hid (show r = t.kids.all (namB tldB 15 [ty]) by rw [HR.out, q1k, q1x, q3l]; rfl)
 clear hk hx
 clear hl
 go_wp2_with fail
 clear c0 c1 c2 c3 q1k q2k q1x q2x q3x
 go_loopw [3, 4] (fun z _ wr => ∃ (i : Nat), z = .int .i64 (i : Nat) ∧ i ≤ t.kids.length ∧ Hid (Ext none' W0 wr ∧ ∀ j (h : j < t.kids.length), j < i → namB tldB 15 [ty] t.kids[j] = true)) (fun z _ _ => t.kids.length - (RowKit.intOf z).toNat)
 case atStart => exact ⟨0, rfl, by omega, hid ⟨XX.out, fun j _ h => by omega⟩⟩
 case round =>
  obtain ⟨i, rfl, hle, RR⟩ := hrel
  have c2 := cell_at (RR.out.1.heap G0.out fun h => h) 2
  simp only [List.getElem?_toArray, List.getElem?_cons_zero, List.getElem?_cons_succ] at c2
  by_cases hi : i < t.kids.length
  · obtain ⟨b5, off5, cs5, rfl, _, hw5, hcc5, ht5⟩ := (HY.out.ext isNd_good (X0.out.trans RR.out.1) fun _ _ h => h).at i hi
    obtain ⟨x5, rfl, hx5⟩ := ht5.parts
    have d0 := hcc5 0 _ rfl
    have d1 := hcc5 1 _ rfl
    have d2 := hcc5 2 _ rfl
    have d3 := hcc5 3 _ rfl
    simp only [Nat.add_zero] at d0
    have hmem := List.getElem_mem hi
    have hps : t.kids[i].size ≤ f := by have := Nd.size_kid hmem; have := HT.out; omega
    have HM := hid (show ∀ (q : Bool), namB tldB 15 [ty] t.kids[i] = q → q = false → r = false by
     intro q h1 h2
     rw [HR.out, List.all_eq_false]
     exact ⟨_, hmem, by rw [h1, h2]; simp⟩)
    have HQ := hid (show namB tldB 15 [ty] t.kids[i] = true → ∀ j (h : j < t.kids.length), j < i + 1 → namB tldB 15 [ty] t.kids[j] = true by
     intro hq j h hj
     by_cases e : j = i
     · subst e; exact hq
     · exact RR.out.2 j h (by omega))
    have HX5 := hid hx5
    obtain ⟨p, hp⟩ : ∃ p, t.kids[i] = p := ⟨_, rfl⟩
    rw [hp] at d0 d1 d3 HM HQ hps HX5 hx5
    obtain ⟨a6, cap6, rfl, hc6, hcx⟩ := hx5
    clear hcx
    obtain ⟨pk, hpk⟩ : ∃ k, p.kind = k := ⟨_, rfl⟩
    obtain ⟨px, hpx⟩ : ∃ k, p.text = k := ⟨_, rfl⟩
    rw [hpk] at d0
    rw [hpx] at d1
    have HCH := hid (show namB tldB 15 [ty] p = _ from namB_chain)
    rw [hpk, hpx] at HCH
    obtain ⟨W1, hW1⟩ : ∃ W1, W1 = wr.alloc (.cells #[.int .i64 pk, .string ⟨px.toArray⟩, .slice a6 p.kids.length cap6, .int .i64 p.pos] 24) := ⟨_, rfl⟩
    have X1 := hid (show Ext none' wr W1 by rw [hW1]; exact (Ext.refl _ _).alloc _)
    have GB := hid (show W1.heap[wr.heap.size]? = some (.cells #[.int .i64 pk, .string ⟨px.toArray⟩, .slice a6 p.kids.length cap6, .int .i64 p.pos] 24 (0, 0)) by rw [hW1]; exact heap_alloc_at rfl _)
    clear hcc5 ht5 hmem hp
    go_upto_region 7 with (fail)
    rw [← hW1]
    clear hW1 d0 d1 d2 d3 c2
    obtain ⟨BB, hBB⟩ : ∃ BB, BB = wr.heap.size := ⟨_, rfl⟩
    rw [← hBB] at GB ⊢
    clear hBB
    have XR := hid (RR.out.1.trans X1.out)
    have XP := hid (Ext.refl none' W1)
    have HX5 := hid (HX5.out.ext isNd_good X1.out fun _ _ h => h)
    have HPS := hid hps
    clear hps
    obtain ⟨e0, e1, e2, e3⟩ := cellx XP.out GB.out
    by_cases hk : pk = 15
    case neg =>
     have q1k : (pk == 15) = false := by simpa using hk
     have q2k : (pk != 15) = true := by simpa using hk
     have E : Hid (r = false) := hid (HM.out _ HCH.out (by rw [q1k]; rfl))
     clear hk
     go_wp2_with fail
     go_ret
     exact ⟨by rw [E.out]; rfl, X0.out.trans XR.out⟩
    have q1k : (pk == 15) = true := by simpa using hk
    have q2k : (pk != 15) = false := by simp [hk]
    clear hk
    obtain ⟨qx, hqx⟩ : ∃ q, tldB px = q := ⟨_, rfl⟩
    have hqx2 := hqx
    rw [hqx] at HCH
    unfold tldB at hqx2
    obtain ⟨t1, ht1⟩ : ∃ q, (px == []) = q := ⟨_, rfl⟩
    obtain ⟨t2, ht2⟩ : ∃ q, (px == [126]) = q := ⟨_, rfl⟩
    have ht3 : px.isEmpty = t1 := by rw [← ht1]; cases px <;> rfl
    rw [ht1, ht2] at hqx2
    have HQX := hid hqx2
    clear hqx hqx2
    cases qx
    case false =>
     obtain ⟨rfl, rfl⟩ : t1 = false ∧ t2 = false := by have := HQX.out; revert this; cases t1 <;> cases t2 <;> simp
     have E : Hid (r = false) := hid (HM.out _ HCH.out (by rw [q1k]; rfl))
     go_wp2_with fail
     go_ret
     exact ⟨by rw [E.out]; rfl, X0.out.trans XR.out⟩
    cases t1
    case false =>
     cases t2
     case false => have := HQX.out; simp at this
     by_cases hl : p.kids.length = 1
     case neg =>
      have q1l : ((p.kids.length : Int) == 1) = false := by rw [beq_eq_false_iff_ne]; omega
      have q2l : ((p.kids.length : Int) != 1) = true := by rw [bne_iff_ne]; omega
      have q3l : (p.kids.length == 1) = false := by rw [beq_eq_false_iff_ne]; omega
      have E : Hid (r = false) := hid (HM.out _ HCH.out (by rw [q1k, q3l]; rfl))
      clear hl
      go_wp2_with fail
      go_ret
      exact ⟨by rw [E.out]; rfl, X0.out.trans XR.out⟩
     have q1l : ((p.kids.length : Int) == 1) = true := by rw [beq_iff_eq]; omega
     have q2l : ((p.kids.length : Int) != 1) = false := by rw [bne_eq_false_iff_eq]; omega
     have q3l : (p.kids.length == 1) = true := by rw [beq_iff_eq]; omega
     have hl0 : 0 < p.kids.length := by omega
     have y0 : (0 : Int) < (p.kids.length : Int) := by omega
     clear hl
     obtain ⟨b7, off7, z7, ez7, hbw7, k0, k1, k2, k3, hz7⟩ := kid_val (HX5.out.ext isNd_good XP.out fun _ _ h => h) 0 hl0
     subst ez7
     simp only [Nat.zero_mul, Nat.add_zero] at k0 k1 k2 k3
     have HZ7 := hid hz7
     obtain ⟨a8, cap8, rfl, _⟩ := hz7
     have hks7 : (p.kid 0).size ≤ f := by have := Nd.size_kid (kid_mem (t := p) (i := 0) hl0); have := HPS.out; omega
     have CQ := hid fun W v' (hv' : NdV none' W (p.kid 0) v') => HH.out (p.kid 0) hks7 v' W hv'
     obtain ⟨qt, hqt⟩ : ∃ q, ty (p.kid 0) = q := ⟨_, rfl⟩
     rw [hqt] at CQ HCH
     clear hqt hks7
     go_wp2_with fail
     refine (CQ.out _ _ ⟨_, rfl, HZ7.out⟩).mono ?_
     rintro e W3 ⟨rfl, X3⟩
     have XR := hid (XR.out.trans X3)
     clear X3 e0 e1 e2 e3 k0 k1 k2 k3
     cases qt
     case false =>
      have E : Hid (r = false) := hid (HM.out _ HCH.out (by rw [q1k, q3l]; rfl))
      go_wp2_with fail
      go_ret
      exact ⟨by rw [E.out]; rfl, X0.out.trans XR.out⟩
     have N := hid (HQ.out (by rw [HCH.out, q1k, q3l]; rfl))
     have N : Hid (Ext none' W0 _ ∧ ∀ j (h : j < t.kids.length), j < i + 1 → namB tldB 15 [ty] t.kids[j] = true) := hid ⟨XR.out, N.out⟩
     go_wp2_with fail
     go_roundw
     case rel => exact ⟨i + 1, by go_num, by omega, N⟩
     case measure => simp [RowKit.intOf]; omega
    case true =>
     by_cases hl : p.kids.length = 1
     case neg =>
      have q1l : ((p.kids.length : Int) == 1) = false := by rw [beq_eq_false_iff_ne]; omega
      have q2l : ((p.kids.length : Int) != 1) = true := by rw [bne_iff_ne]; omega
      have q3l : (p.kids.length == 1) = false := by rw [beq_eq_false_iff_ne]; omega
      have E : Hid (r = false) := hid (HM.out _ HCH.out (by rw [q1k, q3l]; rfl))
      clear hl
      go_wp2_with fail
      go_ret
      exact ⟨by rw [E.out]; rfl, X0.out.trans XR.out⟩
     have q1l : ((p.kids.length : Int) == 1) = true := by rw [beq_iff_eq]; omega
     have q2l : ((p.kids.length : Int) != 1) = false := by rw [bne_eq_false_iff_eq]; omega
     have q3l : (p.kids.length == 1) = true := by rw [beq_iff_eq]; omega
     have hl0 : 0 < p.kids.length := by omega
     have y0 : (0 : Int) < (p.kids.length : Int) := by omega
     clear hl
     obtain ⟨b7, off7, z7, ez7, hbw7, k0, k1, k2, k3, hz7⟩ := kid_val (HX5.out.ext isNd_good XP.out fun _ _ h => h) 0 hl0
     subst ez7
     simp only [Nat.zero_mul, Nat.add_zero] at k0 k1 k2 k3
     have HZ7 := hid hz7
     obtain ⟨a8, cap8, rfl, _⟩ := hz7
     have hks7 : (p.kid 0).size ≤ f := by have := Nd.size_kid (kid_mem (t := p) (i := 0) hl0); have := HPS.out; omega
     have CQ := hid fun W v' (hv' : NdV none' W (p.kid 0) v') => HH.out (p.kid 0) hks7 v' W hv'
     obtain ⟨qt, hqt⟩ : ∃ q, ty (p.kid 0) = q := ⟨_, rfl⟩
     rw [hqt] at CQ HCH
     clear hqt hks7
     go_wp2_with fail
     refine (CQ.out _ _ ⟨_, rfl, HZ7.out⟩).mono ?_
     rintro e W3 ⟨rfl, X3⟩
     have XR := hid (XR.out.trans X3)
     clear X3 e0 e1 e2 e3 k0 k1 k2 k3
     cases qt
     case false =>
      have E : Hid (r = false) := hid (HM.out _ HCH.out (by rw [q1k, q3l]; rfl))
      go_wp2_with fail
      go_ret
      exact ⟨by rw [E.out]; rfl, X0.out.trans XR.out⟩
     have N := hid (HQ.out (by rw [HCH.out, q1k, q3l]; rfl))
     have N : Hid (Ext none' W0 _ ∧ ∀ j (h : j < t.kids.length), j < i + 1 → namB tldB 15 [ty] t.kids[j] = true) := hid ⟨XR.out, N.out⟩
     go_wp2_with fail
     go_roundw
     case rel => exact ⟨i + 1, by go_num, by omega, N⟩
     case measure => simp [RowKit.intOf]; omega
  · have E : Hid (r = true) := hid (by
     rw [HR.out, List.all_eq_true]
     intro y hy
     obtain ⟨j, hj, rfl⟩ := List.mem_iff_getElem.1 hy
     exact RR.out.2 j hj (by omega))
    obtain rfl : i = t.kids.length := by omega
    go_wp2_with fail
    go_ret
    exact ⟨by rw [E.out]; rfl, X0.out.trans RR.out.1⟩
theorem rfields_any (f : Nat) (hf : f + 1 ≤ bigD) (ty : Nd → Bool) (H : RTyH f ty) (t : Nd) (ht : t.size ≤ f + 1) (v : Value) (w : World) (hv : NdV none' w t v) :
 Calls Tryz.prog 75 #[v] w (BoolP (structB ty t) w) := by
 obtain ⟨a1, cap1, rfl, hcap, HV, HY⟩ := nd_open hv
 have hkl : t.kids.length ≤ 4000000000 := by have := t.kids_len; unfold bigD at hf; omega
 obtain ⟨r, hr⟩ : ∃ r, r = structB ty t := ⟨_, rfl⟩
 rw [← hr]
 have HH := hid H
 unfold structB at hr
 replace hr := hr.trans (rfl)
 obtain ⟨tk, htk⟩ : ∃ k, t.kind = k := ⟨_, rfl⟩
 obtain ⟨tx, htx⟩ : ∃ k, t.text = k := ⟨_, rfl⟩
 rw [htk, htx] at HV
 rw [htk, htx]
 try rw [htk] at hr
 try rw [htx] at hr
 have HR := hid hr
 have HTK := hid htk
 have HTX := hid htx
 have HT := hid ht
 have HF := hid hf
 obtain ⟨B, W0, hB, hW0, X0, G0⟩ := boxed w (.cells #[.int .i64 tk, .string ⟨tx.toArray⟩, .slice a1 t.kids.length cap1, .int .i64 t.pos] 24)
 have XX := hid (Ext.refl none' W0)
 clear hr htk htx ht hf H
 go_enter Tryz.func75, Tryz.ntmps75
 go_upto_region 1 with (fail)
 rw [← hW0, ← hB]
 clear hW0 hB
 obtain ⟨c0, c1, c2, c3⟩ := cellx XX.out G0.out
 by_cases hk : tk = 13
 case neg =>
  have q1k : (tk == 13) = false := by simpa using hk
  have q2k : (tk != 13) = true := by simpa using hk
  have E : Hid (r = false) := hid (by rw [HR.out, q1k]; rfl)
  clear hk
  go_wp2_with fail
  go_ret
  exact ⟨by rw [E.out]; rfl, X0.out.trans XX.out⟩
 have q1k : (tk == 13) = true := by simpa using hk
 have q2k : (tk != 13) = false := by simp [hk]
 by_cases hx : tx = []
 case neg =>
  have q1x : (tx == []) = false := by simpa using hx
  have q2x : (tx != []) = true := by simpa using hx
  have q3x : tx.isEmpty = false := by simpa using hx
  have E : Hid (r = false) := hid (by rw [HR.out, q1k, q1x]; rfl)
  clear hk hx
  go_wp2_with fail
  go_ret
  exact ⟨by rw [E.out]; rfl, X0.out.trans XX.out⟩
 have q1x : (tx == []) = true := by simpa using hx
 have q2x : (tx != []) = false := by simp [hx]
 have q3x : tx.isEmpty = true := by simpa using hx
 have HR := hid (show r = t.kids.all (namB nmB 9 [ty]) by rw [HR.out, q1k, q1x]; rfl)
 clear hk hx
 go_wp2_with fail
 clear c0 c1 c2 c3 q1k q2k q1x q2x q3x
 go_loopw [3, 4] (fun z _ wr => ∃ (i : Nat), z = .int .i64 (i : Nat) ∧ i ≤ t.kids.length ∧ Hid (Ext none' W0 wr ∧ ∀ j (h : j < t.kids.length), j < i → namB nmB 9 [ty] t.kids[j] = true)) (fun z _ _ => t.kids.length - (RowKit.intOf z).toNat)
 case atStart => exact ⟨0, rfl, by omega, hid ⟨XX.out, fun j _ h => by omega⟩⟩
 case round =>
  obtain ⟨i, rfl, hle, RR⟩ := hrel
  have c2 := cell_at (RR.out.1.heap G0.out fun h => h) 2
  simp only [List.getElem?_toArray, List.getElem?_cons_zero, List.getElem?_cons_succ] at c2
  by_cases hi : i < t.kids.length
  · obtain ⟨b5, off5, cs5, rfl, _, hw5, hcc5, ht5⟩ := (HY.out.ext isNd_good (X0.out.trans RR.out.1) fun _ _ h => h).at i hi
    obtain ⟨x5, rfl, hx5⟩ := ht5.parts
    have d0 := hcc5 0 _ rfl
    have d1 := hcc5 1 _ rfl
    have d2 := hcc5 2 _ rfl
    have d3 := hcc5 3 _ rfl
    simp only [Nat.add_zero] at d0
    have hmem := List.getElem_mem hi
    have hps : t.kids[i].size ≤ f := by have := Nd.size_kid hmem; have := HT.out; omega
    have HM := hid (show ∀ (q : Bool), namB nmB 9 [ty] t.kids[i] = q → q = false → r = false by
     intro q h1 h2
     rw [HR.out, List.all_eq_false]
     exact ⟨_, hmem, by rw [h1, h2]; simp⟩)
    have HQ := hid (show namB nmB 9 [ty] t.kids[i] = true → ∀ j (h : j < t.kids.length), j < i + 1 → namB nmB 9 [ty] t.kids[j] = true by
     intro hq j h hj
     by_cases e : j = i
     · subst e; exact hq
     · exact RR.out.2 j h (by omega))
    have HX5 := hid hx5
    obtain ⟨p, hp⟩ : ∃ p, t.kids[i] = p := ⟨_, rfl⟩
    rw [hp] at d0 d1 d3 HM HQ hps HX5 hx5
    obtain ⟨a6, cap6, rfl, hc6, hcx⟩ := hx5
    clear hcx
    obtain ⟨pk, hpk⟩ : ∃ k, p.kind = k := ⟨_, rfl⟩
    obtain ⟨px, hpx⟩ : ∃ k, p.text = k := ⟨_, rfl⟩
    rw [hpk] at d0
    rw [hpx] at d1
    have HCH := hid (show namB nmB 9 [ty] p = _ from namB_chain)
    rw [hpk, hpx] at HCH
    obtain ⟨W1, hW1⟩ : ∃ W1, W1 = wr.alloc (.cells #[.int .i64 pk, .string ⟨px.toArray⟩, .slice a6 p.kids.length cap6, .int .i64 p.pos] 24) := ⟨_, rfl⟩
    have X1 := hid (show Ext none' wr W1 by rw [hW1]; exact (Ext.refl _ _).alloc _)
    have GB := hid (show W1.heap[wr.heap.size]? = some (.cells #[.int .i64 pk, .string ⟨px.toArray⟩, .slice a6 p.kids.length cap6, .int .i64 p.pos] 24 (0, 0)) by rw [hW1]; exact heap_alloc_at rfl _)
    clear hcc5 ht5 hmem hp
    go_upto_region 7 with (fail)
    rw [← hW1]
    clear hW1 d0 d1 d2 d3 c2
    obtain ⟨BB, hBB⟩ : ∃ BB, BB = wr.heap.size := ⟨_, rfl⟩
    rw [← hBB] at GB ⊢
    clear hBB
    have XR := hid (RR.out.1.trans X1.out)
    have XP := hid (Ext.refl none' W1)
    have HX5 := hid (HX5.out.ext isNd_good X1.out fun _ _ h => h)
    have HPS := hid hps
    clear hps
    obtain ⟨e0, e1, e2, e3⟩ := cellx XP.out GB.out
    by_cases hk : pk = 9
    case neg =>
     have q1k : (pk == 9) = false := by simpa using hk
     have q2k : (pk != 9) = true := by simpa using hk
     have E : Hid (r = false) := hid (HM.out _ HCH.out (by rw [q1k]; rfl))
     clear hk
     go_wp2_with fail
     go_ret
     exact ⟨by rw [E.out]; rfl, X0.out.trans XR.out⟩
    have q1k : (pk == 9) = true := by simpa using hk
    have q2k : (pk != 9) = false := by simp [hk]
    clear hk
    have CM := hid fun W => rnm_any px W
    obtain ⟨qn, hqn⟩ : ∃ q, nmB px = q := ⟨_, rfl⟩
    rw [hqn] at CM HCH
    clear hqn
    go_wp2_with fail
    refine (CM.out _).mono ?_
    rintro e W2 ⟨rfl, X2⟩
    have XR := hid (XR.out.trans X2)
    have XP := hid (XP.out.trans X2)
    clear X2 e0 e1 e2 e3
    obtain ⟨e0, e1, e2, e3⟩ := cellx XP.out GB.out
    cases qn
    case false =>
     have E : Hid (r = false) := hid (HM.out _ HCH.out (by rw [q1k]; rfl))
     go_wp2_with fail
     go_ret
     exact ⟨by rw [E.out]; rfl, X0.out.trans XR.out⟩
    by_cases hl : p.kids.length = 1
    case neg =>
     have q1l : ((p.kids.length : Int) == 1) = false := by rw [beq_eq_false_iff_ne]; omega
     have q2l : ((p.kids.length : Int) != 1) = true := by rw [bne_iff_ne]; omega
     have q3l : (p.kids.length == 1) = false := by rw [beq_eq_false_iff_ne]; omega
     have E : Hid (r = false) := hid (HM.out _ HCH.out (by rw [q1k, q3l]; rfl))
     clear hl
     go_wp2_with fail
     go_ret
     exact ⟨by rw [E.out]; rfl, X0.out.trans XR.out⟩
    have q1l : ((p.kids.length : Int) == 1) = true := by rw [beq_iff_eq]; omega
    have q2l : ((p.kids.length : Int) != 1) = false := by rw [bne_eq_false_iff_eq]; omega
    have q3l : (p.kids.length == 1) = true := by rw [beq_iff_eq]; omega
    have hl0 : 0 < p.kids.length := by omega
    have y0 : (0 : Int) < (p.kids.length : Int) := by omega
    clear hl
    obtain ⟨b7, off7, z7, ez7, hbw7, k0, k1, k2, k3, hz7⟩ := kid_val (HX5.out.ext isNd_good XP.out fun _ _ h => h) 0 hl0
    subst ez7
    simp only [Nat.zero_mul, Nat.add_zero] at k0 k1 k2 k3
    have HZ7 := hid hz7
    obtain ⟨a8, cap8, rfl, _⟩ := hz7
    have hks7 : (p.kid 0).size ≤ f := by have := Nd.size_kid (kid_mem (t := p) (i := 0) hl0); have := HPS.out; omega
    have CQ := hid fun W v' (hv' : NdV none' W (p.kid 0) v') => HH.out (p.kid 0) hks7 v' W hv'
    obtain ⟨qt, hqt⟩ : ∃ q, ty (p.kid 0) = q := ⟨_, rfl⟩
    rw [hqt] at CQ HCH
    clear hqt hks7
    go_wp2_with fail
    refine (CQ.out _ _ ⟨_, rfl, HZ7.out⟩).mono ?_
    rintro e W3 ⟨rfl, X3⟩
    have XR := hid (XR.out.trans X3)
    clear X3 e0 e1 e2 e3 k0 k1 k2 k3
    cases qt
    case false =>
     have E : Hid (r = false) := hid (HM.out _ HCH.out (by rw [q1k, q3l]; rfl))
     go_wp2_with fail
     go_ret
     exact ⟨by rw [E.out]; rfl, X0.out.trans XR.out⟩
    have N := hid (HQ.out (by rw [HCH.out, q1k, q3l]; rfl))
    have N : Hid (Ext none' W0 _ ∧ ∀ j (h : j < t.kids.length), j < i + 1 → namB nmB 9 [ty] t.kids[j] = true) := hid ⟨XR.out, N.out⟩
    go_wp2_with fail
    go_roundw
    case rel => exact ⟨i + 1, by go_num, by omega, N⟩
    case measure => simp [RowKit.intOf]; omega
  · have E : Hid (r = true) := hid (by
     rw [HR.out, List.all_eq_true]
     intro y hy
     obtain ⟨j, hj, rfl⟩ := List.mem_iff_getElem.1 hy
     exact RR.out.2 j hj (by omega))
    obtain rfl : i = t.kids.length := by omega
    go_wp2_with fail
    go_ret
    exact ⟨by rw [E.out]; rfl, X0.out.trans RR.out.1⟩
theorem orB_inter {ty : Nd → Bool} {t : Nd} : orB (nam1B ty) (interB ty) t = (interB ty t || (t.kind == 10 && ty t)) := by
 unfold orB nam1B
 rw [Bool.or_comm]
theorem rparams_any (f : Nat) (hf : f + 1 ≤ bigD) (ty : Nd → Bool) (H : RTyH f ty) (t : Nd) (ht : t.size ≤ f + 1) (v : Value) (w : World) (hv : NdV none' w t v) :
 Calls Tryz.prog 73 #[v] w (BoolP (parsB ty t) w) := by
 obtain ⟨a1, cap1, rfl, hcap, HV, HY⟩ := nd_open hv
 have hkl : t.kids.length ≤ 4000000000 := by have := t.kids_len; unfold bigD at hf; omega
 obtain ⟨r, hr⟩ : ∃ r, r = parsB ty t := ⟨_, rfl⟩
 rw [← hr]
 have HH := hid H
 unfold parsB listB at hr
 replace hr := hr.trans (rfl)
 obtain ⟨tk, htk⟩ : ∃ k, t.kind = k := ⟨_, rfl⟩
 obtain ⟨tx, htx⟩ : ∃ k, t.text = k := ⟨_, rfl⟩
 rw [htk, htx] at HV
 rw [htk, htx]
 try rw [htk] at hr
 try rw [htx] at hr
 have HR := hid hr
 have HTK := hid htk
 have HTX := hid htx
 have HT := hid ht
 have HF := hid hf
 obtain ⟨B, W0, hB, hW0, X0, G0⟩ := boxed w (.cells #[.int .i64 tk, .string ⟨tx.toArray⟩, .slice a1 t.kids.length cap1, .int .i64 t.pos] 24)
 have XX := hid (Ext.refl none' W0)
 clear hr htk htx ht hf H
 go_enter Tryz.func73, Tryz.ntmps73
 go_upto_region 1 with (fail)
 rw [← hW0, ← hB]
 clear hW0 hB
 obtain ⟨c0, c1, c2, c3⟩ := cellx XX.out G0.out
 by_cases hk : tk = 6
 case neg =>
  have q1k : (tk == 6) = false := by simpa using hk
  have q2k : (tk != 6) = true := by simpa using hk
  have E : Hid (r = false) := hid (by rw [HR.out, q1k]; rfl)
  clear hk
  go_wp2_with fail
  go_ret
  exact ⟨by rw [E.out]; rfl, X0.out.trans XX.out⟩
 have q1k : (tk == 6) = true := by simpa using hk
 have q2k : (tk != 6) = false := by simp [hk]
 by_cases hx : tx = []
 case neg =>
  have q1x : (tx == []) = false := by simpa using hx
  have q2x : (tx != []) = true := by simpa using hx
  have q3x : tx.isEmpty = false := by simpa using hx
  have E : Hid (r = false) := hid (by rw [HR.out, q1k, q1x]; rfl)
  clear hk hx
  go_wp2_with fail
  go_ret
  exact ⟨by rw [E.out]; rfl, X0.out.trans XX.out⟩
 have q1x : (tx == []) = true := by simpa using hx
 have q2x : (tx != []) = false := by simp [hx]
 have q3x : tx.isEmpty = true := by simpa using hx
 have HR := hid (show r = t.kids.all (parB ty) by rw [HR.out, q1k, q1x]; rfl)
 clear hk hx
 go_wp2_with fail
 clear c0 c1 c2 c3 q1k q2k q1x q2x q3x
 go_loopw [3, 4, 5] (fun z _ _ wr => ∃ (i : Nat), z = .int .i64 (i : Nat) ∧ i ≤ t.kids.length ∧ Hid (Ext none' W0 wr ∧ ∀ j (h : j < t.kids.length), j < i → parB ty t.kids[j] = true)) (fun z _ _ _ => t.kids.length - (RowKit.intOf z).toNat)
 case atStart => exact ⟨0, rfl, by omega, hid ⟨XX.out, fun j _ h => by omega⟩⟩
 case round =>
  obtain ⟨i, rfl, hle, RR⟩ := hrel
  have c2 := cell_at (RR.out.1.heap G0.out fun h => h) 2
  simp only [List.getElem?_toArray, List.getElem?_cons_zero, List.getElem?_cons_succ] at c2
  by_cases hi : i < t.kids.length
  · obtain ⟨b5, off5, cs5, rfl, _, hw5, hcc5, ht5⟩ := (HY.out.ext isNd_good (X0.out.trans RR.out.1) fun _ _ h => h).at i hi
    obtain ⟨x5, rfl, hx5⟩ := ht5.parts
    have d0 := hcc5 0 _ rfl
    have d1 := hcc5 1 _ rfl
    have d2 := hcc5 2 _ rfl
    have d3 := hcc5 3 _ rfl
    simp only [Nat.add_zero] at d0
    have hmem := List.getElem_mem hi
    have hps : t.kids[i].size ≤ f := by have := Nd.size_kid hmem; have := HT.out; omega
    have HM := hid (show ∀ (q : Bool), parB ty t.kids[i] = q → q = false → r = false by
     intro q h1 h2
     rw [HR.out, List.all_eq_false]
     exact ⟨_, hmem, by rw [h1, h2]; simp⟩)
    have HQ := hid (show parB ty t.kids[i] = true → ∀ j (h : j < t.kids.length), j < i + 1 → parB ty t.kids[j] = true by
     intro hq j h hj
     by_cases e : j = i
     · subst e; exact hq
     · exact RR.out.2 j h (by omega))
    have HX5 := hid hx5
    obtain ⟨p, hp⟩ : ∃ p, t.kids[i] = p := ⟨_, rfl⟩
    rw [hp] at d0 d1 d3 HM HQ hps HX5 hx5
    obtain ⟨a6, cap6, rfl, hc6, hcx⟩ := hx5
    clear hcx
    obtain ⟨pk, hpk⟩ : ∃ k, p.kind = k := ⟨_, rfl⟩
    obtain ⟨px, hpx⟩ : ∃ k, p.text = k := ⟨_, rfl⟩
    rw [hpk] at d0
    rw [hpx] at d1
    have HCH := hid (show parB ty p = _ from namB_chain)
    rw [hpk, hpx] at HCH
    obtain ⟨W1, hW1⟩ : ∃ W1, W1 = wr.alloc (.cells #[.int .i64 pk, .string ⟨px.toArray⟩, .slice a6 p.kids.length cap6, .int .i64 p.pos] 24) := ⟨_, rfl⟩
    have X1 := hid (show Ext none' wr W1 by rw [hW1]; exact (Ext.refl _ _).alloc _)
    have GB := hid (show W1.heap[wr.heap.size]? = some (.cells #[.int .i64 pk, .string ⟨px.toArray⟩, .slice a6 p.kids.length cap6, .int .i64 p.pos] 24 (0, 0)) by rw [hW1]; exact heap_alloc_at rfl _)
    clear hcc5 ht5 hmem hp
    go_upto_region 7 with (fail)
    rw [← hW1]
    clear hW1 d0 d1 d2 d3 c2
    obtain ⟨BB, hBB⟩ : ∃ BB, BB = wr.heap.size := ⟨_, rfl⟩
    rw [← hBB] at GB ⊢
    clear hBB
    have XR := hid (RR.out.1.trans X1.out)
    have XP := hid (Ext.refl none' W1)
    have HX5 := hid (HX5.out.ext isNd_good X1.out fun _ _ h => h)
    have HPS := hid hps
    clear hps
    obtain ⟨e0, e1, e2, e3⟩ := cellx XP.out GB.out
    by_cases hk : pk = 7
    case neg =>
     have q1k : (pk == 7) = false := by simpa using hk
     have q2k : (pk != 7) = true := by simpa using hk
     have E : Hid (r = false) := hid (HM.out _ HCH.out (by rw [q1k]; rfl))
     clear hk
     go_wp2_with fail
     go_ret
     exact ⟨by rw [E.out]; rfl, X0.out.trans XR.out⟩
    have q1k : (pk == 7) = true := by simpa using hk
    have q2k : (pk != 7) = false := by simp [hk]
    clear hk
    have CM := hid fun W => rnm_any px W
    obtain ⟨qn, hqn⟩ : ∃ q, nmB px = q := ⟨_, rfl⟩
    rw [hqn] at CM HCH
    clear hqn
    go_wp2_with fail
    refine (CM.out _).mono ?_
    rintro e W2 ⟨rfl, X2⟩
    have XR := hid (XR.out.trans X2)
    have XP := hid (XP.out.trans X2)
    clear X2 e0 e1 e2 e3
    obtain ⟨e0, e1, e2, e3⟩ := cellx XP.out GB.out
    cases qn
    case false =>
     have E : Hid (r = false) := hid (HM.out _ HCH.out (by rw [q1k]; rfl))
     go_wp2_with fail
     go_ret
     exact ⟨by rw [E.out]; rfl, X0.out.trans XR.out⟩
    by_cases hl : p.kids.length = 1
    case neg =>
     have q1l : ((p.kids.length : Int) == 1) = false := by rw [beq_eq_false_iff_ne]; omega
     have q2l : ((p.kids.length : Int) != 1) = true := by rw [bne_iff_ne]; omega
     have q3l : (p.kids.length == 1) = false := by rw [beq_eq_false_iff_ne]; omega
     have E : Hid (r = false) := hid (HM.out _ HCH.out (by rw [q1k, q3l]; rfl))
     clear hl
     go_wp2_with fail
     go_ret
     exact ⟨by rw [E.out]; rfl, X0.out.trans XR.out⟩
    have q1l : ((p.kids.length : Int) == 1) = true := by rw [beq_iff_eq]; omega
    have q2l : ((p.kids.length : Int) != 1) = false := by rw [bne_eq_false_iff_eq]; omega
    have q3l : (p.kids.length == 1) = true := by rw [beq_iff_eq]; omega
    have hl0 : 0 < p.kids.length := by omega
    have y0 : (0 : Int) < (p.kids.length : Int) := by omega
    clear hl
    obtain ⟨b7, off7, z7, ez7, hbw7, k0, k1, k2, k3, hz7⟩ := kid_val (HX5.out.ext isNd_good XP.out fun _ _ h => h) 0 hl0
    subst ez7
    simp only [Nat.zero_mul, Nat.add_zero] at k0 k1 k2 k3
    have HZ7 := hid hz7
    obtain ⟨a8, cap8, rfl, _⟩ := hz7
    have hks7 : (p.kid 0).size ≤ f := by have := Nd.size_kid (kid_mem (t := p) (i := 0) hl0); have := HPS.out; omega
    have CI := hid fun W v' (hv' : NdV none' W (p.kid 0) v') => rinter_any f HF.out ty HH.out (p.kid 0) (by omega) v' W hv'
    have CQ := hid fun W v' (hv' : NdV none' W (p.kid 0) v') => HH.out (p.kid 0) hks7 v' W hv'
    rw [orB_inter] at HCH
    obtain ⟨qi, hqi⟩ : ∃ q, interB ty (p.kid 0) = q := ⟨_, rfl⟩
    obtain ⟨qt, hqt⟩ : ∃ q, ty (p.kid 0) = q := ⟨_, rfl⟩
    obtain ⟨ck, hck⟩ : ∃ k, (p.kid 0).kind = k := ⟨_, rfl⟩
    rw [hqi, hqt, hck] at HCH
    rw [hqi] at CI
    rw [hqt] at CQ
    have CI := hid fun W (hs : IsSl 4 IsNd none' W (.slice a8 (p.kid 0).kids.length cap8) (p.kid 0).kids) => CI.out W (.agg #[.int .i64 (p.kid 0).kind, .string ⟨(p.kid 0).text.toArray⟩, .slice a8 (p.kid 0).kids.length cap8, .int .i64 (p.kid 0).pos]) ⟨_, rfl, hs⟩
    have CQ := hid fun W (hs : IsSl 4 IsNd none' W (.slice a8 (p.kid 0).kids.length cap8) (p.kid 0).kids) => CQ.out W (.agg #[.int .i64 (p.kid 0).kind, .string ⟨(p.kid 0).text.toArray⟩, .slice a8 (p.kid 0).kids.length cap8, .int .i64 (p.kid 0).pos]) ⟨_, rfl, hs⟩
    rw [hck] at CI CQ k0
    clear hqi hqt hck hks7
    obtain ⟨WC, hWC⟩ : ∃ W', W' = W2.alloc (.cells #[.int .i64 ck, .string ⟨(p.kid 0).text.toArray⟩, .slice a8 (p.kid 0).kids.length cap8, .int .i64 (p.kid 0).pos] 24) := ⟨_, rfl⟩
    have XW := hid (show Ext none' W2 WC by rw [hWC]; exact (Ext.refl _ _).alloc _)
    have GC := hid (show WC.heap[W2.heap.size]? = some (.cells #[.int .i64 ck, .string ⟨(p.kid 0).text.toArray⟩, .slice a8 (p.kid 0).kids.length cap8, .int .i64 (p.kid 0).pos] 24 (0, 0)) by rw [hWC]; exact heap_alloc_at rfl _)
    go_upto_region 10 with (fail)
    rw [← hWC]
    clear hWC k0 k1 k2 k3 e0 e1 e2 e3
    obtain ⟨D, hD⟩ : ∃ D, D = W2.heap.size := ⟨_, rfl⟩
    rw [← hD] at GC ⊢
    clear hD
    have HZ7 := hid (HZ7.out.ext isNd_good XW.out fun _ _ h => h)
    have XR := hid (XR.out.trans XW.out)
    have XC := hid (Ext.refl none' WC)
    obtain ⟨g0, g1, g2, g3⟩ := cell4 (XC.out.heap GC.out fun h => h)
    go_wp2_with fail
    refine (CI.out _ HZ7.out).mono ?_
    rintro e W4 ⟨rfl, X4⟩
    have XR := hid (XR.out.trans X4)
    have XC := hid X4
    clear X4 g0 g1 g2 g3
    cases qi
    case true =>
     have N := hid (HQ.out (by rw [HCH.out, q1k, q3l]; rfl))
     have N : Hid (Ext none' W0 _ ∧ ∀ j (h : j < t.kids.length), j < i + 1 → parB ty t.kids[j] = true) := hid ⟨XR.out, N.out⟩
     go_wp2_with fail
     go_roundw
     case rel => exact ⟨i + 1, by go_num, by omega, N⟩
     case measure => simp [RowKit.intOf]; omega
    by_cases h10 : ck = 10
    case neg =>
     have q10 : (ck == 10) = false := by simpa using h10
     have q10' : (ck != 10) = true := by simpa using h10
     obtain ⟨g0, g1, g2, g3⟩ := cell4 (XC.out.heap GC.out fun h => h)
     have E : Hid (r = false) := hid (HM.out _ HCH.out (by rw [q1k, q3l, q10]; rfl))
     clear h10
     go_wp2_with fail
     go_ret
     exact ⟨by rw [E.out]; rfl, X0.out.trans XR.out⟩
    have q10 : (ck == 10) = true := by simpa using h10
    have q10' : (ck != 10) = false := by simp [h10]
    clear h10
    obtain ⟨g0, g1, g2, g3⟩ := cell4 (XC.out.heap GC.out fun h => h)
    go_wp2_with fail
    refine (CQ.out _ (HZ7.out.ext isNd_good XC.out fun _ _ h => h)).mono ?_
    rintro e W5 ⟨rfl, X5⟩
    have XR := hid (XR.out.trans X5)
    clear X5 g0 g1 g2 g3
    cases qt
    case false =>
     have E : Hid (r = false) := hid (HM.out _ HCH.out (by rw [q1k, q3l, q10]; rfl))
     go_wp2_with fail
     go_ret
     exact ⟨by rw [E.out]; rfl, X0.out.trans XR.out⟩
    have N := hid (HQ.out (by rw [HCH.out, q1k, q3l, q10]; rfl))
    have N : Hid (Ext none' W0 _ ∧ ∀ j (h : j < t.kids.length), j < i + 1 → parB ty t.kids[j] = true) := hid ⟨XR.out, N.out⟩
    go_wp2_with fail
    go_roundw
    case rel => exact ⟨i + 1, by go_num, by omega, N⟩
    case measure => simp [RowKit.intOf]; omega
  · have E : Hid (r = true) := hid (by
     rw [HR.out, List.all_eq_true]
     intro y hy
     obtain ⟨j, hj, rfl⟩ := List.mem_iff_getElem.1 hy
     exact RR.out.2 j hj (by omega))
    obtain rfl : i = t.kids.length := by omega
    go_wp2_with fail
    go_ret
    exact ⟨by rw [E.out]; rfl, X0.out.trans RR.out.1⟩
theorem namB_chain2 {so : List UInt8 → Bool} {p q : Nd → Bool} {k : Int} {t : Nd} : namB so k [p, q] t = (t.kind == k && (so t.text && (t.kids.length == 2 && (p (t.kid 0) && q (t.kid 1))))) := by
 unfold namB
 have key : kidsB [p, q] t.kids = (t.kids.length == 2 && (p (t.kid 0) && q (t.kid 1))) := by
  unfold Nd.kid
  match t.kids with
  | [] => rfl
  | [x] => simp [kidsB]
  | [x, y] => simp [kidsB]
  | x :: y :: z :: r => simp [kidsB]
 rw [key]
 simp only [Bool.and_assoc]
theorem varB_chain {ty ex : Nd → Bool} {t : Nd} : varB ty ex t = (t.kind == 5 && (nmB t.text && (t.kids.length == 2 && (((emptyB (t.kid 0) || ty (t.kid 0)) && (emptyB (t.kid 1) || ex (t.kid 1))) && (!emptyB (t.kid 0) || !emptyB (t.kid 1)))))) := by
 unfold varB
 rw [namB_chain2]
 unfold orB
 simp only [Bool.and_assoc]
theorem kid_size {t : Nd} {i : Nat} (h : i < t.kids.length) : (t.kid i).size < t.size := by
 have e : t.kid i = t.kids[i] := by unfold Nd.kid; rw [List.getD_eq_getElem?_getD, List.getElem?_eq_getElem h]; rfl
 rw [e]
 exact Nd.size_kid (List.getElem_mem h)
theorem rvar_any (f : Nat) (hf : f + 1 ≤ bigD) (ty ex : Nd → Bool) (H : RTyH f ty) (HE : RExH f ex) (t : Nd) (ht : t.size ≤ f + 1) (v : Value) (w : World) (hv : NdV none' w t v) :
 Calls Tryz.prog 72 #[v] w (BoolP (varB ty ex t) w) := by
 obtain ⟨a1, cap1, rfl, hcap, HV, HY⟩ := nd_open hv
 have hkl : t.kids.length ≤ 4000000000 := by have := t.kids_len; unfold bigD at hf; omega
 obtain ⟨r, hr⟩ : ∃ r, r = varB ty ex t := ⟨_, rfl⟩
 rw [← hr]
 have HH := hid H
 have HHE := hid HE
 replace hr := hr.trans (varB_chain)
 obtain ⟨tk, htk⟩ : ∃ k, t.kind = k := ⟨_, rfl⟩
 obtain ⟨tx, htx⟩ : ∃ k, t.text = k := ⟨_, rfl⟩
 rw [htk, htx] at HV
 rw [htk, htx]
 try rw [htk] at hr
 try rw [htx] at hr
 have HR := hid hr
 have HTK := hid htk
 have HTX := hid htx
 have HT := hid ht
 have HF := hid hf
 obtain ⟨B, W0, hB, hW0, X0, G0⟩ := boxed w (.cells #[.int .i64 tk, .string ⟨tx.toArray⟩, .slice a1 t.kids.length cap1, .int .i64 t.pos] 24)
 have XX := hid (Ext.refl none' W0)
 clear hr htk htx ht hf H HE
 go_enter Tryz.func72, Tryz.ntmps72
 go_upto_region 1 with (fail)
 rw [← hW0, ← hB]
 clear hW0 hB
 obtain ⟨c0, c1, c2, c3⟩ := cellx XX.out G0.out
 by_cases hk : tk = 5
 case neg =>
  have q1k : (tk == 5) = false := by simpa using hk
  have q2k : (tk != 5) = true := by simpa using hk
  have E : Hid (r = false) := hid (by rw [HR.out, q1k]; rfl)
  clear hk
  go_wp2_with fail
  go_ret
  exact ⟨by rw [E.out]; rfl, X0.out.trans XX.out⟩
 have q1k : (tk == 5) = true := by simpa using hk
 have q2k : (tk != 5) = false := by simp [hk]
 clear hk
 have CM := hid fun W => rnm_any tx W
 obtain ⟨qn, hqn⟩ : ∃ q, nmB tx = q := ⟨_, rfl⟩
 rw [hqn] at CM HR
 clear hqn
 go_wp2_with fail
 refine (CM.out _).mono ?_
 rintro e W2 ⟨rfl, X2⟩
 have XX := hid (XX.out.trans X2)
 clear X2 c0 c1 c2 c3
 obtain ⟨c0, c1, c2, c3⟩ := cellx XX.out G0.out
 cases qn
 case false =>
  have E : Hid (r = false) := hid (by rw [HR.out, q1k]; rfl)
  go_wp2_with fail
  go_ret
  exact ⟨by rw [E.out]; rfl, X0.out.trans XX.out⟩
 by_cases hl : t.kids.length = 2
 case neg =>
  have q1l : ((t.kids.length : Int) == 2) = false := by rw [beq_eq_false_iff_ne]; omega
  have q2l : ((t.kids.length : Int) != 2) = true := by rw [bne_iff_ne]; omega
  have q3l : (t.kids.length == 2) = false := by rw [beq_eq_false_iff_ne]; omega
  have E : Hid (r = false) := hid (by rw [HR.out, q1k, q3l]; rfl)
  clear hl
  go_wp2_with fail
  go_ret
  exact ⟨by rw [E.out]; rfl, X0.out.trans XX.out⟩
 have q1l : ((t.kids.length : Int) == 2) = true := by rw [beq_iff_eq]; omega
 have q2l : ((t.kids.length : Int) != 2) = false := by rw [bne_eq_false_iff_eq]; omega
 have q3l : (t.kids.length == 2) = true := by rw [beq_iff_eq]; omega
 have HR := hid (show r = (((emptyB (t.kid 0) || ty (t.kid 0)) && (emptyB (t.kid 1) || ex (t.kid 1))) && (!emptyB (t.kid 0) || !emptyB (t.kid 1))) by rw [HR.out, q1k, q3l]; rfl)
 have hl0 : 0 < t.kids.length := by omega
 have hl1 : 1 < t.kids.length := by omega
 have hks0 : (t.kid 0).size ≤ f := by have := kid_size hl0; have := HT.out; omega
 have hks1 : (t.kid 1).size ≤ f := by have := kid_size hl1; have := HT.out; omega
 have HKS := hid (And.intro hks0 hks1)
 have z0 : (0 : Int) < (t.kids.length : Int) := by omega
 have z1 : (1 : Int) < (t.kids.length : Int) := by omega
 clear hl hks0 hks1
 obtain ⟨b, off, ka0, kc0, rfl, HBW, HZ0, KK0⟩ := kidA (HY.out.ext isNd_good X0.out fun _ _ h => h) (by omega)
 obtain ⟨ka1, kc1, HZ1, KK1⟩ := kidB (HY.out.ext isNd_good X0.out fun _ _ h => h) 1 4 rfl (by omega)
 go_upto_region 3 with (fail)
 go_cut [3, 4] from 20 to 28 (fun z y wx => ∃ p3 p4, z = .pointer (some ⟨p3, 0, none⟩) ∧ y = .pointer (some ⟨p4, 0, none⟩) ∧ Hid (wx.heap[p3]? = some (.cells #[.int .i64 (t.kid 0).kind, .string ⟨(t.kid 0).text.toArray⟩, .slice ka0 (t.kid 0).kids.length kc0, .int .i64 (t.kid 0).pos] 24 (0, 0)) ∧ wx.heap[p4]? = some (.cells #[.int .i64 (t.kid 1).kind, .string ⟨(t.kid 1).text.toArray⟩, .slice ka1 (t.kid 1).kids.length kc1, .int .i64 (t.kid 1).pos] 24 (0, 0)) ∧ Ext none' W0 wx))
 case first =>
  clear c0 c1 c2 c3
  have c2 := fun t' : LaterF none' W2 => cell_at ((XX.out.trans t'.x).heap G0.out fun h => h) 2
  simp only [List.getElem?_toArray, List.getElem?_cons_zero, List.getElem?_cons_succ] at c2
  obtain ⟨m00, m01, m02, m03⟩ := kidL (w1 := W2) XX.out HBW.out KK0.out
  obtain ⟨m10, m11, m12, m13⟩ := kidL (w1 := W2) XX.out HBW.out KK1.out
  refine region_q none' W2 (.qs [0, 1, 2, 3, 4, 5, 6, 7] (.two 8 true (.one 9 true (.one 10 true (.one 11 true .fin))) 9 true (.one 8 true (.one 10 true (.one 11 true .fin))))) (by kernel_rfl) (by kernel_rfl) (fun dst v c a w h => by cases dst <;> exact h) ?_
  refine ⟨In.of (Ext.refl _ _).drew, ?_⟩
  change wpQuiet _ _ (fun w' => ∃ t : LaterF none' W2, w' = t.w) _ _ _
  simp only [sel, List.getElem?_cons_succ, List.getElem?_cons_zero]
  repeat (go_big_quiet_step (fail))
  refine wpQuiet_nil ?_
  simp only [wpTreeQ, stepT, sel, List.getElem?_cons_succ, List.getElem?_cons_zero]
  clear c2 m00 m01 m02 m03 m10 m11 m12 m13
  refine ⟨?_, ?_⟩
  · go_wp2_with fail
    refine ⟨In.of ((Ext.refl _ _).alloc _).drew, ?_⟩
    go_wp2_with fail
    refine ⟨In.of (((Ext.refl _ _).alloc _).alloc _).drew, ?_⟩
    obtain ⟨D, hD⟩ : ∃ D, D = W2.heap.size := ⟨_, rfl⟩
    obtain ⟨WA, hWA⟩ : ∃ W, W = ((W2.alloc (.cells #[.int .i64 0, .string ⟨#[]⟩, .slice none 0 0, .int .i64 0] 24)).alloc (.cells #[.int .i64 0, .string ⟨#[]⟩, .slice none 0 0, .int .i64 0] 24)).drew := ⟨_, rfl⟩
    rw [← hWA, ← hD]
    have XA := hid (show Ext none' W2 WA by rw [hWA]; exact (((Ext.refl _ _).alloc _).alloc _).drew)
    have GA := hid (show WA.heap[D]? = some (.cells #[.int .i64 0, .string ⟨#[]⟩, .slice none 0 0, .int .i64 0] 24 (0, 0)) by rw [hWA]; exact heap_alloc_keep (heap_alloc_at hD _) _)
    have GB := hid (show WA.heap[D + 1]? = some (.cells #[.int .i64 0, .string ⟨#[]⟩, .slice none 0 0, .int .i64 0] 24 (0, 0)) by rw [hWA]; exact heap_alloc_at (by rw [hD]; simp) _)
    have HD := hid hD
    clear hWA hD
    obtain ⟨e0, e1, e2, e3⟩ := cell4 GA.out
    have fe0 := free_at ((Ext.refl none' _).heap GA.out fun h => h) 0
    have fe1 := free_at ((Ext.refl none' _).heap GA.out fun h => h) 1
    have fe2 := free_at ((Ext.refl none' _).heap GA.out fun h => h) 2
    have fe3 := free_at ((Ext.refl none' _).heap GA.out fun h => h) 3
    go_wp2_with fail
    obtain ⟨WB, hWB⟩ : ∃ W, W = ((((WA.setCell ⟨D, 0, none⟩ (.int .i64 (t.kid 0).kind)).setCell ⟨D, 1, none⟩ (.string ⟨(t.kid 0).text.toArray⟩)).setCell ⟨D, 2, none⟩ (.slice ka0 (t.kid 0).kids.length kc0)).setCell ⟨D, 3, none⟩ (.int .i64 (t.kid 0).pos)) := ⟨_, rfl⟩
    rw [← hWB]
    have XB := hid (show Ext none' W2 WB by rw [hWB]; exact (XA.out.set4 (b := D) (.inr (by have := HD.out; omega)) _ _ _ _))
    have HA := hid (show WB.heap[D]? = some (.cells #[.int .i64 (t.kid 0).kind, .string ⟨(t.kid 0).text.toArray⟩, .slice ka0 (t.kid 0).kids.length kc0, .int .i64 (t.kid 0).pos] 24 (0, 0)) by rw [hWB]; exact set4n GA.out _ _ _ _)
    have HB := hid (show WB.heap[D + 1]? = some (.cells #[.int .i64 0, .string ⟨#[]⟩, .slice none 0 0, .int .i64 0] 24 (0, 0)) by rw [hWB]; exact (heap_setCell_other (heap_setCell_other (heap_setCell_other (heap_setCell_other GB.out (by simp) _) (by simp) _) (by simp) _) (by simp) _))
    refine ⟨In.of XB.out, ?_⟩
    clear hWB e0 e1 e2 e3 fe0 fe1 fe2 fe3
    obtain ⟨e0, e1, e2, e3⟩ := cell4 HB.out
    have fe0 := free_at ((Ext.refl none' _).heap HB.out fun h => h) 0
    have fe1 := free_at ((Ext.refl none' _).heap HB.out fun h => h) 1
    have fe2 := free_at ((Ext.refl none' _).heap HB.out fun h => h) 2
    have fe3 := free_at ((Ext.refl none' _).heap HB.out fun h => h) 3
    go_wp2_with fail
    obtain ⟨WC, hWC⟩ : ∃ W, W = ((((WB.setCell ⟨D + 1, 0, none⟩ (.int .i64 (t.kid 1).kind)).setCell ⟨D + 1, 1, none⟩ (.string ⟨(t.kid 1).text.toArray⟩)).setCell ⟨D + 1, 2, none⟩ (.slice ka1 (t.kid 1).kids.length kc1)).setCell ⟨D + 1, 3, none⟩ (.int .i64 (t.kid 1).pos)) := ⟨_, rfl⟩
    rw [← hWC]
    have XC := hid (show Ext none' W2 WC by rw [hWC]; exact (XB.out.set4 (b := D + 1) (.inr (by have := HD.out; omega)) _ _ _ _))
    have HC := hid (show WC.heap[D + 1]? = some (.cells #[.int .i64 (t.kid 1).kind, .string ⟨(t.kid 1).text.toArray⟩, .slice ka1 (t.kid 1).kids.length kc1, .int .i64 (t.kid 1).pos] 24 (0, 0)) by rw [hWC]; exact set4n HB.out _ _ _ _)
    have HA := hid (show WC.heap[D]? = some (.cells #[.int .i64 (t.kid 0).kind, .string ⟨(t.kid 0).text.toArray⟩, .slice ka0 (t.kid 0).kids.length kc0, .int .i64 (t.kid 0).pos] 24 (0, 0)) by rw [hWC]; exact (heap_setCell_other (heap_setCell_other (heap_setCell_other (heap_setCell_other HA.out (by simp) _) (by simp) _) (by simp) _) (by simp) _))
    refine ⟨In.of XC.out, ?_⟩
    clear hWC e0 e1 e2 e3 fe0 fe1 fe2 fe3
    go_wp2_with fail
    go_meet
    case rel => exact ⟨_, _, rfl, rfl, hid ⟨HA.out, HC.out, XX.out.trans XC.out⟩⟩
  · go_wp2_with fail
    refine ⟨In.of ((Ext.refl _ _).alloc _).drew, ?_⟩
    go_wp2_with fail
    refine ⟨In.of (((Ext.refl _ _).alloc _).alloc _).drew, ?_⟩
    obtain ⟨D, hD⟩ : ∃ D, D = W2.heap.size := ⟨_, rfl⟩
    obtain ⟨WA, hWA⟩ : ∃ W, W = ((W2.alloc (.cells #[.int .i64 0, .string ⟨#[]⟩, .slice none 0 0, .int .i64 0] 24)).alloc (.cells #[.int .i64 0, .string ⟨#[]⟩, .slice none 0 0, .int .i64 0] 24)).drew := ⟨_, rfl⟩
    rw [← hWA, ← hD]
    have XA := hid (show Ext none' W2 WA by rw [hWA]; exact (((Ext.refl _ _).alloc _).alloc _).drew)
    have GA := hid (show WA.heap[D]? = some (.cells #[.int .i64 0, .string ⟨#[]⟩, .slice none 0 0, .int .i64 0] 24 (0, 0)) by rw [hWA]; exact heap_alloc_keep (heap_alloc_at hD _) _)
    have GB := hid (show WA.heap[D + 1]? = some (.cells #[.int .i64 0, .string ⟨#[]⟩, .slice none 0 0, .int .i64 0] 24 (0, 0)) by rw [hWA]; exact heap_alloc_at (by rw [hD]; simp) _)
    have HD := hid hD
    clear hWA hD
    obtain ⟨e0, e1, e2, e3⟩ := cell4 GB.out
    have fe0 := free_at ((Ext.refl none' _).heap GB.out fun h => h) 0
    have fe1 := free_at ((Ext.refl none' _).heap GB.out fun h => h) 1
    have fe2 := free_at ((Ext.refl none' _).heap GB.out fun h => h) 2
    have fe3 := free_at ((Ext.refl none' _).heap GB.out fun h => h) 3
    go_wp2_with fail
    obtain ⟨WB, hWB⟩ : ∃ W, W = ((((WA.setCell ⟨D + 1, 0, none⟩ (.int .i64 (t.kid 0).kind)).setCell ⟨D + 1, 1, none⟩ (.string ⟨(t.kid 0).text.toArray⟩)).setCell ⟨D + 1, 2, none⟩ (.slice ka0 (t.kid 0).kids.length kc0)).setCell ⟨D + 1, 3, none⟩ (.int .i64 (t.kid 0).pos)) := ⟨_, rfl⟩
    rw [← hWB]
    have XB := hid (show Ext none' W2 WB by rw [hWB]; exact (XA.out.set4 (b := D + 1) (.inr (by have := HD.out; omega)) _ _ _ _))
    have HA := hid (show WB.heap[D + 1]? = some (.cells #[.int .i64 (t.kid 0).kind, .string ⟨(t.kid 0).text.toArray⟩, .slice ka0 (t.kid 0).kids.length kc0, .int .i64 (t.kid 0).pos] 24 (0, 0)) by rw [hWB]; exact set4n GB.out _ _ _ _)
    have HB := hid (show WB.heap[D]? = some (.cells #[.int .i64 0, .string ⟨#[]⟩, .slice none 0 0, .int .i64 0] 24 (0, 0)) by rw [hWB]; exact (heap_setCell_other (heap_setCell_other (heap_setCell_other (heap_setCell_other GA.out (by simp) _) (by simp) _) (by simp) _) (by simp) _))
    refine ⟨In.of XB.out, ?_⟩
    clear hWB e0 e1 e2 e3 fe0 fe1 fe2 fe3
    obtain ⟨e0, e1, e2, e3⟩ := cell4 HB.out
    have fe0 := free_at ((Ext.refl none' _).heap HB.out fun h => h) 0
    have fe1 := free_at ((Ext.refl none' _).heap HB.out fun h => h) 1
    have fe2 := free_at ((Ext.refl none' _).heap HB.out fun h => h) 2
    have fe3 := free_at ((Ext.refl none' _).heap HB.out fun h => h) 3
    go_wp2_with fail
    obtain ⟨WC, hWC⟩ : ∃ W, W = ((((WB.setCell ⟨D, 0, none⟩ (.int .i64 (t.kid 1).kind)).setCell ⟨D, 1, none⟩ (.string ⟨(t.kid 1).text.toArray⟩)).setCell ⟨D, 2, none⟩ (.slice ka1 (t.kid 1).kids.length kc1)).setCell ⟨D, 3, none⟩ (.int .i64 (t.kid 1).pos)) := ⟨_, rfl⟩
    rw [← hWC]
    have XC := hid (show Ext none' W2 WC by rw [hWC]; exact (XB.out.set4 (b := D) (.inr (by have := HD.out; omega)) _ _ _ _))
    have HC := hid (show WC.heap[D]? = some (.cells #[.int .i64 (t.kid 1).kind, .string ⟨(t.kid 1).text.toArray⟩, .slice ka1 (t.kid 1).kids.length kc1, .int .i64 (t.kid 1).pos] 24 (0, 0)) by rw [hWC]; exact set4n HB.out _ _ _ _)
    have HA := hid (show WC.heap[D + 1]? = some (.cells #[.int .i64 (t.kid 0).kind, .string ⟨(t.kid 0).text.toArray⟩, .slice ka0 (t.kid 0).kids.length kc0, .int .i64 (t.kid 0).pos] 24 (0, 0)) by rw [hWC]; exact (heap_setCell_other (heap_setCell_other (heap_setCell_other (heap_setCell_other HA.out (by simp) _) (by simp) _) (by simp) _) (by simp) _))
    refine ⟨In.of XC.out, ?_⟩
    clear hWC e0 e1 e2 e3 fe0 fe1 fe2 fe3
    go_wp2_with fail
    go_meet
    case rel => exact ⟨_, _, rfl, rfl, hid ⟨HA.out, HC.out, XX.out.trans XC.out⟩⟩
 obtain ⟨p3, p4, rfl, rfl, HW⟩ := hcut
 have G3 := hid HW.out.1
 have G4 := hid HW.out.2.1
 have XX := hid HW.out.2.2
 have C3 := hid fun W (X : Ext none' W0 W) => rnothing_any (t.kid 0) _ W (ndvx HZ0.out X)
 have C4 := hid fun W (X : Ext none' W0 W) => rnothing_any (t.kid 1) _ W (ndvx HZ1.out X)
 have C5 := hid fun W (X : Ext none' W0 W) => HH.out (t.kid 0) HKS.out.1 _ W (ndvx HZ0.out X)
 have C6 := hid fun W (X : Ext none' W0 W) => HHE.out (t.kid 1) HKS.out.2 _ W (ndvx HZ1.out X)
 obtain ⟨b0, hb0⟩ : ∃ b, emptyB (t.kid 0) = b := ⟨_, rfl⟩
 obtain ⟨b1, hb1⟩ : ∃ b, emptyB (t.kid 1) = b := ⟨_, rfl⟩
 obtain ⟨b2, hb2⟩ : ∃ b, ty (t.kid 0) = b := ⟨_, rfl⟩
 obtain ⟨b3, hb3⟩ : ∃ b, ex (t.kid 1) = b := ⟨_, rfl⟩
 rw [hb0, hb1, hb2, hb3] at HR
 rw [hb0] at C3
 rw [hb1] at C4
 rw [hb2] at C5
 rw [hb3] at C6
 clear hb0 hb1 hb2 hb3 HW c0 c1 c2 c3
 obtain ⟨g0, g1, g2, g3⟩ := cell4 G3.out
 obtain ⟨j0, j1, j2, j3⟩ := cell4 G4.out
 go_wp2_with fail
 refine (C3.out _ XX.out).mono ?_
 rintro e W4 ⟨rfl, X⟩
 have G3 := hid (X.heap G3.out fun h => h)
 have G4 := hid (X.heap G4.out fun h => h)
 have XX := hid (XX.out.trans X)
 clear X g0 g1 g2 g3 j0 j1 j2 j3
 obtain ⟨g0, g1, g2, g3⟩ := cell4 G3.out
 obtain ⟨j0, j1, j2, j3⟩ := cell4 G4.out
 cases b0
 case true =>
  go_wp2_with fail
  refine (C4.out _ XX.out).mono ?_
  rintro e W6 ⟨rfl, X⟩
  have G3 := hid (X.heap G3.out fun h => h)
  have G4 := hid (X.heap G4.out fun h => h)
  have XX := hid (XX.out.trans X)
  clear X g0 g1 g2 g3 j0 j1 j2 j3
  obtain ⟨g0, g1, g2, g3⟩ := cell4 G3.out
  obtain ⟨j0, j1, j2, j3⟩ := cell4 G4.out
  cases b1
  case false =>
   go_wp2_with fail
   refine (C6.out _ XX.out).mono ?_
   rintro e W7 ⟨rfl, X⟩
   have G3 := hid (X.heap G3.out fun h => h)
   have G4 := hid (X.heap G4.out fun h => h)
   have XX := hid (XX.out.trans X)
   clear X g0 g1 g2 g3 j0 j1 j2 j3
   obtain ⟨g0, g1, g2, g3⟩ := cell4 G3.out
   obtain ⟨j0, j1, j2, j3⟩ := cell4 G4.out
   cases b3
   case false =>
    have E := hid HR.out
    go_wp2_with fail
    go_ret
    exact ⟨by rw [E.out]; rfl, X0.out.trans XX.out⟩
   case true =>
    go_wp2_with fail
    refine (C3.out _ XX.out).mono ?_
    rintro e W8 ⟨rfl, X⟩
    have G3 := hid (X.heap G3.out fun h => h)
    have G4 := hid (X.heap G4.out fun h => h)
    have XX := hid (XX.out.trans X)
    clear X g0 g1 g2 g3 j0 j1 j2 j3
    obtain ⟨g0, g1, g2, g3⟩ := cell4 G3.out
    obtain ⟨j0, j1, j2, j3⟩ := cell4 G4.out
    go_wp2_with fail
    refine (C4.out _ XX.out).mono ?_
    rintro e W9 ⟨rfl, X⟩
    have G3 := hid (X.heap G3.out fun h => h)
    have G4 := hid (X.heap G4.out fun h => h)
    have XX := hid (XX.out.trans X)
    clear X g0 g1 g2 g3 j0 j1 j2 j3
    obtain ⟨g0, g1, g2, g3⟩ := cell4 G3.out
    obtain ⟨j0, j1, j2, j3⟩ := cell4 G4.out
    have E := hid HR.out
    go_wp2_with fail
    go_ret
    exact ⟨by rw [E.out]; rfl, X0.out.trans XX.out⟩
  case true =>
   go_wp2_with fail
   refine (C3.out _ XX.out).mono ?_
   rintro e W8 ⟨rfl, X⟩
   have G3 := hid (X.heap G3.out fun h => h)
   have G4 := hid (X.heap G4.out fun h => h)
   have XX := hid (XX.out.trans X)
   clear X g0 g1 g2 g3 j0 j1 j2 j3
   obtain ⟨g0, g1, g2, g3⟩ := cell4 G3.out
   obtain ⟨j0, j1, j2, j3⟩ := cell4 G4.out
   go_wp2_with fail
   refine (C4.out _ XX.out).mono ?_
   rintro e W9 ⟨rfl, X⟩
   have G3 := hid (X.heap G3.out fun h => h)
   have G4 := hid (X.heap G4.out fun h => h)
   have XX := hid (XX.out.trans X)
   clear X g0 g1 g2 g3 j0 j1 j2 j3
   obtain ⟨g0, g1, g2, g3⟩ := cell4 G3.out
   obtain ⟨j0, j1, j2, j3⟩ := cell4 G4.out
   have E := hid HR.out
   go_wp2_with fail
   go_ret
   exact ⟨by rw [E.out]; rfl, X0.out.trans XX.out⟩
 case false =>
  go_wp2_with fail
  refine (C5.out _ XX.out).mono ?_
  rintro e W5 ⟨rfl, X⟩
  have G3 := hid (X.heap G3.out fun h => h)
  have G4 := hid (X.heap G4.out fun h => h)
  have XX := hid (XX.out.trans X)
  clear X g0 g1 g2 g3 j0 j1 j2 j3
  obtain ⟨g0, g1, g2, g3⟩ := cell4 G3.out
  obtain ⟨j0, j1, j2, j3⟩ := cell4 G4.out
  cases b2
  case false =>
   have E := hid HR.out
   go_wp2_with fail
   go_ret
   exact ⟨by rw [E.out]; rfl, X0.out.trans XX.out⟩
  case true =>
   go_wp2_with fail
   refine (C4.out _ XX.out).mono ?_
   rintro e W6 ⟨rfl, X⟩
   have G3 := hid (X.heap G3.out fun h => h)
   have G4 := hid (X.heap G4.out fun h => h)
   have XX := hid (XX.out.trans X)
   clear X g0 g1 g2 g3 j0 j1 j2 j3
   obtain ⟨g0, g1, g2, g3⟩ := cell4 G3.out
   obtain ⟨j0, j1, j2, j3⟩ := cell4 G4.out
   cases b1
   case false =>
    go_wp2_with fail
    refine (C6.out _ XX.out).mono ?_
    rintro e W7 ⟨rfl, X⟩
    have G3 := hid (X.heap G3.out fun h => h)
    have G4 := hid (X.heap G4.out fun h => h)
    have XX := hid (XX.out.trans X)
    clear X g0 g1 g2 g3 j0 j1 j2 j3
    obtain ⟨g0, g1, g2, g3⟩ := cell4 G3.out
    obtain ⟨j0, j1, j2, j3⟩ := cell4 G4.out
    cases b3
    case false =>
     have E := hid HR.out
     go_wp2_with fail
     go_ret
     exact ⟨by rw [E.out]; rfl, X0.out.trans XX.out⟩
    case true =>
     go_wp2_with fail
     refine (C3.out _ XX.out).mono ?_
     rintro e W8 ⟨rfl, X⟩
     have G3 := hid (X.heap G3.out fun h => h)
     have G4 := hid (X.heap G4.out fun h => h)
     have XX := hid (XX.out.trans X)
     clear X g0 g1 g2 g3 j0 j1 j2 j3
     obtain ⟨g0, g1, g2, g3⟩ := cell4 G3.out
     obtain ⟨j0, j1, j2, j3⟩ := cell4 G4.out
     have E := hid HR.out
     go_wp2_with fail
     go_ret
     exact ⟨by rw [E.out]; rfl, X0.out.trans XX.out⟩
   case true =>
    go_wp2_with fail
    refine (C3.out _ XX.out).mono ?_
    rintro e W8 ⟨rfl, X⟩
    have G3 := hid (X.heap G3.out fun h => h)
    have G4 := hid (X.heap G4.out fun h => h)
    have XX := hid (XX.out.trans X)
    clear X g0 g1 g2 g3 j0 j1 j2 j3
    obtain ⟨g0, g1, g2, g3⟩ := cell4 G3.out
    obtain ⟨j0, j1, j2, j3⟩ := cell4 G4.out
    have E := hid HR.out
    go_wp2_with fail
    go_ret
    exact ⟨by rw [E.out]; rfl, X0.out.trans XX.out⟩
end Go.Proofs.YthbmjamgidfneaaGreatDoor
