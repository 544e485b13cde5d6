import Derived.Test.YthbmjamgidfneaaGreatDoorYAa
import Derived.Test.YthbmjamgidfneaaGreatDoorYAd
import Derived.Test.YthbmjamgidfneaaGreatDoorYAs
set_option maxRecDepth 100000
set_option maxHeartbeats 6400000
namespace Go.Proofs.YthbmjamgidfneaaGreatDoor
open Go.RowKit Go.Lib Go.BigFrame
set_option linter.unusedVariables false
set_option linter.unusedSimpArgs false
theorem rs7_for (f : Nat) (hf : f + 1 ≤ 1100000) (H : REx7 f) (HS : RSt7 f) (deep : Nat)  (hd : deep + (f + 1) ≤ 1200000) (t : Nd) (ht : t.size ≤ f + 1) (hk : t.kind = 31) (he : ofB 31 [orB (orB emptyB (shB (exF f))) (orB (setB (exF f)) (incrB (exF f))), orB emptyB (exF f), orB (orB emptyB (setB (exF f))) (orB (incrB (exF f)) (callB (exF f))), blkB (stF f)] t = true) (v : Value) (w : World) (hv : NdV none' w t v) :
 Calls Tryz.prog 29 #[v, .int .i64 (deep : Nat), .bool false] w (StrPost (loopT (exT f) (stT f) deep t) w) := by
 obtain ⟨a1, cap1, rfl, hcap, HV, HY⟩ := nd_open hv
 have hkl : t.kids.length ≤ 1100000 := by have := t.kids_len; omega
 obtain ⟨r, hr⟩ : ∃ r, r = (loopT (exT f) (stT f) deep t) := ⟨_, rfl⟩
 rw [← hr]
 have HT := hid ht
 have HF := hid hf
 obtain ⟨_, _, h3⟩ := ofB_parts he
 obtain ⟨x, y, z, u, hkx, hx1, hy1, hz1, hu1⟩ := four_kids h3
 obtain ⟨hx0, hy0, hz0, hu0⟩ := kid_four hkx
 have hl3 : 3 < t.kids.length := by rw [hkx]; simp
 rw [← hx0] at hx1
 rw [← hy0] at hy1
 rw [← hz0] at hz1
 rw [← hu0] at hu1
 clear hx0 hy0 hz0 hu0
 unfold orB at hx1 hy1 hz1
 simp only [Bool.or_eq_true] at hx1 hy1 hz1
 have hx2 : (t.kid 0).kind ≠ 0 → simB (exF f) (t.kid 0) := fun h => by
  rcases hx1 with (h1 | h1) | (h1 | h1)
  · exact absurd (emptyB_kind h1) h
  · exact .inl h1
  · exact .inr (.inl h1)
  · exact .inr (.inr (.inl h1))
 have hy2 : (t.kid 1).kind ≠ 0 → exF f (t.kid 1) = true := fun h => hy1.resolve_left fun h' => h (emptyB_kind h')
 have hz2 : (t.kid 2).kind ≠ 0 → simB (exF f) (t.kid 2) := fun h => by
  rcases hz1 with (h1 | h1) | (h1 | h1)
  · exact absurd (emptyB_kind h1) h
  · exact .inr (.inl h1)
  · exact .inr (.inr (.inl h1))
  · exact .inr (.inr (.inr h1))
 have hks0 : (t.kid 0).size ≤ f := by have := kid_size (t := t) (i := 0) (by omega); omega
 have hks1 : (t.kid 1).size ≤ f := by have := kid_size (t := t) (i := 1) (by omega); omega
 have hks2 : (t.kid 2).size ≤ f := by have := kid_size (t := t) (i := 2) (by omega); omega
 have C0 := hid fun (h : (t.kid 0).kind ≠ 0) v' W (hv' : NdV none' W (t.kid 0) v') => rsim_any f hf H deep true hd (t.kid 0) (by omega) (hx2 h) v' W hv'
 have QL0 := hid fun (h : (t.kid 0).kind ≠ 0) => (show (simT (exT f) deep true (t.kid 0)).length ≤ 10000000000000 by have := simT_len (f := f) (deep := deep) (head := true) (ex := exT f) (t := t.kid 0) (fun x hx he => (lens_all f deep (by omega)).1 x (by have := Nd.size_kid hx; omega) he) (hx2 h); omega)
 obtain ⟨q0, hq0⟩ : ∃ q, simT (exT f) deep true (t.kid 0) = q := ⟨_, rfl⟩
 have C2 := hid fun (h : (t.kid 2).kind ≠ 0) v' W (hv' : NdV none' W (t.kid 2) v') => rsim_any f hf H deep true hd (t.kid 2) (by omega) (hz2 h) v' W hv'
 have QL2 := hid fun (h : (t.kid 2).kind ≠ 0) => (show (simT (exT f) deep true (t.kid 2)).length ≤ 10000000000000 by have := simT_len (f := f) (deep := deep) (head := true) (ex := exT f) (t := t.kid 2) (fun x hx he => (lens_all f deep (by omega)).1 x (by have := Nd.size_kid hx; omega) he) (hz2 h); omega)
 obtain ⟨q2, hq2⟩ : ∃ q, simT (exT f) deep true (t.kid 2) = q := ⟨_, rfl⟩
 have C1 := hid fun (h : (t.kid 1).kind ≠ 0) v' W (hv' : NdV none' W (t.kid 1) v') => H deep true (by omega) (t.kid 1) hks1 (hy2 h) v' W hv'
 have QL1 := hid fun (h : (t.kid 1).kind ≠ 0) => (show (exT f deep true (t.kid 1)).length ≤ 10000000000000 by have := exlen7 (hy2 h) hks1 (deep := deep) (by omega) (by omega) true; omega)
 obtain ⟨q1, hq1⟩ : ∃ q, exT f deep true (t.kid 1) = q := ⟨_, rfl⟩
 unfold loopT wFor at hr
 rw [hq0] at C0 QL0
 rw [hq1] at C1 QL1
 rw [hq2] at C2 QL2
 rw [hq0, hq1, hq2] at hr
 have hks3 : (t.kid 3).size ≤ f + 1 := by have := kid_size (t := t) (i := 3) (by omega); omega
 have hbl3 := blk_len (deep := deep) (st := stT f) (f := f) (by omega) (fun z hm hz => (lens_all f (deep + 1) (by omega)).2 z (by have := Nd.size_kid hm; have := kid_size (t := t) (i := 3) (by omega); omega) hz) hu1
 have C3 := hid fun v' W (hv' : NdV none' W (t.kid 3) v') => rblockt_any f (by omega) HS deep (by omega) (t.kid 3) hks3 hu1 v' W hv'
 have hql3 : (blT (stT f) deep (t.kid 3)).length ≤ 10000000000000 := by omega
 obtain ⟨q3, hq3⟩ : ∃ q, blT (stT f) deep (t.kid 3) = q := ⟨_, rfl⟩
 rw [hq3] at C3 hql3 hr
 clear hks3 hbl3 hq3
 have y0 : (0 : Int) < (t.kids.length : Int) := by omega
 have y1 : (1 : Int) < (t.kids.length : Int) := by omega
 have y2 : (2 : Int) < (t.kids.length : Int) := by omega
 have y3 : (3 : Int) < (t.kids.length : Int) := by omega
 have HR := hid hr
 have HK := hid hk
 rw [hk] at HV ⊢
 obtain ⟨tx, htx⟩ : ∃ k, t.text = k := ⟨_, rfl⟩
 have HTX := hid htx
 rw [htx] at HV  ⊢
 try rw [htx] at HR
 obtain ⟨B, W0, hB, hW0, X0, G0⟩ := boxed w (.cells #[.int .i64 31, .string ⟨tx.toArray⟩, .slice a1 t.kids.length cap1, .int .i64 t.pos] 24)
 have XX := hid (Ext.refl none' W0)
 clear hr htx ht hf hk he H HS hd h3 hkx hx1 hy1 hz1 hu1 hx2 hy2 hz2 hks0 hks1 hks2 hq0 hq1 hq2
 go_enter Tryz.func29, Tryz.ntmps29
 go_upto_region 1 with (fail)
 rw [← hW0, ← hB]
 clear hW0 hB
 obtain ⟨c0, c1, c2, c3⟩ := cellx XX.out G0.out
 obtain ⟨b, off, ka0, kc0, rfl, HBW, HZ0, KK0⟩ := kidA (HY.out.ext isNd_good X0.out fun _ _ h => h) (by omega)
 obtain ⟨ka1, kc1, HZ1, KK1⟩ := kidB (HY.out.ext isNd_good X0.out fun _ _ h => h) 1 4 rfl (by omega)
 obtain ⟨ka2, kc2, HZ2, KK2⟩ := kidB (HY.out.ext isNd_good X0.out fun _ _ h => h) 2 8 rfl (by omega)
 obtain ⟨ka3, kc3, HZ3, KK3⟩ := kidB (HY.out.ext isNd_good X0.out fun _ _ h => h) 3 12 rfl (by omega)
 have C3 := hid fun W (X : Ext none' W0 W) => C3.out _ W (ndvx HZ3.out X)
 obtain ⟨m00, m01, m02, m03⟩ := kid' XX.out HBW.out KK0.out
 obtain ⟨m10, m11, m12, m13⟩ := kid' XX.out HBW.out KK1.out
 obtain ⟨m20, m21, m22, m23⟩ := kid' XX.out HBW.out KK2.out
 obtain ⟨m30, m31, m32, m33⟩ := kid' XX.out HBW.out KK3.out
 by_cases h0 : (t.kid 0).kind = 0
 case pos =>
  by_cases h1 : (t.kid 1).kind = 0
  case pos =>
   by_cases h2 : (t.kid 2).kind = 0
   case pos =>
    have z0 : ((t.kid 0).kind != 0) = false := by simp [h0]
    have z1 : ((t.kid 1).kind != 0) = false := by simp [h1]
    have z2 : ((t.kid 2).kind != 0) = false := by simp [h2]
    have HR := hid (show r = [102, 111, 114, 32] ++ (q3) by rw [HR.out]; simp [h0, h1, h2])
    clear h0 h1 h2
    have cat29 := str_cat ([102, 111, 114, 32]) (q3)
    simp only [List.append_assoc, List.cons_append, List.nil_append] at cat29
    go_wp2_with fail
    refine (C3.out _ XX.out).mono ?_
    rintro e w1 ⟨rfl, X⟩
    have XX := hid (XX.out.trans X)
    clear X c0 c1 c2 c3 m00 m01 m02 m03 m10 m11 m12 m13 m20 m21 m22 m23 m30 m31 m32 m33
    obtain ⟨c0, c1, c2, c3⟩ := cellx XX.out G0.out
    obtain ⟨m00, m01, m02, m03⟩ := kid' XX.out HBW.out KK0.out
    obtain ⟨m10, m11, m12, m13⟩ := kid' XX.out HBW.out KK1.out
    obtain ⟨m20, m21, m22, m23⟩ := kid' XX.out HBW.out KK2.out
    obtain ⟨m30, m31, m32, m33⟩ := kid' XX.out HBW.out KK3.out
    go_wp2_with fail
    go_ret
    exact ⟨by first | (rw [HR.out]; done) | (rw [HR.out]; simp), X0.out.trans XX.out⟩
   have z0 : ((t.kid 0).kind != 0) = false := by simp [h0]
   have z1 : ((t.kid 1).kind != 0) = false := by simp [h1]
   have z2 : ((t.kid 2).kind != 0) = true := by simpa using h2
   have hql2 := QL2.out h2
   have C2 := hid fun W (X : Ext none' W0 W) => C2.out h2 _ W (ndvx HZ2.out X)
   have HR := hid (show r = [102, 111, 114, 32] ++ ([59, 32]) ++ ([59, 32]) ++ (q2 ++ [32]) ++ (q3) by rw [HR.out]; simp [h0, h1, h2])
   clear h0 h1 h2
   have cat30 := str_cat ([102, 111, 114, 32]) ([59, 32])
   have cat31 := str_cat ([102, 111, 114, 32] ++ ([59, 32])) ([59, 32])
   have cat32 := str_cat (q2) ([32])
   have cat33 := str_cat ([102, 111, 114, 32] ++ ([59, 32]) ++ ([59, 32])) (q2 ++ [32])
   have cat34 := str_cat ([102, 111, 114, 32] ++ ([59, 32]) ++ ([59, 32]) ++ (q2 ++ [32])) (q3)
   simp only [List.append_assoc, List.cons_append, List.nil_append] at cat30 cat31 cat32 cat33 cat34
   go_wp2_with fail
   refine (C2.out _ XX.out).mono ?_
   rintro e w1 ⟨rfl, X⟩
   have XX := hid (XX.out.trans X)
   clear X c0 c1 c2 c3 m00 m01 m02 m03 m10 m11 m12 m13 m20 m21 m22 m23 m30 m31 m32 m33
   obtain ⟨c0, c1, c2, c3⟩ := cellx XX.out G0.out
   obtain ⟨m00, m01, m02, m03⟩ := kid' XX.out HBW.out KK0.out
   obtain ⟨m10, m11, m12, m13⟩ := kid' XX.out HBW.out KK1.out
   obtain ⟨m20, m21, m22, m23⟩ := kid' XX.out HBW.out KK2.out
   obtain ⟨m30, m31, m32, m33⟩ := kid' XX.out HBW.out KK3.out
   go_wp2_with fail
   refine (C3.out _ XX.out).mono ?_
   rintro e w2 ⟨rfl, X⟩
   have XX := hid (XX.out.trans X)
   clear X c0 c1 c2 c3 m00 m01 m02 m03 m10 m11 m12 m13 m20 m21 m22 m23 m30 m31 m32 m33
   obtain ⟨c0, c1, c2, c3⟩ := cellx XX.out G0.out
   obtain ⟨m00, m01, m02, m03⟩ := kid' XX.out HBW.out KK0.out
   obtain ⟨m10, m11, m12, m13⟩ := kid' XX.out HBW.out KK1.out
   obtain ⟨m20, m21, m22, m23⟩ := kid' XX.out HBW.out KK2.out
   obtain ⟨m30, m31, m32, m33⟩ := kid' XX.out HBW.out KK3.out
   go_wp2_with fail
   go_ret
   exact ⟨by first | (rw [HR.out]; done) | (rw [HR.out]; simp), X0.out.trans XX.out⟩
  by_cases h2 : (t.kid 2).kind = 0
  case pos =>
   have z0 : ((t.kid 0).kind != 0) = false := by simp [h0]
   have z1 : ((t.kid 1).kind != 0) = true := by simpa using h1
   have hql1 := QL1.out h1
   have C1 := hid fun W (X : Ext none' W0 W) => C1.out h1 _ W (ndvx HZ1.out X)
   have z2 : ((t.kid 2).kind != 0) = false := by simp [h2]
   have HR := hid (show r = [102, 111, 114, 32] ++ (q1 ++ [32]) ++ (q3) by rw [HR.out]; simp [h0, h1, h2])
   clear h0 h1 h2
   have cat35 := str_cat (q1) ([32])
   have cat36 := str_cat ([102, 111, 114, 32]) (q1 ++ [32])
   have cat37 := str_cat ([102, 111, 114, 32] ++ (q1 ++ [32])) (q3)
   simp only [List.append_assoc, List.cons_append, List.nil_append] at cat35 cat36 cat37
   go_wp2_with fail
   refine (C1.out _ XX.out).mono ?_
   rintro e w1 ⟨rfl, X⟩
   have XX := hid (XX.out.trans X)
   clear X c0 c1 c2 c3 m00 m01 m02 m03 m10 m11 m12 m13 m20 m21 m22 m23 m30 m31 m32 m33
   obtain ⟨c0, c1, c2, c3⟩ := cellx XX.out G0.out
   obtain ⟨m00, m01, m02, m03⟩ := kid' XX.out HBW.out KK0.out
   obtain ⟨m10, m11, m12, m13⟩ := kid' XX.out HBW.out KK1.out
   obtain ⟨m20, m21, m22, m23⟩ := kid' XX.out HBW.out KK2.out
   obtain ⟨m30, m31, m32, m33⟩ := kid' XX.out HBW.out KK3.out
   go_wp2_with fail
   refine (C3.out _ XX.out).mono ?_
   rintro e w2 ⟨rfl, X⟩
   have XX := hid (XX.out.trans X)
   clear X c0 c1 c2 c3 m00 m01 m02 m03 m10 m11 m12 m13 m20 m21 m22 m23 m30 m31 m32 m33
   obtain ⟨c0, c1, c2, c3⟩ := cellx XX.out G0.out
   obtain ⟨m00, m01, m02, m03⟩ := kid' XX.out HBW.out KK0.out
   obtain ⟨m10, m11, m12, m13⟩ := kid' XX.out HBW.out KK1.out
   obtain ⟨m20, m21, m22, m23⟩ := kid' XX.out HBW.out KK2.out
   obtain ⟨m30, m31, m32, m33⟩ := kid' XX.out HBW.out KK3.out
   go_wp2_with fail
   go_ret
   exact ⟨by first | (rw [HR.out]; done) | (rw [HR.out]; simp), X0.out.trans XX.out⟩
  have z0 : ((t.kid 0).kind != 0) = false := by simp [h0]
  have z1 : ((t.kid 1).kind != 0) = true := by simpa using h1
  have hql1 := QL1.out h1
  have C1 := hid fun W (X : Ext none' W0 W) => C1.out h1 _ W (ndvx HZ1.out X)
  have z2 : ((t.kid 2).kind != 0) = true := by simpa using h2
  have hql2 := QL2.out h2
  have C2 := hid fun W (X : Ext none' W0 W) => C2.out h2 _ W (ndvx HZ2.out X)
  have HR := hid (show r = [102, 111, 114, 32] ++ ([59, 32]) ++ (q1) ++ ([59, 32]) ++ (q2 ++ [32]) ++ (q3) by rw [HR.out]; simp [h0, h1, h2])
  clear h0 h1 h2
  have cat38 := str_cat ([102, 111, 114, 32]) ([59, 32])
  have cat39 := str_cat ([102, 111, 114, 32] ++ ([59, 32])) (q1)
  have cat40 := str_cat ([102, 111, 114, 32] ++ ([59, 32]) ++ (q1)) ([59, 32])
  have cat41 := str_cat (q2) ([32])
  have cat42 := str_cat ([102, 111, 114, 32] ++ ([59, 32]) ++ (q1) ++ ([59, 32])) (q2 ++ [32])
  have cat43 := str_cat ([102, 111, 114, 32] ++ ([59, 32]) ++ (q1) ++ ([59, 32]) ++ (q2 ++ [32])) (q3)
  simp only [List.append_assoc, List.cons_append, List.nil_append] at cat38 cat39 cat40 cat41 cat42 cat43
  go_wp2_with fail
  refine (C1.out _ XX.out).mono ?_
  rintro e w1 ⟨rfl, X⟩
  have XX := hid (XX.out.trans X)
  clear X c0 c1 c2 c3 m00 m01 m02 m03 m10 m11 m12 m13 m20 m21 m22 m23 m30 m31 m32 m33
  obtain ⟨c0, c1, c2, c3⟩ := cellx XX.out G0.out
  obtain ⟨m00, m01, m02, m03⟩ := kid' XX.out HBW.out KK0.out
  obtain ⟨m10, m11, m12, m13⟩ := kid' XX.out HBW.out KK1.out
  obtain ⟨m20, m21, m22, m23⟩ := kid' XX.out HBW.out KK2.out
  obtain ⟨m30, m31, m32, m33⟩ := kid' XX.out HBW.out KK3.out
  go_wp2_with fail
  refine (C2.out _ XX.out).mono ?_
  rintro e w2 ⟨rfl, X⟩
  have XX := hid (XX.out.trans X)
  clear X c0 c1 c2 c3 m00 m01 m02 m03 m10 m11 m12 m13 m20 m21 m22 m23 m30 m31 m32 m33
  obtain ⟨c0, c1, c2, c3⟩ := cellx XX.out G0.out
  obtain ⟨m00, m01, m02, m03⟩ := kid' XX.out HBW.out KK0.out
  obtain ⟨m10, m11, m12, m13⟩ := kid' XX.out HBW.out KK1.out
  obtain ⟨m20, m21, m22, m23⟩ := kid' XX.out HBW.out KK2.out
  obtain ⟨m30, m31, m32, m33⟩ := kid' XX.out HBW.out KK3.out
  go_wp2_with fail
  refine (C3.out _ XX.out).mono ?_
  rintro e w3 ⟨rfl, X⟩
  have XX := hid (XX.out.trans X)
  clear X c0 c1 c2 c3 m00 m01 m02 m03 m10 m11 m12 m13 m20 m21 m22 m23 m30 m31 m32 m33
  obtain ⟨c0, c1, c2, c3⟩ := cellx XX.out G0.out
  obtain ⟨m00, m01, m02, m03⟩ := kid' XX.out HBW.out KK0.out
  obtain ⟨m10, m11, m12, m13⟩ := kid' XX.out HBW.out KK1.out
  obtain ⟨m20, m21, m22, m23⟩ := kid' XX.out HBW.out KK2.out
  obtain ⟨m30, m31, m32, m33⟩ := kid' XX.out HBW.out KK3.out
  go_wp2_with fail
  go_ret
  exact ⟨by first | (rw [HR.out]; done) | (rw [HR.out]; simp), X0.out.trans XX.out⟩
 by_cases h1 : (t.kid 1).kind = 0
 case pos =>
  by_cases h2 : (t.kid 2).kind = 0
  case pos =>
   have z0 : ((t.kid 0).kind != 0) = true := by simpa using h0
   have hql0 := QL0.out h0
   have C0 := hid fun W (X : Ext none' W0 W) => C0.out h0 _ W (ndvx HZ0.out X)
   have z1 : ((t.kid 1).kind != 0) = false := by simp [h1]
   have z2 : ((t.kid 2).kind != 0) = false := by simp [h2]
   have HR := hid (show r = [102, 111, 114, 32] ++ (q0) ++ ([59, 32]) ++ ([59, 32]) ++ (q3) by rw [HR.out]; simp [h0, h1, h2])
   clear h0 h1 h2
   have cat44 := str_cat ([102, 111, 114, 32]) (q0)
   have cat45 := str_cat ([102, 111, 114, 32] ++ (q0)) ([59, 32])
   have cat46 := str_cat ([102, 111, 114, 32] ++ (q0) ++ ([59, 32])) ([59, 32])
   have cat47 := str_cat ([102, 111, 114, 32] ++ (q0) ++ ([59, 32]) ++ ([59, 32])) (q3)
   simp only [List.append_assoc, List.cons_append, List.nil_append] at cat44 cat45 cat46 cat47
   go_wp2_with fail
   refine (C0.out _ XX.out).mono ?_
   rintro e w1 ⟨rfl, X⟩
   have XX := hid (XX.out.trans X)
   clear X c0 c1 c2 c3 m00 m01 m02 m03 m10 m11 m12 m13 m20 m21 m22 m23 m30 m31 m32 m33
   obtain ⟨c0, c1, c2, c3⟩ := cellx XX.out G0.out
   obtain ⟨m00, m01, m02, m03⟩ := kid' XX.out HBW.out KK0.out
   obtain ⟨m10, m11, m12, m13⟩ := kid' XX.out HBW.out KK1.out
   obtain ⟨m20, m21, m22, m23⟩ := kid' XX.out HBW.out KK2.out
   obtain ⟨m30, m31, m32, m33⟩ := kid' XX.out HBW.out KK3.out
   go_wp2_with fail
   refine (C3.out _ XX.out).mono ?_
   rintro e w2 ⟨rfl, X⟩
   have XX := hid (XX.out.trans X)
   clear X c0 c1 c2 c3 m00 m01 m02 m03 m10 m11 m12 m13 m20 m21 m22 m23 m30 m31 m32 m33
   obtain ⟨c0, c1, c2, c3⟩ := cellx XX.out G0.out
   obtain ⟨m00, m01, m02, m03⟩ := kid' XX.out HBW.out KK0.out
   obtain ⟨m10, m11, m12, m13⟩ := kid' XX.out HBW.out KK1.out
   obtain ⟨m20, m21, m22, m23⟩ := kid' XX.out HBW.out KK2.out
   obtain ⟨m30, m31, m32, m33⟩ := kid' XX.out HBW.out KK3.out
   go_wp2_with fail
   go_ret
   exact ⟨by first | (rw [HR.out]; done) | (rw [HR.out]; simp), X0.out.trans XX.out⟩
  have z0 : ((t.kid 0).kind != 0) = true := by simpa using h0
  have hql0 := QL0.out h0
  have C0 := hid fun W (X : Ext none' W0 W) => C0.out h0 _ W (ndvx HZ0.out X)
  have z1 : ((t.kid 1).kind != 0) = false := by simp [h1]
  have z2 : ((t.kid 2).kind != 0) = true := by simpa using h2
  have hql2 := QL2.out h2
  have C2 := hid fun W (X : Ext none' W0 W) => C2.out h2 _ W (ndvx HZ2.out X)
  have HR := hid (show r = [102, 111, 114, 32] ++ (q0) ++ ([59, 32]) ++ ([59, 32]) ++ (q2 ++ [32]) ++ (q3) by rw [HR.out]; simp [h0, h1, h2])
  clear h0 h1 h2
  have cat48 := str_cat ([102, 111, 114, 32]) (q0)
  have cat49 := str_cat ([102, 111, 114, 32] ++ (q0)) ([59, 32])
  have cat50 := str_cat ([102, 111, 114, 32] ++ (q0) ++ ([59, 32])) ([59, 32])
  have cat51 := str_cat (q2) ([32])
  have cat52 := str_cat ([102, 111, 114, 32] ++ (q0) ++ ([59, 32]) ++ ([59, 32])) (q2 ++ [32])
  have cat53 := str_cat ([102, 111, 114, 32] ++ (q0) ++ ([59, 32]) ++ ([59, 32]) ++ (q2 ++ [32])) (q3)
  simp only [List.append_assoc, List.cons_append, List.nil_append] at cat48 cat49 cat50 cat51 cat52 cat53
  go_wp2_with fail
  refine (C0.out _ XX.out).mono ?_
  rintro e w1 ⟨rfl, X⟩
  have XX := hid (XX.out.trans X)
  clear X c0 c1 c2 c3 m00 m01 m02 m03 m10 m11 m12 m13 m20 m21 m22 m23 m30 m31 m32 m33
  obtain ⟨c0, c1, c2, c3⟩ := cellx XX.out G0.out
  obtain ⟨m00, m01, m02, m03⟩ := kid' XX.out HBW.out KK0.out
  obtain ⟨m10, m11, m12, m13⟩ := kid' XX.out HBW.out KK1.out
  obtain ⟨m20, m21, m22, m23⟩ := kid' XX.out HBW.out KK2.out
  obtain ⟨m30, m31, m32, m33⟩ := kid' XX.out HBW.out KK3.out
  go_wp2_with fail
  refine (C2.out _ XX.out).mono ?_
  rintro e w2 ⟨rfl, X⟩
  have XX := hid (XX.out.trans X)
  clear X c0 c1 c2 c3 m00 m01 m02 m03 m10 m11 m12 m13 m20 m21 m22 m23 m30 m31 m32 m33
  obtain ⟨c0, c1, c2, c3⟩ := cellx XX.out G0.out
  obtain ⟨m00, m01, m02, m03⟩ := kid' XX.out HBW.out KK0.out
  obtain ⟨m10, m11, m12, m13⟩ := kid' XX.out HBW.out KK1.out
  obtain ⟨m20, m21, m22, m23⟩ := kid' XX.out HBW.out KK2.out
  obtain ⟨m30, m31, m32, m33⟩ := kid' XX.out HBW.out KK3.out
  go_wp2_with fail
  refine (C3.out _ XX.out).mono ?_
  rintro e w3 ⟨rfl, X⟩
  have XX := hid (XX.out.trans X)
  clear X c0 c1 c2 c3 m00 m01 m02 m03 m10 m11 m12 m13 m20 m21 m22 m23 m30 m31 m32 m33
  obtain ⟨c0, c1, c2, c3⟩ := cellx XX.out G0.out
  obtain ⟨m00, m01, m02, m03⟩ := kid' XX.out HBW.out KK0.out
  obtain ⟨m10, m11, m12, m13⟩ := kid' XX.out HBW.out KK1.out
  obtain ⟨m20, m21, m22, m23⟩ := kid' XX.out HBW.out KK2.out
  obtain ⟨m30, m31, m32, m33⟩ := kid' XX.out HBW.out KK3.out
  go_wp2_with fail
  go_ret
  exact ⟨by first | (rw [HR.out]; done) | (rw [HR.out]; simp), X0.out.trans XX.out⟩
 by_cases h2 : (t.kid 2).kind = 0
 case pos =>
  have z0 : ((t.kid 0).kind != 0) = true := by simpa using h0
  have hql0 := QL0.out h0
  have C0 := hid fun W (X : Ext none' W0 W) => C0.out h0 _ W (ndvx HZ0.out X)
  have z1 : ((t.kid 1).kind != 0) = true := by simpa using h1
  have hql1 := QL1.out h1
  have C1 := hid fun W (X : Ext none' W0 W) => C1.out h1 _ W (ndvx HZ1.out X)
  have z2 : ((t.kid 2).kind != 0) = false := by simp [h2]
  have HR := hid (show r = [102, 111, 114, 32] ++ (q0) ++ ([59, 32]) ++ (q1) ++ ([59, 32]) ++ (q3) by rw [HR.out]; simp [h0, h1, h2])
  clear h0 h1 h2
  have cat54 := str_cat ([102, 111, 114, 32]) (q0)
  have cat55 := str_cat ([102, 111, 114, 32] ++ (q0)) ([59, 32])
  have cat56 := str_cat ([102, 111, 114, 32] ++ (q0) ++ ([59, 32])) (q1)
  have cat57 := str_cat ([102, 111, 114, 32] ++ (q0) ++ ([59, 32]) ++ (q1)) ([59, 32])
  have cat58 := str_cat ([102, 111, 114, 32] ++ (q0) ++ ([59, 32]) ++ (q1) ++ ([59, 32])) (q3)
  simp only [List.append_assoc, List.cons_append, List.nil_append] at cat54 cat55 cat56 cat57 cat58
  go_wp2_with fail
  refine (C0.out _ XX.out).mono ?_
  rintro e w1 ⟨rfl, X⟩
  have XX := hid (XX.out.trans X)
  clear X c0 c1 c2 c3 m00 m01 m02 m03 m10 m11 m12 m13 m20 m21 m22 m23 m30 m31 m32 m33
  obtain ⟨c0, c1, c2, c3⟩ := cellx XX.out G0.out
  obtain ⟨m00, m01, m02, m03⟩ := kid' XX.out HBW.out KK0.out
  obtain ⟨m10, m11, m12, m13⟩ := kid' XX.out HBW.out KK1.out
  obtain ⟨m20, m21, m22, m23⟩ := kid' XX.out HBW.out KK2.out
  obtain ⟨m30, m31, m32, m33⟩ := kid' XX.out HBW.out KK3.out
  go_wp2_with fail
  refine (C1.out _ XX.out).mono ?_
  rintro e w2 ⟨rfl, X⟩
  have XX := hid (XX.out.trans X)
  clear X c0 c1 c2 c3 m00 m01 m02 m03 m10 m11 m12 m13 m20 m21 m22 m23 m30 m31 m32 m33
  obtain ⟨c0, c1, c2, c3⟩ := cellx XX.out G0.out
  obtain ⟨m00, m01, m02, m03⟩ := kid' XX.out HBW.out KK0.out
  obtain ⟨m10, m11, m12, m13⟩ := kid' XX.out HBW.out KK1.out
  obtain ⟨m20, m21, m22, m23⟩ := kid' XX.out HBW.out KK2.out
  obtain ⟨m30, m31, m32, m33⟩ := kid' XX.out HBW.out KK3.out
  go_wp2_with fail
  refine (C3.out _ XX.out).mono ?_
  rintro e w3 ⟨rfl, X⟩
  have XX := hid (XX.out.trans X)
  clear X c0 c1 c2 c3 m00 m01 m02 m03 m10 m11 m12 m13 m20 m21 m22 m23 m30 m31 m32 m33
  obtain ⟨c0, c1, c2, c3⟩ := cellx XX.out G0.out
  obtain ⟨m00, m01, m02, m03⟩ := kid' XX.out HBW.out KK0.out
  obtain ⟨m10, m11, m12, m13⟩ := kid' XX.out HBW.out KK1.out
  obtain ⟨m20, m21, m22, m23⟩ := kid' XX.out HBW.out KK2.out
  obtain ⟨m30, m31, m32, m33⟩ := kid' XX.out HBW.out KK3.out
  go_wp2_with fail
  go_ret
  exact ⟨by first | (rw [HR.out]; done) | (rw [HR.out]; simp), X0.out.trans XX.out⟩
 have z0 : ((t.kid 0).kind != 0) = true := by simpa using h0
 have hql0 := QL0.out h0
 have C0 := hid fun W (X : Ext none' W0 W) => C0.out h0 _ W (ndvx HZ0.out X)
 have z1 : ((t.kid 1).kind != 0) = true := by simpa using h1
 have hql1 := QL1.out h1
 have C1 := hid fun W (X : Ext none' W0 W) => C1.out h1 _ W (ndvx HZ1.out X)
 have z2 : ((t.kid 2).kind != 0) = true := by simpa using h2
 have hql2 := QL2.out h2
 have C2 := hid fun W (X : Ext none' W0 W) => C2.out h2 _ W (ndvx HZ2.out X)
 have HR := hid (show r = [102, 111, 114, 32] ++ (q0) ++ ([59, 32]) ++ (q1) ++ ([59, 32]) ++ (q2 ++ [32]) ++ (q3) by rw [HR.out]; simp [h0, h1, h2])
 clear h0 h1 h2
 have cat59 := str_cat ([102, 111, 114, 32]) (q0)
 have cat60 := str_cat ([102, 111, 114, 32] ++ (q0)) ([59, 32])
 have cat61 := str_cat ([102, 111, 114, 32] ++ (q0) ++ ([59, 32])) (q1)
 have cat62 := str_cat ([102, 111, 114, 32] ++ (q0) ++ ([59, 32]) ++ (q1)) ([59, 32])
 have cat63 := str_cat (q2) ([32])
 have cat64 := str_cat ([102, 111, 114, 32] ++ (q0) ++ ([59, 32]) ++ (q1) ++ ([59, 32])) (q2 ++ [32])
 have cat65 := str_cat ([102, 111, 114, 32] ++ (q0) ++ ([59, 32]) ++ (q1) ++ ([59, 32]) ++ (q2 ++ [32])) (q3)
 simp only [List.append_assoc, List.cons_append, List.nil_append] at cat59 cat60 cat61 cat62 cat63 cat64 cat65
 go_wp2_with fail
 refine (C0.out _ XX.out).mono ?_
 rintro e w1 ⟨rfl, X⟩
 have XX := hid (XX.out.trans X)
 clear X c0 c1 c2 c3 m00 m01 m02 m03 m10 m11 m12 m13 m20 m21 m22 m23 m30 m31 m32 m33
 obtain ⟨c0, c1, c2, c3⟩ := cellx XX.out G0.out
 obtain ⟨m00, m01, m02, m03⟩ := kid' XX.out HBW.out KK0.out
 obtain ⟨m10, m11, m12, m13⟩ := kid' XX.out HBW.out KK1.out
 obtain ⟨m20, m21, m22, m23⟩ := kid' XX.out HBW.out KK2.out
 obtain ⟨m30, m31, m32, m33⟩ := kid' XX.out HBW.out KK3.out
 go_wp2_with fail
 refine (C1.out _ XX.out).mono ?_
 rintro e w2 ⟨rfl, X⟩
 have XX := hid (XX.out.trans X)
 clear X c0 c1 c2 c3 m00 m01 m02 m03 m10 m11 m12 m13 m20 m21 m22 m23 m30 m31 m32 m33
 obtain ⟨c0, c1, c2, c3⟩ := cellx XX.out G0.out
 obtain ⟨m00, m01, m02, m03⟩ := kid' XX.out HBW.out KK0.out
 obtain ⟨m10, m11, m12, m13⟩ := kid' XX.out HBW.out KK1.out
 obtain ⟨m20, m21, m22, m23⟩ := kid' XX.out HBW.out KK2.out
 obtain ⟨m30, m31, m32, m33⟩ := kid' XX.out HBW.out KK3.out
 go_wp2_with fail
 refine (C2.out _ XX.out).mono ?_
 rintro e w3 ⟨rfl, X⟩
 have XX := hid (XX.out.trans X)
 clear X c0 c1 c2 c3 m00 m01 m02 m03 m10 m11 m12 m13 m20 m21 m22 m23 m30 m31 m32 m33
 obtain ⟨c0, c1, c2, c3⟩ := cellx XX.out G0.out
 obtain ⟨m00, m01, m02, m03⟩ := kid' XX.out HBW.out KK0.out
 obtain ⟨m10, m11, m12, m13⟩ := kid' XX.out HBW.out KK1.out
 obtain ⟨m20, m21, m22, m23⟩ := kid' XX.out HBW.out KK2.out
 obtain ⟨m30, m31, m32, m33⟩ := kid' XX.out HBW.out KK3.out
 go_wp2_with fail
 refine (C3.out _ XX.out).mono ?_
 rintro e w4 ⟨rfl, X⟩
 have XX := hid (XX.out.trans X)
 clear X c0 c1 c2 c3 m00 m01 m02 m03 m10 m11 m12 m13 m20 m21 m22 m23 m30 m31 m32 m33
 obtain ⟨c0, c1, c2, c3⟩ := cellx XX.out G0.out
 obtain ⟨m00, m01, m02, m03⟩ := kid' XX.out HBW.out KK0.out
 obtain ⟨m10, m11, m12, m13⟩ := kid' XX.out HBW.out KK1.out
 obtain ⟨m20, m21, m22, m23⟩ := kid' XX.out HBW.out KK2.out
 obtain ⟨m30, m31, m32, m33⟩ := kid' XX.out HBW.out KK3.out
 go_wp2_with fail
 go_ret
 exact ⟨by first | (rw [HR.out]; done) | (rw [HR.out]; simp), X0.out.trans XX.out⟩
theorem rx_step7 (f : Nat) (hf : f + 1 ≤ 1100000) (H : REx7 f) (HS : RSt7 f) : REx7 (f + 1) := by
 intro deep head hd t ht he v w hv
 rw [exF_succ] at he
 rw [exT_succ]
 unfold exB at he
 unfold exT1
 by_cases h16 : t.kind = 16
 · rw [if_pos h16] at he
   rw [if_neg (by omega), if_neg (by omega), if_neg (by omega), if_neg (by omega), if_neg (by omega), if_neg (by omega), if_neg (by omega), if_neg (by omega)]
   have h := rx_int f hf H deep head hd t ht h16 he v w hv
   rwa [List.append_nil] at h
 rw [if_neg h16] at he
 by_cases h17 : t.kind = 17
 · rw [if_pos h17] at he ⊢
   exact rx_str f hf H deep head hd t ht h17 he v w hv
 rw [if_neg h17] at he ⊢
 by_cases h18 : t.kind = 18
 · rw [if_pos h18] at he
   rw [if_neg (by omega), if_neg (by omega), if_neg (by omega), if_neg (by omega), if_neg (by omega), if_neg (by omega), if_neg (by omega)]
   have h := rx_name f hf H deep head hd t ht h18 he v w hv
   rwa [List.append_nil] at h
 rw [if_neg h18] at he
 by_cases h19 : t.kind = 19
 · rw [if_pos h19] at he ⊢
   exact rx_un f hf H deep head hd t ht h19 he v w hv
 rw [if_neg h19] at he ⊢
 by_cases h20 : t.kind = 20
 · rw [if_pos h20] at he ⊢
   exact rx_bin f hf H deep head hd t ht h20 he v w hv
 rw [if_neg h20] at he ⊢
 by_cases h21 : t.kind = 21
 · rw [if_pos h21] at he ⊢
   exact rx_call f hf H deep head hd t ht h21 he v w hv
 rw [if_neg h21] at he ⊢
 by_cases h22 : t.kind = 22
 · rw [if_pos h22] at he ⊢
   exact rx_idx f hf H deep head hd t ht h22 he v w hv
 rw [if_neg h22] at he ⊢
 by_cases h23 : t.kind = 23
 · rw [if_pos h23] at he ⊢
   exact rx_field f hf H deep head hd t ht h23 he v w hv
 rw [if_neg h23] at he ⊢
 by_cases h24 : t.kind = 24
 · rw [if_pos h24] at he ⊢
   exact rx_lit f hf H deep head hd t ht h24 he v w hv
 rw [if_neg h24] at he ⊢
 have h25 := (ofB_parts he).1
 rw [if_pos h25]
 exact rx_func f hf H deep head hd HS t ht h25 he v w hv
theorem rst_step7 (f : Nat) (hf : f + 1 ≤ 1100000) (H : REx7 f) (HS : RSt7 f) : RSt7 (f + 1) := by
 intro deep hd t ht he v w hv
 rw [stF_succ] at he
 rw [stT_succ]
 unfold stB at he
 unfold stT1
 by_cases h5 : t.kind = 5
 · rw [if_pos h5] at he ⊢
   exact rs7_var f hf H deep hd t ht h5 he v w hv
 rw [if_neg h5] at he ⊢
 by_cases h26 : t.kind = 26
 · rw [if_pos h26] at he
   rw [if_pos (.inl h26)]
   exact rsim_any f hf H deep false hd t ht (.inl he) v w hv
 rw [if_neg h26] at he
 by_cases h27 : t.kind = 27
 · rw [if_pos h27] at he
   rw [if_pos (.inr (.inl h27))]
   exact rsim_any f hf H deep false hd t ht (.inr (.inl he)) v w hv
 rw [if_neg h27] at he
 by_cases h28 : t.kind = 28
 · rw [if_pos h28] at he
   rw [if_pos (.inr (.inr (.inl h28)))]
   exact rsim_any f hf H deep false hd t ht (.inr (.inr (.inl he))) v w hv
 rw [if_neg h28] at he
 by_cases h29 : t.kind = 29
 · rw [if_pos h29] at he
   rw [if_pos (.inr (.inr (.inr h29)))]
   exact rsim_any f hf H deep false hd t ht (.inr (.inr (.inr he))) v w hv
 rw [if_neg h29] at he
 rw [if_neg (by omega)]
 by_cases h30 : t.kind = 30
 · rw [if_pos h30] at he ⊢
   exact rs7_if f hf H HS deep hd t ht h30 he v w hv
 rw [if_neg h30] at he ⊢
 by_cases h31 : t.kind = 31
 · rw [if_pos h31] at he ⊢
   exact rs7_for f hf H HS deep hd t ht h31 he v w hv
 rw [if_neg h31] at he ⊢
 by_cases h32 : t.kind = 32
 · rw [if_pos h32] at he ⊢
   exact rs7_range f hf H HS deep hd t ht h32 he v w hv
 rw [if_neg h32] at he ⊢
 by_cases h33 : t.kind = 33
 · rw [if_pos h33] at he ⊢
   exact rs7_return f hf H deep hd t ht h33 he v w hv
 rw [if_neg h33] at he ⊢
 by_cases h34 : t.kind = 34
 · rw [if_pos h34]
   exact rs7_break f hf deep hd t ht h34 v w hv
 rw [if_neg h34] at he ⊢
 by_cases h35 : t.kind = 35
 · rw [if_pos h35]
   exact rs7_cont f hf deep hd t ht h35 v w hv
 rw [if_neg h35] at he ⊢
 have h36 : t.kind = 36 := by
  unfold blkB at he
  simp only [Bool.and_eq_true, beq_iff_eq] at he
  exact he.1
 exact rs7_block f hf HS deep hd t ht h36 he v w hv
theorem rall7 : ∀ (f : Nat), f ≤ 1100000 → REx7 f ∧ RSt7 f
 | 0, _ => ⟨fun _ _ _ t ht => by have := t.size_pos; omega, fun _ _ t ht => by have := t.size_pos; omega⟩
 | f + 1, hf => by
  have ih := rall7 f (by omega)
  exact ⟨rx_step7 f hf ih.1 ih.2, rst_step7 f hf ih.1 ih.2⟩
theorem parsT_len' {f : Nat} {t : Nd} (ht : t.size ≤ f) (he : parsB (tyF nmB f) t = true) : (parsT (typF f) t).length ≤ 4000000 * t.size := by
 have hps := pars_kids he
 have hsz := size_kids t
 have hty : ∀ x ∈ t.kids, (parT (typF f) x).length + 10 ≤ 4000000 * x.size := fun x hx' => by
  have h2 := kid_size (t := x) (i := 0) (by have := (hps x hx').2.2.1; omega)
  have h1 := inT_len' (f := f) (t := x.kid 0) (by have := Nd.size_kid hx'; omega) (hps x hx').2.2.2
  have h3 := (hps x hx').2.1
  unfold parT
  simp only [List.length_append, List.length_cons, List.length_nil]
  omega
 unfold parsT
 split
 · simp
 · have h4 := jn_len (p := parT (typF f)) (sep := sComma) (l := t.kids) (by decide) hty t.kids.length
   rw [jn_all] at h4
   have h5 : (Lib.join (t.kids.map fun x => x.text ++ [32] ++ inT (typF f) (x.kid 0)) sComma).length ≤ 4000000 * Nd.sizeL t.kids := h4
   simp only [List.length_append, List.length_cons, List.length_nil]
   omega
theorem rd7_alias (f : Nat) (hf : f + 1 ≤ 1100000)  (t : Nd) (ht : t.size ≤ f + 1) (hk : t.kind = 4) (he : namB nmB 4 [parsB (tyF nmB f), tyF nmB f] t = true) (v : Value) (w : World) (hv : NdV none' w t v) :
 Calls Tryz.prog 26 #[v] w (StrPost ([116, 121, 112, 101, 32] ++ t.text ++ parsT (typF f) (t.kid 0) ++ [32, 61, 32] ++ typF f (t.kid 1)) w) := by
 obtain ⟨a1, cap1, rfl, hcap, HV, HY⟩ := nd_open hv
 have hkl : t.kids.length ≤ 1100000 := by have := t.kids_len; omega
 obtain ⟨r, hr⟩ : ∃ r, r = ([116, 121, 112, 101, 32] ++ t.text ++ parsT (typF f) (t.kid 0) ++ [32, 61, 32] ++ typF f (t.kid 1)) := ⟨_, rfl⟩
 rw [← hr]
 have HT := hid ht
 have HF := hid hf
 obtain ⟨_, htn, h3⟩ := namB_parts he
 obtain ⟨x, y, hkx, hx1, hy1⟩ := two_kids h3
 obtain ⟨hx0, hy0⟩ := kid_two hkx
 have hl0 : 0 < t.kids.length := by rw [hkx]; simp
 have hl1 : 1 < t.kids.length := by rw [hkx]; simp
 rw [← hx0] at hx1
 rw [← hy0] at hy1
 clear hx0 hy0
 have htl := nmB_len _ htn
 have hks0 : (t.kid 0).size ≤ f := by have := kid_size (t := t) (i := 0) (by omega); omega
 have C0 := hid fun v' W (hv' : NdV none' W (t.kid 0) v') => rparst_any f hf (t.kid 0) (by omega) hx1 v' W hv'
 have hql0 : (parsT (typF f) (t.kid 0)).length ≤ 10000000000000 := by have := parsT_len' hks0 hx1; omega
 obtain ⟨q0, hq0⟩ : ∃ q, parsT (typF f) (t.kid 0) = q := ⟨_, rfl⟩
 rw [hq0] at C0 hql0 hr
 clear hks0 hq0
 have hks1 : (t.kid 1).size ≤ f := by have := kid_size (t := t) (i := 1) (by omega); omega
 have C1 := hid fun v' W (hv' : NdV none' W (t.kid 1) v') => rtx_any f (by omega) (t.kid 1) hks1 hy1 v' W hv'
 have hql1 : (typF f (t.kid 1)).length ≤ 10000000000000 := by have := ty_len hy1 hks1; omega
 obtain ⟨q1, hq1⟩ : ∃ q, typF f (t.kid 1) = q := ⟨_, rfl⟩
 rw [hq1] at C1 hql1 hr
 have y0 : (0 : Int) < (t.kids.length : Int) := by omega
 have y1 : (1 : Int) < (t.kids.length : Int) := by omega
 have HR := hid hr
 have HK := hid hk
 rw [hk] at HV ⊢
 obtain ⟨tx, htx⟩ : ∃ k, t.text = k := ⟨_, rfl⟩
 have HTX := hid htx
 rw [htx] at HV htl ⊢
 try rw [htx] at HR
 obtain ⟨B, W0, hB, hW0, X0, G0⟩ := boxed w (.cells #[.int .i64 4, .string ⟨tx.toArray⟩, .slice a1 t.kids.length cap1, .int .i64 t.pos] 24)
 have XX := hid (Ext.refl none' W0)
 clear hr htx ht hf hk he htn h3 hkx hx1 hy1 hks1 hq1
 go_enter Tryz.func26, Tryz.ntmps26
 go_upto_region 1 with (fail)
 rw [← hW0, ← hB]
 clear hW0 hB
 have cat11 := str_cat ([116, 121, 112, 101, 32]) (tx)
 have cat12 := str_cat ([116, 121, 112, 101, 32] ++ tx) (q0)
 have cat13 := str_cat ([116, 121, 112, 101, 32] ++ tx ++ q0) ([32, 61, 32])
 have cat14 := str_cat ([116, 121, 112, 101, 32] ++ tx ++ q0 ++ [32, 61, 32]) (q1)
 simp only [List.append_assoc, List.cons_append, List.nil_append] at cat11 cat12 cat13 cat14
 obtain ⟨c0, c1, c2, c3⟩ := cellx XX.out G0.out
 obtain ⟨b, off, ka0, kc0, rfl, HBW, HZ0, KK0⟩ := kidA (HY.out.ext isNd_good X0.out fun _ _ h => h) (by omega)
 obtain ⟨ka1, kc1, HZ1, KK1⟩ := kidB (HY.out.ext isNd_good X0.out fun _ _ h => h) 1 4 rfl (by omega)
 have C0 := hid fun W (X : Ext none' W0 W) => C0.out _ W (ndvx HZ0.out X)
 have C1 := hid fun W (X : Ext none' W0 W) => C1.out _ W (ndvx HZ1.out X)
 go_upto_region 16 with (fail)
 clear c0 c1 c2 c3
 have c1 := fun t' : LaterF none' W0 => cell_at ((XX.out.trans t'.x).heap G0.out fun h => h) 1
 have c2 := fun t' : LaterF none' W0 => cell_at ((XX.out.trans t'.x).heap G0.out fun h => h) 2
 simp only [List.getElem?_toArray, List.getElem?_cons_zero, List.getElem?_cons_succ] at c1 c2
 obtain ⟨m00, m01, m02, m03⟩ := kidL (w1 := W0) XX.out HBW.out KK0.out
 obtain ⟨m10, m11, m12, m13⟩ := kidL (w1 := W0) XX.out HBW.out KK1.out
 refine region_q none' W0 (.qs [0, 1, 2, 3, 4, 5, 6, 10, 11, 12, 13] (.one 7 true (.qs [8, 9] (.one 14 true (.qs [15, 16] .fin))))) (by kernel_rfl) (by kernel_rfl) (fun dst v c a w h => by cases dst <;> exact h) ?_
 refine ⟨In.of (Ext.refl _ _).drew, ?_⟩
 change wpQuiet _ _ (fun w' => ∃ t : LaterF none' W0, w' = t.w) _ _ _
 simp only [sel, List.getElem?_cons_succ, List.getElem?_cons_zero]
 repeat (go_big_quiet_step (fail))
 refine wpQuiet_nil ?_
 simp only [wpTreeQ, stepT, sel, List.getElem?_cons_succ, List.getElem?_cons_zero]
 have D1 := hid (Ext.refl none' W0).drew
 clear c1 c2 m00 m01 m02 m03 m10 m11 m12 m13
 go_wp2_with fail
 refine (C0.out _ D1.out).mono ?_
 rintro e w2 ⟨rfl, X2⟩
 have XX := hid (D1.out.trans X2)
 clear X2
 go_wp2_with fail
 refine ⟨In.of XX.out, In.of XX.out, ?_⟩
 change wpQuiet _ _ (fun w' => ∃ t : LaterF none' W0, w' = t.w) _ _ _
 repeat (go_big_quiet_step (fail))
 refine wpQuiet_nil ?_
 go_wp2_with fail
 refine (C1.out _ XX.out).mono ?_
 rintro e w3 ⟨rfl, X⟩
 have XX := hid (XX.out.trans X)
 clear X 
 go_wp2_with fail
 refine ⟨In.of XX.out, In.of XX.out, ?_⟩
 change wpQuiet _ _ (fun w' => ∃ t : LaterF none' W0, w' = t.w) _ _ _
 repeat (go_big_quiet_step (fail))
 refine wpQuiet_nil ?_
 go_wp2_with fail
 go_ret
 exact ⟨by first | (rw [HR.out]; done) | (rw [HR.out]; simp), X0.out.trans XX.out⟩
theorem rd7_func (f : Nat) (hf : f + 1 ≤ 1100000) (HS : RSt7 f) (t : Nd) (ht : t.size ≤ f + 1) (hk : t.kind = 2) (he : namB nmB 2 [parsB (tyF nmB f), sigB (tyF nmB f) nmB, blkB (stF f)] t = true) (v : Value) (w : World) (hv : NdV none' w t v) :
 Calls Tryz.prog 26 #[v] w (StrPost ([102, 117, 110, 99, 32] ++ t.text ++ parsT (typF f) (t.kid 0) ++ sigT (typF f) (t.kid 1) ++ [32] ++ blT (stT f) 0 (t.kid 2)) w) := by
 obtain ⟨a1, cap1, rfl, hcap, HV, HY⟩ := nd_open hv
 have hkl : t.kids.length ≤ 1100000 := by have := t.kids_len; omega
 obtain ⟨r, hr⟩ : ∃ r, r = ([102, 117, 110, 99, 32] ++ t.text ++ parsT (typF f) (t.kid 0) ++ sigT (typF f) (t.kid 1) ++ [32] ++ blT (stT f) 0 (t.kid 2)) := ⟨_, rfl⟩
 rw [← hr]
 have HT := hid ht
 have HF := hid hf
 obtain ⟨_, htn, h3⟩ := namB_parts he
 obtain ⟨x, y, z, hkx, hx1, hy1, hz1⟩ := three_kids h3
 obtain ⟨hx0, hy0, hz0⟩ := kid_three hkx
 have hl2 : 2 < t.kids.length := by rw [hkx]; simp
 rw [← hx0] at hx1
 rw [← hy0] at hy1
 rw [← hz0] at hz1
 clear hx0 hy0 hz0
 have htl := nmB_len _ htn
 have hks0 : (t.kid 0).size ≤ f := by have := kid_size (t := t) (i := 0) (by omega); omega
 have C0 := hid fun v' W (hv' : NdV none' W (t.kid 0) v') => rparst_any f hf (t.kid 0) (by omega) hx1 v' W hv'
 have hql0 : (parsT (typF f) (t.kid 0)).length ≤ 10000000000000 := by have := parsT_len' hks0 hx1; omega
 obtain ⟨q0, hq0⟩ : ∃ q, parsT (typF f) (t.kid 0) = q := ⟨_, rfl⟩
 rw [hq0] at C0 hql0 hr
 clear hks0 hq0
 have hks1 : (t.kid 1).size ≤ f := by have := kid_size (t := t) (i := 1) (by omega); omega
 have C1 := hid fun v' W (hv' : NdV none' W (t.kid 1) v') => rsigt_any f hf (rtx_any f (by omega)) (t.kid 1) (by omega) nmB nmB_len hy1 v' W hv'
 have hql1 : (sigT (typF f) (t.kid 1)).length ≤ 10000000000000 := by have := sigT_len nmB_len hy1 (show (t.kid 1).size ≤ f + 1 by omega); omega
 obtain ⟨q1, hq1⟩ : ∃ q, sigT (typF f) (t.kid 1) = q := ⟨_, rfl⟩
 rw [hq1] at C1 hql1 hr
 have hks2 : (t.kid 2).size ≤ f := by have := kid_size (t := t) (i := 2) (by omega); omega
 have hbl := blk_len (deep := 0) (st := stT f) (f := f) (by omega) (fun z hm hz => (lens_all f (0 + 1) (by omega)).2 z (by have := Nd.size_kid hm; omega) hz) hz1
 have C2 := hid fun v' W (hv' : NdV none' W (t.kid 2) v') => (show Calls Tryz.prog 65 #[v', .int .i64 0] W (StrPost (blT (stT f) 0 (t.kid 2)) W) from rblockt_any f hf HS 0 (by omega) (t.kid 2) (by omega) hz1 v' W hv')
 have hql2 : (blT (stT f) 0 (t.kid 2)).length ≤ 10000000000000 := by omega
 obtain ⟨q2, hq2⟩ : ∃ q, blT (stT f) 0 (t.kid 2) = q := ⟨_, rfl⟩
 rw [hq2] at C2 hql2 hr
 have y0 : (0 : Int) < (t.kids.length : Int) := by omega
 have y1 : (1 : Int) < (t.kids.length : Int) := by omega
 have y2 : (2 : Int) < (t.kids.length : Int) := by omega
 have HR := hid hr
 have HK := hid hk
 rw [hk] at HV ⊢
 obtain ⟨tx, htx⟩ : ∃ k, t.text = k := ⟨_, rfl⟩
 have HTX := hid htx
 rw [htx] at HV htl ⊢
 try rw [htx] at HR
 obtain ⟨B, W0, hB, hW0, X0, G0⟩ := boxed w (.cells #[.int .i64 2, .string ⟨tx.toArray⟩, .slice a1 t.kids.length cap1, .int .i64 t.pos] 24)
 have XX := hid (Ext.refl none' W0)
 clear hr htx ht hf hk he HS htn h3 hkx hx1 hy1 hz1 hks1 hks2 hbl hq1 hq2
 go_enter Tryz.func26, Tryz.ntmps26
 go_upto_region 1 with (fail)
 rw [← hW0, ← hB]
 clear hW0 hB
 have cat15 := str_cat ([102, 117, 110, 99, 32]) (tx)
 have cat16 := str_cat ([102, 117, 110, 99, 32] ++ tx) (q0)
 have cat17 := str_cat ([102, 117, 110, 99, 32] ++ tx ++ q0) (q1)
 have cat18 := str_cat ([102, 117, 110, 99, 32] ++ tx ++ q0 ++ q1) ([32])
 have cat19 := str_cat ([102, 117, 110, 99, 32] ++ tx ++ q0 ++ q1 ++ [32]) (q2)
 simp only [List.append_assoc, List.cons_append, List.nil_append] at cat15 cat16 cat17 cat18 cat19
 obtain ⟨c0, c1, c2, c3⟩ := cellx XX.out G0.out
 obtain ⟨b, off, ka0, kc0, rfl, HBW, HZ0, KK0⟩ := kidA (HY.out.ext isNd_good X0.out fun _ _ h => h) (by omega)
 obtain ⟨ka1, kc1, HZ1, KK1⟩ := kidB (HY.out.ext isNd_good X0.out fun _ _ h => h) 1 4 rfl (by omega)
 obtain ⟨ka2, kc2, HZ2, KK2⟩ := kidB (HY.out.ext isNd_good X0.out fun _ _ h => h) 2 8 rfl (by omega)
 have C0 := hid fun W (X : Ext none' W0 W) => C0.out _ W (ndvx HZ0.out X)
 have C1 := hid fun W (X : Ext none' W0 W) => C1.out _ W (ndvx HZ1.out X)
 have C2 := hid fun W (X : Ext none' W0 W) => C2.out _ W (ndvx HZ2.out X)
 go_upto_region 3 with (fail)
 clear c0 c1 c2 c3
 have c1 := fun t' : LaterF none' W0 => cell_at ((XX.out.trans t'.x).heap G0.out fun h => h) 1
 have c2 := fun t' : LaterF none' W0 => cell_at ((XX.out.trans t'.x).heap G0.out fun h => h) 2
 simp only [List.getElem?_toArray, List.getElem?_cons_zero, List.getElem?_cons_succ] at c1 c2
 obtain ⟨m00, m01, m02, m03⟩ := kidL (w1 := W0) XX.out HBW.out KK0.out
 obtain ⟨m10, m11, m12, m13⟩ := kidL (w1 := W0) XX.out HBW.out KK1.out
 obtain ⟨m20, m21, m22, m23⟩ := kidL (w1 := W0) XX.out HBW.out KK2.out
 refine region_q none' W0 (.qs [0, 1, 2, 3, 4, 5, 6, 9, 10, 11, 12, 16, 17, 18, 19] (.one 7 true (.qs [8] (.one 13 true (.qs [14, 15] (.one 20 true (.qs [21, 22] .fin))))))) (by kernel_rfl) (by kernel_rfl) (fun dst v c a w h => by cases dst <;> exact h) ?_
 refine ⟨In.of (Ext.refl _ _).drew, ?_⟩
 change wpQuiet _ _ (fun w' => ∃ t : LaterF none' W0, w' = t.w) _ _ _
 simp only [sel, List.getElem?_cons_succ, List.getElem?_cons_zero]
 repeat (go_big_quiet_step (fail))
 refine wpQuiet_nil ?_
 simp only [wpTreeQ, stepT, sel, List.getElem?_cons_succ, List.getElem?_cons_zero]
 have D1 := hid (Ext.refl none' W0).drew
 clear c1 c2 m00 m01 m02 m03 m10 m11 m12 m13 m20 m21 m22 m23
 go_wp2_with fail
 refine (C0.out _ D1.out).mono ?_
 rintro e w2 ⟨rfl, X2⟩
 have XX := hid (D1.out.trans X2)
 clear X2
 go_wp2_with fail
 refine ⟨In.of XX.out, In.of XX.out, ?_⟩
 change wpQuiet _ _ (fun w' => ∃ t : LaterF none' W0, w' = t.w) _ _ _
 repeat (go_big_quiet_step (fail))
 refine wpQuiet_nil ?_
 go_wp2_with fail
 refine (C1.out _ XX.out).mono ?_
 rintro e w3 ⟨rfl, X⟩
 have XX := hid (XX.out.trans X)
 clear X 
 go_wp2_with fail
 refine ⟨In.of XX.out, In.of XX.out, ?_⟩
 change wpQuiet _ _ (fun w' => ∃ t : LaterF none' W0, w' = t.w) _ _ _
 repeat (go_big_quiet_step (fail))
 refine wpQuiet_nil ?_
 go_wp2_with fail
 refine (C2.out _ XX.out).mono ?_
 rintro e w4 ⟨rfl, X⟩
 have XX := hid (XX.out.trans X)
 clear X 
 go_wp2_with fail
 refine ⟨In.of XX.out, In.of XX.out, ?_⟩
 change wpQuiet _ _ (fun w' => ∃ t : LaterF none' W0, w' = t.w) _ _ _
 repeat (go_big_quiet_step (fail))
 refine wpQuiet_nil ?_
 go_wp2_with fail
 go_ret
 exact ⟨by first | (rw [HR.out]; done) | (rw [HR.out]; simp), X0.out.trans XX.out⟩
theorem rd7_type (f : Nat) (hf : f + 1 ≤ 1100000)  (t : Nd) (ht : t.size ≤ f + 1) (hk : t.kind = 3) (he : namB nmB 3 [parsB (tyF nmB f), orB (orB (tyF nmB f) (structB (tyF nmB f))) (interB (tyF nmB f))] t = true) (hns : (t.kid 1).kind ≠ 13) (v : Value) (w : World) (hv : NdV none' w t v) :
 Calls Tryz.prog 26 #[v] w (StrPost ([116, 121, 112, 101, 32] ++ t.text ++ parsT (typF f) (t.kid 0) ++ [32] ++ inT (typF f) (t.kid 1)) w) := by
 obtain ⟨a1, cap1, rfl, hcap, HV, HY⟩ := nd_open hv
 have hkl : t.kids.length ≤ 1100000 := by have := t.kids_len; omega
 obtain ⟨r, hr⟩ : ∃ r, r = ([116, 121, 112, 101, 32] ++ t.text ++ parsT (typF f) (t.kid 0) ++ [32] ++ inT (typF f) (t.kid 1)) := ⟨_, rfl⟩
 rw [← hr]
 have HT := hid ht
 have HF := hid hf
 obtain ⟨_, htn, h3⟩ := namB_parts he
 obtain ⟨x, y, hkx, hx1, hy1⟩ := two_kids h3
 obtain ⟨hx0, hy0⟩ := kid_two hkx
 have hl0 : 0 < t.kids.length := by rw [hkx]; simp
 have hl1 : 1 < t.kids.length := by rw [hkx]; simp
 rw [← hx0] at hx1
 rw [← hy0] at hy1
 clear hx0 hy0
 have htl := nmB_len _ htn
 have hks0 : (t.kid 0).size ≤ f := by have := kid_size (t := t) (i := 0) (by omega); omega
 have C0 := hid fun v' W (hv' : NdV none' W (t.kid 0) v') => rparst_any f hf (t.kid 0) (by omega) hx1 v' W hv'
 have hql0 : (parsT (typF f) (t.kid 0)).length ≤ 10000000000000 := by have := parsT_len' hks0 hx1; omega
 obtain ⟨q0, hq0⟩ : ∃ q, parsT (typF f) (t.kid 0) = q := ⟨_, rfl⟩
 rw [hq0] at C0 hql0 hr
 clear hks0 hq0
 have hks1 : (t.kid 1).size ≤ f := by have := kid_size (t := t) (i := 1) (by omega); omega
 have hy2 : interB (tyF nmB f) (t.kid 1) = true ∨ tyF nmB f (t.kid 1) = true := by
  unfold orB at hy1
  simp only [Bool.or_eq_true] at hy1
  rcases hy1 with (h | h) | h
  · exact .inr h
  · unfold structB at h
    simp only [Bool.and_eq_true, beq_iff_eq] at h
    exact absurd h.1 hns
  · exact .inl h
 have C1 := hid fun v' W (hv' : NdV none' W (t.kid 1) v') => rin_any f hf (t.kid 1) (by omega) (hy2.imp id fun h => ⟨hks1, h⟩) v' W hv'
 have hql1 : (inT (typF f) (t.kid 1)).length ≤ 10000000000000 := by have := inT_len' hks1 hy2; omega
 obtain ⟨q1, hq1⟩ : ∃ q, inT (typF f) (t.kid 1) = q := ⟨_, rfl⟩
 rw [hq1] at C1 hql1 hr
 have z1 : ((t.kid 1).kind != 13) = true := by simpa using hns
 have y0 : (0 : Int) < (t.kids.length : Int) := by omega
 have y1 : (1 : Int) < (t.kids.length : Int) := by omega
 have HR := hid hr
 have HK := hid hk
 rw [hk] at HV ⊢
 obtain ⟨tx, htx⟩ : ∃ k, t.text = k := ⟨_, rfl⟩
 have HTX := hid htx
 rw [htx] at HV htl ⊢
 try rw [htx] at HR
 obtain ⟨B, W0, hB, hW0, X0, G0⟩ := boxed w (.cells #[.int .i64 3, .string ⟨tx.toArray⟩, .slice a1 t.kids.length cap1, .int .i64 t.pos] 24)
 have XX := hid (Ext.refl none' W0)
 clear hr htx ht hf hk he htn h3 hkx hx1 hy1 hy2 hks1 hq1 hns
 go_enter Tryz.func26, Tryz.ntmps26
 go_upto_region 1 with (fail)
 rw [← hW0, ← hB]
 clear hW0 hB
 have cat20 := str_cat ([116, 121, 112, 101, 32]) (tx)
 have cat21 := str_cat ([116, 121, 112, 101, 32] ++ tx) (q0)
 have cat22 := str_cat ([116, 121, 112, 101, 32] ++ tx ++ q0) ([32])
 have cat23 := str_cat ([116, 121, 112, 101, 32] ++ tx ++ q0 ++ [32]) (q1)
 simp only [List.append_assoc, List.cons_append, List.nil_append] at cat20 cat21 cat22 cat23
 obtain ⟨c0, c1, c2, c3⟩ := cellx XX.out G0.out
 obtain ⟨b, off, ka0, kc0, rfl, HBW, HZ0, KK0⟩ := kidA (HY.out.ext isNd_good X0.out fun _ _ h => h) (by omega)
 obtain ⟨ka1, kc1, HZ1, KK1⟩ := kidB (HY.out.ext isNd_good X0.out fun _ _ h => h) 1 4 rfl (by omega)
 have C0 := hid fun W (X : Ext none' W0 W) => C0.out _ W (ndvx HZ0.out X)
 go_upto_region 5 with (fail)
 clear c0 c1 c2 c3
 have c1 := fun t' : LaterF none' W0 => cell_at ((XX.out.trans t'.x).heap G0.out fun h => h) 1
 have c2 := fun t' : LaterF none' W0 => cell_at ((XX.out.trans t'.x).heap G0.out fun h => h) 2
 simp only [List.getElem?_toArray, List.getElem?_cons_zero, List.getElem?_cons_succ] at c1 c2
 obtain ⟨m00, m01, m02, m03⟩ := kidL (w1 := W0) XX.out HBW.out KK0.out
 refine region_q none' W0 (.qs [0, 1, 2, 3, 4, 5, 6] (.one 7 true (.qs [8, 9, 10] .fin))) (by kernel_rfl) (by kernel_rfl) (fun dst v c a w h => by cases dst <;> exact h) ?_
 refine ⟨In.of (Ext.refl _ _).drew, ?_⟩
 change wpQuiet _ _ (fun w' => ∃ t : LaterF none' W0, w' = t.w) _ _ _
 simp only [sel, List.getElem?_cons_succ, List.getElem?_cons_zero]
 repeat (go_big_quiet_step (fail))
 refine wpQuiet_nil ?_
 simp only [wpTreeQ, stepT, sel, List.getElem?_cons_succ, List.getElem?_cons_zero]
 have D1 := hid (Ext.refl none' W0).drew
 clear c1 c2 m00 m01 m02 m03
 go_wp2_with fail
 refine (C0.out _ D1.out).mono ?_
 rintro e w2 ⟨rfl, X2⟩
 have XX := hid (D1.out.trans X2)
 clear X2
 go_wp2_with fail
 refine ⟨In.of XX.out, In.of XX.out, ?_⟩
 change wpQuiet _ _ (fun w' => ∃ t : LaterF none' W0, w' = t.w) _ _ _
 repeat (go_big_quiet_step (fail))
 refine wpQuiet_nil ?_
 obtain ⟨c0, c1, c2, c3⟩ := cellx XX.out G0.out
 obtain ⟨m10, m11, m12, m13⟩ := kid' XX.out HBW.out KK1.out
 obtain ⟨W1, hW1⟩ : ∃ W1, W1 = w2.alloc (.cells #[.int .i64 (t.kid 1).kind, .string ⟨(t.kid 1).text.toArray⟩, .slice ka1 (t.kid 1).kids.length kc1, .int .i64 (t.kid 1).pos] 24) := ⟨_, rfl⟩
 have X1 := hid (show Ext none' w2 W1 by rw [hW1]; exact (Ext.refl _ _).alloc _)
 have GB := hid (show W1.heap[w2.heap.size]? = some (.cells #[.int .i64 (t.kid 1).kind, .string ⟨(t.kid 1).text.toArray⟩, .slice ka1 (t.kid 1).kids.length kc1, .int .i64 (t.kid 1).pos] 24 (0, 0)) by rw [hW1]; exact heap_alloc_at rfl _)
 go_upto_region 6 with (fail)
 go_upto_region 7 with (fail)
 rw [← hW1]
 obtain ⟨BB, hBB⟩ : ∃ BB, BB = w2.heap.size := ⟨_, rfl⟩
 rw [← hBB] at GB ⊢
 clear hW1 hBB
 clear c0 c1 c2 c3 m10 m11 m12 m13
 have C1 := hid fun W (X : Ext none' W0 W) => C1.out _ W (ndvx HZ1.out X)
 obtain ⟨g0, g1, g2, g3⟩ := cell4 ((Ext.refl none' W1).heap GB.out fun h => h)
 go_wp2_with fail
 refine (C1.out _ (XX.out.trans X1.out)).mono ?_
 rintro e w3 ⟨rfl, X2⟩
 have XX := hid (XX.out.trans (X1.out.trans X2))
 clear X2 g0 g1 g2 g3
 go_wp2_with fail
 go_ret
 exact ⟨by first | (rw [HR.out]; done) | (rw [HR.out]; simp), X0.out.trans XX.out⟩
def fldT (ty : Nd → List UInt8) (x : Nd) : List UInt8 := [9] ++ x.text ++ [32] ++ ty (x.kid 0) ++ [10]
theorem struct_kids {f : Nat} {t : Nd} (h : structB (tyF nmB f) t = true) : ∀ x ∈ t.kids, x.text.length ≤ 100 ∧ x.kids.length = 1 ∧ tyF nmB f (x.kid 0) = true := fun x hx => by
 unfold structB at h
 simp only [Bool.and_eq_true, List.all_eq_true] at h
 obtain ⟨_, h2, h3⟩ := namB_parts (h.2.2 x hx)
 obtain ⟨y, hy, hty⟩ := one_kid h3
 exact ⟨nmB_len _ h2, by rw [hy]; rfl, by rw [kid_one hy]; exact hty⟩
theorem rd7_struct (f : Nat) (hf : f + 1 ≤ 1100000)  (t : Nd) (ht : t.size ≤ f + 1) (hk : t.kind = 3) (he : namB nmB 3 [parsB (tyF nmB f), orB (orB (tyF nmB f) (structB (tyF nmB f))) (interB (tyF nmB f))] t = true) (hns : (t.kid 1).kind = 13) (v : Value) (w : World) (hv : NdV none' w t v) :
 Calls Tryz.prog 26 #[v] w (StrPost ([116, 121, 112, 101, 32] ++ t.text ++ parsT (typF f) (t.kid 0) ++ [32] ++ ([115, 116, 114, 117, 99, 116, 32, 123, 10] ++ ((t.kid 1).kids.map fun x => lineT 1 (x.text ++ [32] ++ typF f (x.kid 0))).flatten ++ [125])) w) := by
 obtain ⟨a1, cap1, rfl, hcap, HV, HY⟩ := nd_open hv
 have hkl : t.kids.length ≤ 1100000 := by have := t.kids_len; omega
 obtain ⟨r, hr⟩ : ∃ r, r = ([116, 121, 112, 101, 32] ++ t.text ++ parsT (typF f) (t.kid 0) ++ [32] ++ ([115, 116, 114, 117, 99, 116, 32, 123, 10] ++ ((t.kid 1).kids.map fun x => lineT 1 (x.text ++ [32] ++ typF f (x.kid 0))).flatten ++ [125])) := ⟨_, rfl⟩
 rw [← hr]
 have HT := hid ht
 have HF := hid hf
 obtain ⟨_, htn, h3⟩ := namB_parts he
 obtain ⟨x, y, hkx, hx1, hy1⟩ := two_kids h3
 obtain ⟨hx0, hy0⟩ := kid_two hkx
 have hl0 : 0 < t.kids.length := by rw [hkx]; simp
 have hl1 : 1 < t.kids.length := by rw [hkx]; simp
 rw [← hx0] at hx1
 rw [← hy0] at hy1
 clear hx0 hy0
 have htl := nmB_len _ htn
 have hks0 : (t.kid 0).size ≤ f := by have := kid_size (t := t) (i := 0) (by omega); omega
 have C0 := hid fun v' W (hv' : NdV none' W (t.kid 0) v') => rparst_any f hf (t.kid 0) (by omega) hx1 v' W hv'
 have hql0 : (parsT (typF f) (t.kid 0)).length ≤ 10000000000000 := by have := parsT_len' hks0 hx1; omega
 obtain ⟨q0, hq0⟩ : ∃ q, parsT (typF f) (t.kid 0) = q := ⟨_, rfl⟩
 rw [hq0] at C0 hql0 hr
 clear hks0 hq0
 have hks1 : (t.kid 1).size ≤ f := by have := kid_size (t := t) (i := 1) (by omega); omega
 have hy2 : structB (tyF nmB f) (t.kid 1) = true := by
  unfold orB at hy1
  simp only [Bool.or_eq_true] at hy1
  rcases hy1 with (h | h) | h
  · have := tyF_kind h; omega
  · exact h
  · have := (inter_kids h).1; omega
 have hps := struct_kids hy2
 have hsz := size_kids (t.kid 1)
 have HPS := hid hps
 have HKS := hid hks1
 obtain ⟨acc, hacc⟩ : ∃ acc : Nat → List UInt8, acc = fun i => [116, 121, 112, 101, 32] ++ t.text ++ q0 ++ [32] ++ [115, 116, 114, 117, 99, 116, 32, 123, 10] ++ (((t.kid 1).kids.take i).map (fldT (typF f))).flatten := ⟨_, rfl⟩
 have hgl : ∀ x ∈ (t.kid 1).kids, (fldT (typF f) x).length ≤ 4000000 * x.size := fun x hx => by
  have h1 := hps x hx
  have h2 := kid_size (t := x) (i := 0) (by omega)
  have h3 := ty_len h1.2.2 (by have := Nd.size_kid hx; omega)
  unfold fldT
  simp only [List.length_append, List.length_cons, List.length_nil]
  omega
 have QL := hid (show ∀ x ∈ (t.kid 1).kids, (fldT (typF f) x).length ≤ 10000000000000 from fun x hx => by have := hgl x hx; have := Nd.size_kid hx; omega)
 have AL := hid (show ∀ i, (acc i).length ≤ 100000000000000 by
  intro i
  have h1 := flat_len (p := fldT (typF f)) (l := (t.kid 1).kids.take i) fun x hx => hgl x (List.mem_of_mem_take hx)
  have h2 := sizeL_take (t.kid 1).kids i
  rw [hacc]
  simp only [List.length_append, List.length_cons, List.length_nil]
  omega)
 have AN := hid (show ∀ i (h : i < (t.kid 1).kids.length), acc (i + 1) = acc i ++ fldT (typF f) (t.kid 1).kids[i] by
  intro i h
  rw [hacc]
  show _ ++ _ = (_ ++ _) ++ _
  rw [List.take_add_one, List.getElem?_eq_getElem h, List.map_append, List.flatten_append]
  simp)
 have AZ := hid (show acc 0 = [116, 121, 112, 101, 32] ++ t.text ++ q0 ++ [32] ++ [115, 116, 114, 117, 99, 116, 32, 123, 10] by rw [hacc]; simp)
 have HR := hid (show r = acc (t.kid 1).kids.length ++ [125] by
  rw [hr, hacc]
  show _ = (_ ++ (((t.kid 1).kids.take (t.kid 1).kids.length).map (fldT (typF f))).flatten) ++ [125]
  rw [List.take_length]
  have e : (fun x => lineT 1 (x.text ++ [32] ++ typF f (x.kid 0))) = fldT (typF f) := by
   funext x
   unfold lineT fldT tabsT
   simp
  rw [e]
  simp)
 have z1 : ((t.kid 1).kind != 13) = false := by simp [hns]
 have hkl1 : (t.kid 1).kids.length ≤ 1100000 := by have := (t.kid 1).kids_len; omega
 have y0 : (0 : Int) < (t.kids.length : Int) := by omega
 have y1 : (1 : Int) < (t.kids.length : Int) := by omega
 have HK := hid hk
 rw [hk] at HV ⊢
 obtain ⟨tx, htx⟩ : ∃ k, t.text = k := ⟨_, rfl⟩
 have HTX := hid htx
 rw [htx] at HV htl AZ ⊢
 obtain ⟨B, W0, hB, hW0, X0, G0⟩ := boxed w (.cells #[.int .i64 3, .string ⟨tx.toArray⟩, .slice a1 t.kids.length cap1, .int .i64 t.pos] 24)
 have XX := hid (Ext.refl none' W0)
 clear hr htx ht hf hk he htn h3 hkx hx1 hy1 hy2 hks1 hns hps hsz hgl hacc
 go_enter Tryz.func26, Tryz.ntmps26
 go_upto_region 1 with (fail)
 rw [← hW0, ← hB]
 clear hW0 hB
 have cat24 := str_cat ([116, 121, 112, 101, 32]) (tx)
 have cat25 := str_cat ([116, 121, 112, 101, 32] ++ tx) (q0)
 have cat26 := str_cat ([116, 121, 112, 101, 32] ++ tx ++ q0) ([32])
 have cat27 := str_cat ([116, 121, 112, 101, 32] ++ tx ++ q0 ++ [32]) ([115, 116, 114, 117, 99, 116, 32, 123, 10])
 simp only [List.append_assoc, List.cons_append, List.nil_append] at cat24 cat25 cat26 cat27
 obtain ⟨c0, c1, c2, c3⟩ := cellx XX.out G0.out
 obtain ⟨b, off, ka0, kc0, rfl, HBW, HZ0, KK0⟩ := kidA (HY.out.ext isNd_good X0.out fun _ _ h => h) (by omega)
 obtain ⟨ka1, kc1, HZ1, KK1⟩ := kidB (HY.out.ext isNd_good X0.out fun _ _ h => h) 1 4 rfl (by omega)
 have C0 := hid fun W (X : Ext none' W0 W) => C0.out _ W (ndvx HZ0.out X)
 go_upto_region 5 with (fail)
 clear c0 c1 c2 c3
 have c1 := fun t' : LaterF none' W0 => cell_at ((XX.out.trans t'.x).heap G0.out fun h => h) 1
 have c2 := fun t' : LaterF none' W0 => cell_at ((XX.out.trans t'.x).heap G0.out fun h => h) 2
 simp only [List.getElem?_toArray, List.getElem?_cons_zero, List.getElem?_cons_succ] at c1 c2
 obtain ⟨m00, m01, m02, m03⟩ := kidL (w1 := W0) XX.out HBW.out KK0.out
 refine region_q none' W0 (.qs [0, 1, 2, 3, 4, 5, 6] (.one 7 true (.qs [8, 9, 10] .fin))) (by kernel_rfl) (by kernel_rfl) (fun dst v c a w h => by cases dst <;> exact h) ?_
 refine ⟨In.of (Ext.refl _ _).drew, ?_⟩
 change wpQuiet _ _ (fun w' => ∃ t : LaterF none' W0, w' = t.w) _ _ _
 simp only [sel, List.getElem?_cons_succ, List.getElem?_cons_zero]
 repeat (go_big_quiet_step (fail))
 refine wpQuiet_nil ?_
 simp only [wpTreeQ, stepT, sel, List.getElem?_cons_succ, List.getElem?_cons_zero]
 have D1 := hid (Ext.refl none' W0).drew
 clear c1 c2 m00 m01 m02 m03
 go_wp2_with fail
 refine (C0.out _ D1.out).mono ?_
 rintro e w2 ⟨rfl, X2⟩
 have XX := hid (D1.out.trans X2)
 clear X2
 go_wp2_with fail
 refine ⟨In.of XX.out, In.of XX.out, ?_⟩
 change wpQuiet _ _ (fun w' => ∃ t : LaterF none' W0, w' = t.w) _ _ _
 repeat (go_big_quiet_step (fail))
 refine wpQuiet_nil ?_
 obtain ⟨c0, c1, c2, c3⟩ := cellx XX.out G0.out
 obtain ⟨m10, m11, m12, m13⟩ := kid' XX.out HBW.out KK1.out
 obtain ⟨W1, hW1⟩ : ∃ W1, W1 = w2.alloc (.cells #[.int .i64 (t.kid 1).kind, .string ⟨(t.kid 1).text.toArray⟩, .slice ka1 (t.kid 1).kids.length kc1, .int .i64 (t.kid 1).pos] 24) := ⟨_, rfl⟩
 have X1 := hid (show Ext none' w2 W1 by rw [hW1]; exact (Ext.refl _ _).alloc _)
 have GB := hid (show W1.heap[w2.heap.size]? = some (.cells #[.int .i64 (t.kid 1).kind, .string ⟨(t.kid 1).text.toArray⟩, .slice ka1 (t.kid 1).kids.length kc1, .int .i64 (t.kid 1).pos] 24 (0, 0)) by rw [hW1]; exact heap_alloc_at rfl _)
 go_upto_region 6 with (fail)
 go_upto_region 7 with (fail)
 rw [← hW1]
 obtain ⟨BB, hBB⟩ : ∃ BB, BB = w2.heap.size := ⟨_, rfl⟩
 rw [← hBB] at GB ⊢
 clear hW1 hBB
 clear c0 c1 c2 c3 m10 m11 m12 m13
 obtain ⟨g0, g1, g2, g3⟩ := cell4 ((Ext.refl none' W1).heap GB.out fun h => h)
 go_wp2_with fail
 clear g0 g1 g2 g3
 have XB := hid (XX.out.trans X1.out)
 go_loopw [3, 5] (fun o z wr => ∃ (i : Nat), z = .int .i64 (i : Nat) ∧ i ≤ (t.kid 1).kids.length ∧ o = .string ⟨(acc i).toArray⟩ ∧ Hid (Ext none' W1 wr)) (fun _ z _ => (t.kid 1).kids.length - (RowKit.intOf z).toNat)
 case atStart => exact ⟨0, rfl, by omega, by rw [AZ.out]; try simp, hid (Ext.refl none' W1)⟩
 case round =>
  obtain ⟨i, rfl, hle, rfl, RR⟩ := hrel
  have g2 := cell_at (RR.out.heap GB.out fun h => h) 2
  simp only [List.getElem?_toArray, List.getElem?_cons_zero, List.getElem?_cons_succ] at g2
  have hal := AL.out i
  by_cases hi : i < (t.kid 1).kids.length
  · obtain ⟨b5, off5, cs5, rfl, _, hw5, hcc5, ht5⟩ := (HZ1.out.ext isNd_good (XB.out.trans RR.out) fun _ _ h => h).at i hi
    obtain ⟨x5, rfl, hx5⟩ := ht5.parts
    have d0 := hcc5 0 _ rfl
    have d1 := hcc5 1 _ rfl
    have d2 := hcc5 2 _ rfl
    have d3 := hcc5 3 _ rfl
    simp only [Nat.add_zero] at d0
    have hmem := List.getElem_mem hi
    have HX5 := hid hx5
    obtain ⟨a6, cap6, rfl, _⟩ := hx5
    have hpl := QL.out _ hmem
    obtain ⟨hptl, hpk, hpt⟩ := HPS.out _ hmem
    have hl0' : 0 < ((t.kid 1).kids[i]).kids.length := by omega
    have hsz7 : (((t.kid 1).kids[i]).kid 0).size ≤ f := by have := Nd.size_kid hmem; have := kid_size hl0'; have := HKS.out; omega
    obtain ⟨b7, off7, z7, ez7, hbw7, k0, k1, k2, k3, hz7⟩ := kid_val HX5.out 0 hl0'
    subst ez7
    simp only [Nat.zero_mul, Nat.add_zero] at k0 k1 k2 k3
    have HZ7 := hid hz7
    obtain ⟨a8, cap8, rfl, _⟩ := hz7
    have CQ := hid fun W (X : Ext none' wr W) => rtx_any f (by have := HF.out; omega) (((t.kid 1).kids[i]).kid 0) hsz7 hpt (.agg #[.int .i64 (((t.kid 1).kids[i]).kid 0).kind, .string ⟨(((t.kid 1).kids[i]).kid 0).text.toArray⟩, .slice a8 (((t.kid 1).kids[i]).kid 0).kids.length cap8, .int .i64 (((t.kid 1).kids[i]).kid 0).pos]) W ⟨_, rfl, HZ7.out.ext isNd_good X fun _ _ h => h⟩
    have N := hid (AN.out i hi)
    have z0 : (0 : Int) < (((t.kid 1).kids[i]).kids.length : Int) := by omega
    obtain ⟨p, hp⟩ : ∃ p, (t.kid 1).kids[i] = p := ⟨_, rfl⟩
    rw [hp] at d0 d1 d3 CQ hpl N k0 k1 k3 hptl z0 hl0'
    simp only [hp] at d2 k2
    obtain ⟨q1, hq1⟩ : ∃ q, typF f (p.kid 0) = q := ⟨_, rfl⟩
    obtain ⟨px, hpx⟩ : ∃ q, p.text = q := ⟨_, rfl⟩
    have hpe : fldT (typF f) p = [9] ++ px ++ [32] ++ q1 ++ [10] := by rw [← hpx, ← hq1]; rfl
    rw [hpe] at hpl N
    have hql1 : q1.length ≤ 10000000000000 := by
     simp only [List.length_append] at hpl; omega
    rw [hq1] at CQ
    rw [hpx] at d1 hptl
    have HW5 := hid hw5
    have HW7 := hid hbw7
    obtain ⟨o1, ho1⟩ : ∃ o, acc i = o := ⟨_, rfl⟩
    rw [ho1] at N hal ⊢
    clear hcc5 ht5 hmem hp HX5 hq1 hpx hsz7 hpe hw5 hbw7 hpk hpt ho1
    have cat28 := str_cat ([9]) (px)
    have cat29 := str_cat ([9] ++ px) ([32])
    have cat30 := str_cat ([9] ++ px ++ [32]) (q1)
    have cat31 := str_cat ([9] ++ px ++ [32] ++ q1) ([10])
    have cat32 := str_cat (o1) ([9] ++ px ++ [32] ++ q1 ++ [10])
    simp only [List.append_assoc, List.cons_append, List.nil_append] at cat28 cat29 cat30 cat31 cat32
    go_upto_region 13 with (fail)
    clear g2
    have g2 := fun t' : LaterF none' wr => cell_at ((RR.out.trans t'.x).heap GB.out fun h => h) 2
    simp only [List.getElem?_toArray, List.getElem?_cons_zero, List.getElem?_cons_succ] at g2
    have e1 := fun t' : LaterF none' wr => (t'.x.cell (p := ⟨b5, off5 + i * 4 + 1, none⟩) HW5.out (fun h => h)).trans d1
    have e2 := fun t' : LaterF none' wr => (t'.x.cell (p := ⟨b5, off5 + i * 4 + 2, none⟩) HW5.out (fun h => h)).trans d2
    have m0 := fun t' : LaterF none' wr => (t'.x.cell (p := ⟨b7, off7, none⟩) HW7.out (fun h => h)).trans k0
    have m1 := fun t' : LaterF none' wr => (t'.x.cell (p := ⟨b7, off7 + 1, none⟩) HW7.out (fun h => h)).trans k1
    have m2 := fun t' : LaterF none' wr => (t'.x.cell (p := ⟨b7, off7 + 2, none⟩) HW7.out (fun h => h)).trans k2
    have m3 := fun t' : LaterF none' wr => (t'.x.cell (p := ⟨b7, off7 + 3, none⟩) HW7.out (fun h => h)).trans k3
    refine region_q none' wr (.qs [0, 1, 2, 3, 4, 5, 6, 7, 8, 9, 10, 11, 12, 13, 14, 15, 16] (.one 17 true (.qs [18, 19, 20, 21] .fin))) (by kernel_rfl) (by kernel_rfl) (fun dst v c a w h => by cases dst <;> exact h) ?_
    refine ⟨In.of (Ext.refl _ _).drew, ?_⟩
    change wpQuiet _ _ (fun w' => ∃ t : LaterF none' wr, w' = t.w) _ _ _
    simp only [sel, List.getElem?_cons_succ, List.getElem?_cons_zero]
    repeat (go_big_quiet_step (fail))
    refine wpQuiet_nil ?_
    simp only [wpTreeQ, stepT, sel, List.getElem?_cons_succ, List.getElem?_cons_zero]
    have D1 := hid (Ext.refl none' wr).drew
    clear g2 e1 e2 m0 m1 m2 m3
    go_wp2_with fail
    refine (CQ.out _ D1.out).mono ?_
    rintro e W5 ⟨rfl, X5⟩
    have X5 := hid (D1.out.trans X5)
    go_wp2_with fail
    refine ⟨In.of X5.out, In.of X5.out, ?_⟩
    change wpQuiet _ _ (fun w' => ∃ t : LaterF none' wr, w' = t.w) _ _ _
    repeat (go_big_quiet_step (fail))
    refine wpQuiet_nil ?_
    have XN := hid (RR.out.trans X5.out)
    clear d0 d1 d2 d3 k0 k1 k2 k3 X5 D1
    go_wp2_with fail
    go_roundw
    case rel => exact ⟨i + 1, by go_num, by omega, by first | (rw [N.out]; done) | (rw [N.out]; simp), XN⟩
    case measure => simp [RowKit.intOf]; omega
  · obtain rfl : i = (t.kid 1).kids.length := by omega
    obtain ⟨o1, ho1⟩ : ∃ o, acc (t.kid 1).kids.length = o := ⟨_, rfl⟩
    rw [ho1] at HR hal ⊢
    clear ho1
    have cat1 := str_cat o1 [125]
    go_wp2_with fail
    go_ret
    exact ⟨by first | (rw [HR.out]; done) | (rw [HR.out]; rfl) | (rw [HR.out]; simp), X0.out.trans (XB.out.trans RR.out)⟩
theorem rd7_var (f : Nat) (hf : f + 1 ≤ 1100000) (H : REx7 f) (hd : f + 1 ≤ 1200000) (t : Nd) (ht : t.size ≤ f + 1) (hk : t.kind = 5) (he : varB (tyF nmB f) (exF f) t = true) (v : Value) (w : World) (hv : NdV none' w t v) :
 Calls Tryz.prog 26 #[v] w (StrPost (varT (typF f) (exT f) 0 t) w) := by
 obtain ⟨a1, cap1, rfl, hcap, HV, HY⟩ := nd_open hv
 have hkl : t.kids.length ≤ 1100000 := by have := t.kids_len; omega
 obtain ⟨r, hr⟩ : ∃ r, r = (varT (typF f) (exT f) 0 t) := ⟨_, rfl⟩
 rw [← hr]
 have HT := hid ht
 have HF := hid hf
 have C0 := hid fun v' W (hv' : NdV none' W t v') => (show Calls Tryz.prog 66 #[v', .int .i64 0] W (StrPost (varT (typF f) (exT f) 0 t) W) from rvart_any f hf H 0 (by omega) t ht he v' W hv')
 rw [← hr] at C0
 have HR := hid hr
 have HK := hid hk
 rw [hk] at HV ⊢
 obtain ⟨tx, htx⟩ : ∃ k, t.text = k := ⟨_, rfl⟩
 have HTX := hid htx
 rw [htx] at HV  ⊢
 try rw [htx] at HR
 obtain ⟨B, W0, hB, hW0, X0, G0⟩ := boxed w (.cells #[.int .i64 5, .string ⟨tx.toArray⟩, .slice a1 t.kids.length cap1, .int .i64 t.pos] 24)
 have XX := hid (Ext.refl none' W0)
 clear hr htx ht hf hk he H hd
 go_enter Tryz.func26, Tryz.ntmps26
 go_upto_region 1 with (fail)
 rw [← hW0, ← hB]
 clear hW0 hB
 obtain ⟨c0, c1, c2, c3⟩ := cellx XX.out G0.out
 have C0 := hid fun W (X : Ext none' W0 W) => C0.out (.agg #[.int .i64 5, .string ⟨tx.toArray⟩, .slice a1 t.kids.length cap1, .int .i64 t.pos]) W (HV.out.ext (X0.out.trans X) fun _ _ h => h)
 go_wp2_with fail
 refine (C0.out _ XX.out).mono ?_
 rintro e w2 ⟨rfl, X⟩
 have XX := hid (XX.out.trans X)
 clear X c0 c1 c2 c3
 go_wp2_with fail
 go_ret
 exact ⟨rfl, X0.out.trans XX.out⟩
theorem rdeclt_any (f : Nat) (hf : f + 1 ≤ 1100000) (H : REx7 f) (HS : RSt7 f) (t : Nd) (ht : t.size ≤ f + 1) (he : declB (tyF nmB f) (exF f) (stF f) t = true) (v : Value) (w : World) (hv : NdV none' w t v) :
 Calls Tryz.prog 26 #[v] w (StrPost (declT (typF f) (exT f) (stT f) t) w) := by
 unfold declB at he
 unfold declT wType
 by_cases h2 : t.kind = 2
 · rw [if_pos h2] at he ⊢
   exact rd7_func f hf HS t ht h2 he v w hv
 rw [if_neg h2] at he ⊢
 by_cases h3 : t.kind = 3
 · rw [if_pos h3] at he ⊢
   by_cases h13 : (t.kid 1).kind = 13
   · rw [if_pos h13]
     exact rd7_struct f hf t ht h3 he h13 v w hv
   · rw [if_neg h13]
     exact rd7_type f hf t ht h3 he h13 v w hv
 rw [if_neg h3] at he ⊢
 by_cases h4 : t.kind = 4
 · rw [if_pos h4] at he ⊢
   exact rd7_alias f hf t ht h4 he v w hv
 rw [if_neg h4] at he ⊢
 have h5 : t.kind = 5 := by
  rw [varB_chain] at he
  simp only [Bool.and_eq_true, beq_iff_eq] at he
  exact he.1
 exact rd7_var f hf H (by omega) t ht h5 he v w hv
end Go.Proofs.YthbmjamgidfneaaGreatDoor
