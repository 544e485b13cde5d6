import Derived.Test.YthbmjamgidfneaaGreatDoorYAa
import Derived.Test.YthbmjamgidfneaaGreatDoorYAd
import Derived.Test.YthbmjamgidfneaaGreatDoorYAq
set_option maxRecDepth 100000
set_option maxHeartbeats 6400000
namespace Go.Proofs.YthbmjamgidfneaaGreatDoor
open Go.RowKit Go.Lib Go.BigFrame
set_option linter.unusedVariables false
set_option linter.unusedSimpArgs false
theorem rx_bin (f : Nat) (hf : f + 1 ≤ 1100000) (H : REx7 f) (deep : Nat) (head : Bool) (hd : deep + (f + 1) ≤ 1200000) (t : Nd) (ht : t.size ≤ f + 1) (hk : t.kind = 20) (he : namB binB 20 [exF f, exF f] t = true) (v : Value) (w : World) (hv : NdV none' w t v) :
 Calls Tryz.prog 28 #[v, .int .i64 (deep : Nat), .bool head] w (StrPost (brT (exT f) deep head ((t.kid 0).kind == 20 && decide (tightN (t.kid 0).text < tightN t.text)) (t.kid 0) ++ [32] ++ t.text ++ [32] ++ brT (exT f) deep head ((t.kid 1).kind == 20 && decide (tightN (t.kid 1).text ≤ tightN t.text)) (t.kid 1)) w) := by
 obtain ⟨a1, cap1, rfl, hcap, HV, HY⟩ := nd_open hv
 have hkl : t.kids.length ≤ 1100000 := by have := t.kids_len; omega
 obtain ⟨r, hr⟩ : ∃ r, r = (brT (exT f) deep head ((t.kid 0).kind == 20 && decide (tightN (t.kid 0).text < tightN t.text)) (t.kid 0) ++ [32] ++ t.text ++ [32] ++ brT (exT f) deep head ((t.kid 1).kind == 20 && decide (tightN (t.kid 1).text ≤ tightN t.text)) (t.kid 1)) := ⟨_, rfl⟩
 rw [← hr]
 have HT := hid ht
 have HF := hid hf
 obtain ⟨_, htn, h3⟩ := namB_parts he
 obtain ⟨x, y, hkx, hx1, hy1⟩ := two_kids h3
 obtain ⟨hx0, hy0⟩ := kid_two hkx
 have hsz := size_two hkx
 have hl0 : 0 < t.kids.length := by rw [hkx]; simp
 have hl1 : 1 < t.kids.length := by rw [hkx]; simp
 have htl := binB_len htn
 obtain ⟨yy0, hyy0⟩ : ∃ y, y = ((t.kid 0).kind == 20 && decide (tightN (t.kid 0).text < tightN t.text)) := ⟨_, rfl⟩
 rw [← hyy0] at hr
 have hbl0 := brT_len (head := head) (yes := yy0) ((lens_all f deep (by omega)).1 x (by omega) hx1)
 have C0 := hid fun v' W (hv' : NdV none' W (t.kid 0) v') => round_any f (by omega) H deep head yy0 (by omega) (t.kid 0) (by rw [hx0]; omega) (by rw [hx0]; exact hx1) v' W hv'
 have hbm0 : (brT (exT f) deep head yy0 (t.kid 0)).length ≤ 10000000000000 := by rw [hx0]; omega
 obtain ⟨q0, hq0⟩ : ∃ q, brT (exT f) deep head yy0 (t.kid 0) = q := ⟨_, rfl⟩
 rw [hq0] at C0 hbm0 hr
 have T0 := hid fun W => level_any (t.kid 0).text W
 obtain ⟨p0, hp0⟩ : ∃ p, tightN (t.kid 0).text = p := ⟨_, rfl⟩
 rw [hp0] at T0 hyy0
 obtain ⟨e0, he0⟩ : ∃ b, ((t.kid 0).kind == 20) = b := ⟨_, rfl⟩
 rw [he0] at hyy0
 obtain ⟨yy1, hyy1⟩ : ∃ y, y = ((t.kid 1).kind == 20 && decide (tightN (t.kid 1).text ≤ tightN t.text)) := ⟨_, rfl⟩
 rw [← hyy1] at hr
 have hbl1 := brT_len (head := head) (yes := yy1) ((lens_all f deep (by omega)).1 y (by omega) hy1)
 have C1 := hid fun v' W (hv' : NdV none' W (t.kid 1) v') => round_any f (by omega) H deep head yy1 (by omega) (t.kid 1) (by rw [hy0]; omega) (by rw [hy0]; exact hy1) v' W hv'
 have hbm1 : (brT (exT f) deep head yy1 (t.kid 1)).length ≤ 10000000000000 := by rw [hy0]; omega
 obtain ⟨q1, hq1⟩ : ∃ q, brT (exT f) deep head yy1 (t.kid 1) = q := ⟨_, rfl⟩
 rw [hq1] at C1 hbm1 hr
 have T1 := hid fun W => level_any (t.kid 1).text W
 obtain ⟨p1, hp1⟩ : ∃ p, tightN (t.kid 1).text = p := ⟨_, rfl⟩
 rw [hp1] at T1 hyy1
 obtain ⟨e1, he1⟩ : ∃ b, ((t.kid 1).kind == 20) = b := ⟨_, rfl⟩
 rw [he1] at hyy1
 have CL := hid fun W => level_any t.text W
 obtain ⟨pp, hpp⟩ : ∃ p, tightN t.text = p := ⟨_, rfl⟩
 rw [hpp] at CL hyy0 hyy1
 have HY0 := hid hyy0
 have HY1 := hid hyy1
 have y0 : (0 : Int) < (t.kids.length : Int) := by omega
 have y1 : (1 : Int) < (t.kids.length : Int) := by omega
 have cat11 := str_cat (q0) ([32])
 have cat12 := str_cat (q0 ++ [32]) (t.text)
 have cat13 := str_cat (q0 ++ [32] ++ t.text) ([32])
 have cat14 := str_cat (q0 ++ [32] ++ t.text ++ [32]) (q1)
 simp only [List.append_assoc, List.cons_append, List.nil_append] at cat11 cat12 cat13 cat14
 have HR := hid hr
 have HK := hid hk
 rw [hk] at HV ⊢
 obtain ⟨tx, htx⟩ : ∃ k, t.text = k := ⟨_, rfl⟩
 have HTX := hid htx
 rw [htx] at HV htl cat12 cat13 cat14 CL ⊢
 try rw [htx] at HR
 obtain ⟨B, W0, hB, hW0, X0, G0⟩ := boxed w (.cells #[.int .i64 20, .string ⟨tx.toArray⟩, .slice a1 t.kids.length cap1, .int .i64 t.pos] 24)
 have XX := hid (Ext.refl none' W0)
 clear hr htx ht hf hk he H hd htn h3 hkx hx1 hy1 hx0 hy0 hsz hyy0 hyy1 hbl0 hbl1 hq0 hq1 hp0 hp1 hpp
 go_enter Tryz.func28, Tryz.ntmps28
 go_upto_region 1 with (fail)
 rw [← hW0, ← hB]
 clear hW0 hB
 obtain ⟨c0, c1, c2, c3⟩ := cellx XX.out G0.out
 obtain ⟨b, off, ka0, kc0, rfl, HBW, HZ0, KK0⟩ := kidA (HY.out.ext isNd_good X0.out fun _ _ h => h) (by omega)
 obtain ⟨ka1, kc1, HZ1, KK1⟩ := kidB (HY.out.ext isNd_good X0.out fun _ _ h => h) 1 4 rfl (by omega)
 have C0 := hid fun W (X : Ext none' W0 W) => C0.out _ W (ndvx HZ0.out X)
 have C1 := hid fun W (X : Ext none' W0 W) => C1.out _ W (ndvx HZ1.out X)
 go_upto_region 8 with (fail)
 go_cut [8, 9, 10] from 54 to 65 (fun z y x wx => ∃ p3 p4, z = .pointer (some ⟨p3, 0, none⟩) ∧ y = .pointer (some ⟨p4, 0, none⟩) ∧ x = .int .i64 (pp : Nat) ∧ Hid (wx.heap[p3]? = some (.cells #[.int .i64 (t.kid 0).kind, .string ⟨(t.kid 0).text.toArray⟩, .slice ka0 (t.kid 0).kids.length kc0, .int .i64 (t.kid 0).pos] 24 (0, 0)) ∧ wx.heap[p4]? = some (.cells #[.int .i64 (t.kid 1).kind, .string ⟨(t.kid 1).text.toArray⟩, .slice ka1 (t.kid 1).kids.length kc1, .int .i64 (t.kid 1).pos] 24 (0, 0)) ∧ Ext none' W0 wx))
 case first =>
  clear c0 c1 c2 c3
  have c1 := fun t' : LaterF none' W0 => cell_at ((XX.out.trans t'.x).heap G0.out fun h => h) 1
  have c2 := fun t' : LaterF none' W0 => cell_at ((XX.out.trans t'.x).heap G0.out fun h => h) 2
  simp only [List.getElem?_toArray, List.getElem?_cons_zero, List.getElem?_cons_succ] at c1 c2
  obtain ⟨m00, m01, m02, m03⟩ := kidL (w1 := W0) XX.out HBW.out KK0.out
  obtain ⟨m10, m11, m12, m13⟩ := kidL (w1 := W0) XX.out HBW.out KK1.out
  refine region_z none' W0 (.qs [0, 1, 2, 3, 4, 5, 6, 7, 8, 9] (.three 10 true (.two 11 true (.one 12 true (.one 13 true (.one 14 true (.one 15 true .fin)))) 12 true (.one 11 true (.one 13 true (.one 14 true (.one 15 true .fin))))) 11 true (.two 10 true (.one 12 true (.one 13 true (.one 14 true (.one 15 true .fin)))) 12 true (.one 10 true (.one 13 true (.one 14 true (.one 15 true .fin))))) 12 true (.two 10 true (.one 11 true (.one 13 true (.one 14 true (.one 15 true .fin)))) 11 true (.one 10 true (.one 13 true (.one 14 true (.one 15 true .fin))))))) (by kernel_rfl) (by kernel_rfl) (fun dst v c a w h => by cases dst <;> exact h) ?_
  refine ⟨In.of (Ext.refl _ _).drew, ?_⟩
  change wpQuiet _ _ (fun w' => ∃ t : LaterF none' W0, w' = t.w) _ _ _
  simp only [sel, List.getElem?_cons_succ, List.getElem?_cons_zero]
  repeat (go_big_quiet_step (fail))
  refine wpQuiet_nil ?_
  simp only [wpTreeZ, stepT, sel, List.getElem?_cons_succ, List.getElem?_cons_zero]
  clear c1 c2 m00 m01 m02 m03 m10 m11 m12 m13
  refine ⟨?_, ?_, ?_⟩
  · go_wp2_with fail
    refine (CL.out _).mono ?_
    rintro e wl ⟨rfl, XL⟩
    have XN0 := hid ((Ext.refl none' W0).drew.trans XL)
    clear XL
    go_wp2_with fail
    refine ⟨In.of XN0.out, ?_⟩
    refine ⟨?_, ?_⟩
    · go_wp2_with fail
      obtain ⟨DA, hDA⟩ : ∃ D, D = wl.heap.size := ⟨_, rfl⟩
      obtain ⟨wa, hWA⟩ : ∃ W, W = (wl.alloc (.cells #[.int .i64 0, .string ⟨#[]⟩, .slice none 0 0, .int .i64 0] 24)) := ⟨_, rfl⟩
      rw [← hWA, ← hDA]
      have XN1 := hid (show Ext none' W0 wa by rw [hWA]; exact ((XN0.out).alloc _))
      have HDA := hid (show W0.heap.size ≤ DA by rw [hDA]; exact (XN0.out).size)
      have GA := hid (show wa.heap[DA]? = some (.cells #[.int .i64 0, .string ⟨#[]⟩, .slice none 0 0, .int .i64 0] 24 (0, 0)) by rw [hWA]; exact heap_alloc_at hDA _)
      clear hWA hDA 
      refine ⟨In.of XN1.out, ?_⟩
      go_wp2_with fail
      have hltA : DA < wa.heap.size := (Array.getElem?_eq_some_iff.mp GA.out).1
      obtain ⟨DB, hDB⟩ : ∃ D, D = wa.heap.size := ⟨_, rfl⟩
      obtain ⟨wb, hWB⟩ : ∃ W, W = (wa.alloc (.cells #[.int .i64 0, .string ⟨#[]⟩, .slice none 0 0, .int .i64 0] 24)) := ⟨_, rfl⟩
      rw [← hWB, ← hDB]
      have XN2 := hid (show Ext none' W0 wb by rw [hWB]; exact ((XN1.out).alloc _))
      have HDB := hid (show W0.heap.size ≤ DB by rw [hDB]; exact (XN1.out).size)
      have GA := hid (show wb.heap[DA]? = some (.cells #[.int .i64 0, .string ⟨#[]⟩, .slice none 0 0, .int .i64 0] 24 (0, 0)) by rw [hWB]; exact heap_alloc_keep GA.out _)
      have HNE := hid (show DA ≠ DB by omega)
      have GB := hid (show wb.heap[DB]? = some (.cells #[.int .i64 0, .string ⟨#[]⟩, .slice none 0 0, .int .i64 0] 24 (0, 0)) by rw [hWB]; exact heap_alloc_at hDB _)
      clear hWB hDB hltA
      refine ⟨In.of XN2.out, ?_⟩
      obtain ⟨e0, e1, e2, e3⟩ := cell4 GA.out
      have fe0 := free_at ((Ext.refl none' _).heap GA.out fun h => h) 0
      have fe1 := free_at ((Ext.refl none' _).heap GA.out fun h => h) 1
      have fe2 := free_at ((Ext.refl none' _).heap GA.out fun h => h) 2
      have fe3 := free_at ((Ext.refl none' _).heap GA.out fun h => h) 3
      go_wp2_with fail
      obtain ⟨ws0, hWS⟩ : ∃ W, W = ((((wb.setCell ⟨DA, 0, none⟩ (.int .i64 (t.kid 0).kind)).setCell ⟨DA, 1, none⟩ (.string ⟨(t.kid 0).text.toArray⟩)).setCell ⟨DA, 2, none⟩ (.slice ka0 (t.kid 0).kids.length kc0)).setCell ⟨DA, 3, none⟩ (.int .i64 (t.kid 0).pos)) := ⟨_, rfl⟩
      rw [← hWS]
      have hne := HNE.out
      have XS0 := hid (show Ext none' W0 ws0 by rw [hWS]; exact ((XN2.out).set4 (b := DA) (.inr HDA.out) _ _ _ _))
      have GSA := hid (show ws0.heap[DA]? = some (.cells #[.int .i64 (t.kid 0).kind, .string ⟨(t.kid 0).text.toArray⟩, .slice ka0 (t.kid 0).kids.length kc0, .int .i64 (t.kid 0).pos] 24 (0, 0)) by rw [hWS]; exact set4n GA.out _ _ _ _)
      have GB := hid (show ws0.heap[DB]? = some (.cells #[.int .i64 0, .string ⟨#[]⟩, .slice none 0 0, .int .i64 0] 24 (0, 0)) by rw [hWS]; exact (heap_setCell_other (heap_setCell_other (heap_setCell_other (heap_setCell_other GB.out (by simp only; omega) _) (by simp only; omega) _) (by simp only; omega) _) (by simp only; omega) _))
      refine ⟨In.of XS0.out, ?_⟩
      clear hWS hne e0 e1 e2 e3 fe0 fe1 fe2 fe3
      obtain ⟨e0, e1, e2, e3⟩ := cell4 GB.out
      have fe0 := free_at ((Ext.refl none' _).heap GB.out fun h => h) 0
      have fe1 := free_at ((Ext.refl none' _).heap GB.out fun h => h) 1
      have fe2 := free_at ((Ext.refl none' _).heap GB.out fun h => h) 2
      have fe3 := free_at ((Ext.refl none' _).heap GB.out fun h => h) 3
      go_wp2_with fail
      obtain ⟨ws1, hWS⟩ : ∃ W, W = ((((ws0.setCell ⟨DB, 0, none⟩ (.int .i64 (t.kid 1).kind)).setCell ⟨DB, 1, none⟩ (.string ⟨(t.kid 1).text.toArray⟩)).setCell ⟨DB, 2, none⟩ (.slice ka1 (t.kid 1).kids.length kc1)).setCell ⟨DB, 3, none⟩ (.int .i64 (t.kid 1).pos)) := ⟨_, rfl⟩
      rw [← hWS]
      have hne := HNE.out
      have XS1 := hid (show Ext none' W0 ws1 by rw [hWS]; exact ((XS0.out).set4 (b := DB) (.inr HDB.out) _ _ _ _))
      have GSB := hid (show ws1.heap[DB]? = some (.cells #[.int .i64 (t.kid 1).kind, .string ⟨(t.kid 1).text.toArray⟩, .slice ka1 (t.kid 1).kids.length kc1, .int .i64 (t.kid 1).pos] 24 (0, 0)) by rw [hWS]; exact set4n GB.out _ _ _ _)
      have GSA := hid (show ws1.heap[DA]? = some (.cells #[.int .i64 (t.kid 0).kind, .string ⟨(t.kid 0).text.toArray⟩, .slice ka0 (t.kid 0).kids.length kc0, .int .i64 (t.kid 0).pos] 24 (0, 0)) by rw [hWS]; exact (heap_setCell_other (heap_setCell_other (heap_setCell_other (heap_setCell_other GSA.out (by simp only; omega) _) (by simp only; omega) _) (by simp only; omega) _) (by simp only; omega) _))
      refine ⟨In.of XS1.out, ?_⟩
      clear hWS hne e0 e1 e2 e3 fe0 fe1 fe2 fe3
      go_wp2_with fail
      refine ⟨In.of XS1.out, ?_⟩
      go_wp2_with fail
      go_meet
      case rel => exact ⟨DA, DB, rfl, rfl, rfl, hid ⟨GSA.out, GSB.out, XS1.out⟩⟩
    · go_wp2_with fail
      obtain ⟨DB, hDB⟩ : ∃ D, D = wl.heap.size := ⟨_, rfl⟩
      obtain ⟨wb, hWB⟩ : ∃ W, W = (wl.alloc (.cells #[.int .i64 0, .string ⟨#[]⟩, .slice none 0 0, .int .i64 0] 24)) := ⟨_, rfl⟩
      rw [← hWB, ← hDB]
      have XN1 := hid (show Ext none' W0 wb by rw [hWB]; exact ((XN0.out).alloc _))
      have HDB := hid (show W0.heap.size ≤ DB by rw [hDB]; exact (XN0.out).size)
      have GB := hid (show wb.heap[DB]? = some (.cells #[.int .i64 0, .string ⟨#[]⟩, .slice none 0 0, .int .i64 0] 24 (0, 0)) by rw [hWB]; exact heap_alloc_at hDB _)
      clear hWB hDB 
      refine ⟨In.of XN1.out, ?_⟩
      go_wp2_with fail
      have hltB : DB < wb.heap.size := (Array.getElem?_eq_some_iff.mp GB.out).1
      obtain ⟨DA, hDA⟩ : ∃ D, D = wb.heap.size := ⟨_, rfl⟩
      obtain ⟨wa, hWA⟩ : ∃ W, W = (wb.alloc (.cells #[.int .i64 0, .string ⟨#[]⟩, .slice none 0 0, .int .i64 0] 24)) := ⟨_, rfl⟩
      rw [← hWA, ← hDA]
      have XN2 := hid (show Ext none' W0 wa by rw [hWA]; exact ((XN1.out).alloc _))
      have HDA := hid (show W0.heap.size ≤ DA by rw [hDA]; exact (XN1.out).size)
      have GB := hid (show wa.heap[DB]? = some (.cells #[.int .i64 0, .string ⟨#[]⟩, .slice none 0 0, .int .i64 0] 24 (0, 0)) by rw [hWA]; exact heap_alloc_keep GB.out _)
      have HNE := hid (show DB ≠ DA by omega)
      have GA := hid (show wa.heap[DA]? = some (.cells #[.int .i64 0, .string ⟨#[]⟩, .slice none 0 0, .int .i64 0] 24 (0, 0)) by rw [hWA]; exact heap_alloc_at hDA _)
      clear hWA hDA hltB
      refine ⟨In.of XN2.out, ?_⟩
      obtain ⟨e0, e1, e2, e3⟩ := cell4 GA.out
      have fe0 := free_at ((Ext.refl none' _).heap GA.out fun h => h) 0
      have fe1 := free_at ((Ext.refl none' _).heap GA.out fun h => h) 1
      have fe2 := free_at ((Ext.refl none' _).heap GA.out fun h => h) 2
      have fe3 := free_at ((Ext.refl none' _).heap GA.out fun h => h) 3
      go_wp2_with fail
      obtain ⟨ws0, hWS⟩ : ∃ W, W = ((((wa.setCell ⟨DA, 0, none⟩ (.int .i64 (t.kid 0).kind)).setCell ⟨DA, 1, none⟩ (.string ⟨(t.kid 0).text.toArray⟩)).setCell ⟨DA, 2, none⟩ (.slice ka0 (t.kid 0).kids.length kc0)).setCell ⟨DA, 3, none⟩ (.int .i64 (t.kid 0).pos)) := ⟨_, rfl⟩
      rw [← hWS]
      have hne := HNE.out
      have XS0 := hid (show Ext none' W0 ws0 by rw [hWS]; exact ((XN2.out).set4 (b := DA) (.inr HDA.out) _ _ _ _))
      have GSA := hid (show ws0.heap[DA]? = some (.cells #[.int .i64 (t.kid 0).kind, .string ⟨(t.kid 0).text.toArray⟩, .slice ka0 (t.kid 0).kids.length kc0, .int .i64 (t.kid 0).pos] 24 (0, 0)) by rw [hWS]; exact set4n GA.out _ _ _ _)
      have GB := hid (show ws0.heap[DB]? = some (.cells #[.int .i64 0, .string ⟨#[]⟩, .slice none 0 0, .int .i64 0] 24 (0, 0)) by rw [hWS]; exact (heap_setCell_other (heap_setCell_other (heap_setCell_other (heap_setCell_other GB.out (by simp only; omega) _) (by simp only; omega) _) (by simp only; omega) _) (by simp only; omega) _))
      refine ⟨In.of XS0.out, ?_⟩
      clear hWS hne e0 e1 e2 e3 fe0 fe1 fe2 fe3
      obtain ⟨e0, e1, e2, e3⟩ := cell4 GB.out
      have fe0 := free_at ((Ext.refl none' _).heap GB.out fun h => h) 0
      have fe1 := free_at ((Ext.refl none' _).heap GB.out fun h => h) 1
      have fe2 := free_at ((Ext.refl none' _).heap GB.out fun h => h) 2
      have fe3 := free_at ((Ext.refl none' _).heap GB.out fun h => h) 3
      go_wp2_with fail
      obtain ⟨ws1, hWS⟩ : ∃ W, W = ((((ws0.setCell ⟨DB, 0, none⟩ (.int .i64 (t.kid 1).kind)).setCell ⟨DB, 1, none⟩ (.string ⟨(t.kid 1).text.toArray⟩)).setCell ⟨DB, 2, none⟩ (.slice ka1 (t.kid 1).kids.length kc1)).setCell ⟨DB, 3, none⟩ (.int .i64 (t.kid 1).pos)) := ⟨_, rfl⟩
      rw [← hWS]
      have hne := HNE.out
      have XS1 := hid (show Ext none' W0 ws1 by rw [hWS]; exact ((XS0.out).set4 (b := DB) (.inr HDB.out) _ _ _ _))
      have GSB := hid (show ws1.heap[DB]? = some (.cells #[.int .i64 (t.kid 1).kind, .string ⟨(t.kid 1).text.toArray⟩, .slice ka1 (t.kid 1).kids.length kc1, .int .i64 (t.kid 1).pos] 24 (0, 0)) by rw [hWS]; exact set4n GB.out _ _ _ _)
      have GSA := hid (show ws1.heap[DA]? = some (.cells #[.int .i64 (t.kid 0).kind, .string ⟨(t.kid 0).text.toArray⟩, .slice ka0 (t.kid 0).kids.length kc0, .int .i64 (t.kid 0).pos] 24 (0, 0)) by rw [hWS]; exact (heap_setCell_other (heap_setCell_other (heap_setCell_other (heap_setCell_other GSA.out (by simp only; omega) _) (by simp only; omega) _) (by simp only; omega) _) (by simp only; omega) _))
      refine ⟨In.of XS1.out, ?_⟩
      clear hWS hne e0 e1 e2 e3 fe0 fe1 fe2 fe3
      go_wp2_with fail
      refine ⟨In.of XS1.out, ?_⟩
      go_wp2_with fail
      go_meet
      case rel => exact ⟨DA, DB, rfl, rfl, rfl, hid ⟨GSA.out, GSB.out, XS1.out⟩⟩
  · go_wp2_with fail
    obtain ⟨DA, hDA⟩ : ∃ D, D = W0.heap.size := ⟨_, rfl⟩
    obtain ⟨wa, hWA⟩ : ∃ W, W = (W0.alloc (.cells #[.int .i64 0, .string ⟨#[]⟩, .slice none 0 0, .int .i64 0] 24)).drew := ⟨_, rfl⟩
    rw [← hWA, ← hDA]
    have XN0 := hid (show Ext none' W0 wa by rw [hWA]; exact ((Ext.refl none' W0).alloc _).drew)
    have HDA := hid (show W0.heap.size ≤ DA by rw [hDA]; exact (Ext.refl none' W0).size)
    have GA := hid (show wa.heap[DA]? = some (.cells #[.int .i64 0, .string ⟨#[]⟩, .slice none 0 0, .int .i64 0] 24 (0, 0)) by rw [hWA]; exact heap_alloc_at hDA _)
    clear hWA hDA 
    refine ⟨In.of XN0.out, ?_⟩
    refine ⟨?_, ?_⟩
    · go_wp2_with fail
      refine (CL.out _).mono ?_
      rintro e wl ⟨rfl, XL⟩
      have XN1 := hid ((XN0.out).trans XL)
      have GA := hid (XL.heap GA.out fun h => h)
      clear XL
      go_wp2_with fail
      refine ⟨In.of XN1.out, ?_⟩
      go_wp2_with fail
      have hltA : DA < wl.heap.size := (Array.getElem?_eq_some_iff.mp GA.out).1
      obtain ⟨DB, hDB⟩ : ∃ D, D = wl.heap.size := ⟨_, rfl⟩
      obtain ⟨wb, hWB⟩ : ∃ W, W = (wl.alloc (.cells #[.int .i64 0, .string ⟨#[]⟩, .slice none 0 0, .int .i64 0] 24)) := ⟨_, rfl⟩
      rw [← hWB, ← hDB]
      have XN2 := hid (show Ext none' W0 wb by rw [hWB]; exact ((XN1.out).alloc _))
      have HDB := hid (show W0.heap.size ≤ DB by rw [hDB]; exact (XN1.out).size)
      have GA := hid (show wb.heap[DA]? = some (.cells #[.int .i64 0, .string ⟨#[]⟩, .slice none 0 0, .int .i64 0] 24 (0, 0)) by rw [hWB]; exact heap_alloc_keep GA.out _)
      have HNE := hid (show DA ≠ DB by omega)
      have GB := hid (show wb.heap[DB]? = some (.cells #[.int .i64 0, .string ⟨#[]⟩, .slice none 0 0, .int .i64 0] 24 (0, 0)) by rw [hWB]; exact heap_alloc_at hDB _)
      clear hWB hDB hltA
      refine ⟨In.of XN2.out, ?_⟩
      obtain ⟨e0, e1, e2, e3⟩ := cell4 GA.out
      have fe0 := free_at ((Ext.refl none' _).heap GA.out fun h => h) 0
      have fe1 := free_at ((Ext.refl none' _).heap GA.out fun h => h) 1
      have fe2 := free_at ((Ext.refl none' _).heap GA.out fun h => h) 2
      have fe3 := free_at ((Ext.refl none' _).heap GA.out fun h => h) 3
      go_wp2_with fail
      obtain ⟨ws0, hWS⟩ : ∃ W, W = ((((wb.setCell ⟨DA, 0, none⟩ (.int .i64 (t.kid 0).kind)).setCell ⟨DA, 1, none⟩ (.string ⟨(t.kid 0).text.toArray⟩)).setCell ⟨DA, 2, none⟩ (.slice ka0 (t.kid 0).kids.length kc0)).setCell ⟨DA, 3, none⟩ (.int .i64 (t.kid 0).pos)) := ⟨_, rfl⟩
      rw [← hWS]
      have hne := HNE.out
      have XS0 := hid (show Ext none' W0 ws0 by rw [hWS]; exact ((XN2.out).set4 (b := DA) (.inr HDA.out) _ _ _ _))
      have GSA := hid (show ws0.heap[DA]? = some (.cells #[.int .i64 (t.kid 0).kind, .string ⟨(t.kid 0).text.toArray⟩, .slice ka0 (t.kid 0).kids.length kc0, .int .i64 (t.kid 0).pos] 24 (0, 0)) by rw [hWS]; exact set4n GA.out _ _ _ _)
      have GB := hid (show ws0.heap[DB]? = some (.cells #[.int .i64 0, .string ⟨#[]⟩, .slice none 0 0, .int .i64 0] 24 (0, 0)) by rw [hWS]; exact (heap_setCell_other (heap_setCell_other (heap_setCell_other (heap_setCell_other GB.out (by simp only; omega) _) (by simp only; omega) _) (by simp only; omega) _) (by simp only; omega) _))
      refine ⟨In.of XS0.out, ?_⟩
      clear hWS hne e0 e1 e2 e3 fe0 fe1 fe2 fe3
      obtain ⟨e0, e1, e2, e3⟩ := cell4 GB.out
      have fe0 := free_at ((Ext.refl none' _).heap GB.out fun h => h) 0
      have fe1 := free_at ((Ext.refl none' _).heap GB.out fun h => h) 1
      have fe2 := free_at ((Ext.refl none' _).heap GB.out fun h => h) 2
      have fe3 := free_at ((Ext.refl none' _).heap GB.out fun h => h) 3
      go_wp2_with fail
      obtain ⟨ws1, hWS⟩ : ∃ W, W = ((((ws0.setCell ⟨DB, 0, none⟩ (.int .i64 (t.kid 1).kind)).setCell ⟨DB, 1, none⟩ (.string ⟨(t.kid 1).text.toArray⟩)).setCell ⟨DB, 2, none⟩ (.slice ka1 (t.kid 1).kids.length kc1)).setCell ⟨DB, 3, none⟩ (.int .i64 (t.kid 1).pos)) := ⟨_, rfl⟩
      rw [← hWS]
      have hne := HNE.out
      have XS1 := hid (show Ext none' W0 ws1 by rw [hWS]; exact ((XS0.out).set4 (b := DB) (.inr HDB.out) _ _ _ _))
      have GSB := hid (show ws1.heap[DB]? = some (.cells #[.int .i64 (t.kid 1).kind, .string ⟨(t.kid 1).text.toArray⟩, .slice ka1 (t.kid 1).kids.length kc1, .int .i64 (t.kid 1).pos] 24 (0, 0)) by rw [hWS]; exact set4n GB.out _ _ _ _)
      have GSA := hid (show ws1.heap[DA]? = some (.cells #[.int .i64 (t.kid 0).kind, .string ⟨(t.kid 0).text.toArray⟩, .slice ka0 (t.kid 0).kids.length kc0, .int .i64 (t.kid 0).pos] 24 (0, 0)) by rw [hWS]; exact (heap_setCell_other (heap_setCell_other (heap_setCell_other (heap_setCell_other GSA.out (by simp only; omega) _) (by simp only; omega) _) (by simp only; omega) _) (by simp only; omega) _))
      refine ⟨In.of XS1.out, ?_⟩
      clear hWS hne e0 e1 e2 e3 fe0 fe1 fe2 fe3
      go_wp2_with fail
      refine ⟨In.of XS1.out, ?_⟩
      go_wp2_with fail
      go_meet
      case rel => exact ⟨DA, DB, rfl, rfl, rfl, hid ⟨GSA.out, GSB.out, XS1.out⟩⟩
    · go_wp2_with fail
      have hltA : DA < wa.heap.size := (Array.getElem?_eq_some_iff.mp GA.out).1
      obtain ⟨DB, hDB⟩ : ∃ D, D = wa.heap.size := ⟨_, rfl⟩
      obtain ⟨wb, hWB⟩ : ∃ W, W = (wa.alloc (.cells #[.int .i64 0, .string ⟨#[]⟩, .slice none 0 0, .int .i64 0] 24)) := ⟨_, rfl⟩
      rw [← hWB, ← hDB]
      have XN1 := hid (show Ext none' W0 wb by rw [hWB]; exact ((XN0.out).alloc _))
      have HDB := hid (show W0.heap.size ≤ DB by rw [hDB]; exact (XN0.out).size)
      have GA := hid (show wb.heap[DA]? = some (.cells #[.int .i64 0, .string ⟨#[]⟩, .slice none 0 0, .int .i64 0] 24 (0, 0)) by rw [hWB]; exact heap_alloc_keep GA.out _)
      have HNE := hid (show DA ≠ DB by omega)
      have GB := hid (show wb.heap[DB]? = some (.cells #[.int .i64 0, .string ⟨#[]⟩, .slice none 0 0, .int .i64 0] 24 (0, 0)) by rw [hWB]; exact heap_alloc_at hDB _)
      clear hWB hDB hltA
      refine ⟨In.of XN1.out, ?_⟩
      go_wp2_with fail
      refine (CL.out _).mono ?_
      rintro e wl ⟨rfl, XL⟩
      have XN2 := hid ((XN1.out).trans XL)
      have GA := hid (XL.heap GA.out fun h => h)
      have GB := hid (XL.heap GB.out fun h => h)
      clear XL
      go_wp2_with fail
      refine ⟨In.of XN2.out, ?_⟩
      obtain ⟨e0, e1, e2, e3⟩ := cell4 GA.out
      have fe0 := free_at ((Ext.refl none' _).heap GA.out fun h => h) 0
      have fe1 := free_at ((Ext.refl none' _).heap GA.out fun h => h) 1
      have fe2 := free_at ((Ext.refl none' _).heap GA.out fun h => h) 2
      have fe3 := free_at ((Ext.refl none' _).heap GA.out fun h => h) 3
      go_wp2_with fail
      obtain ⟨ws0, hWS⟩ : ∃ W, W = ((((wl.setCell ⟨DA, 0, none⟩ (.int .i64 (t.kid 0).kind)).setCell ⟨DA, 1, none⟩ (.string ⟨(t.kid 0).text.toArray⟩)).setCell ⟨DA, 2, none⟩ (.slice ka0 (t.kid 0).kids.length kc0)).setCell ⟨DA, 3, none⟩ (.int .i64 (t.kid 0).pos)) := ⟨_, rfl⟩
      rw [← hWS]
      have hne := HNE.out
      have XS0 := hid (show Ext none' W0 ws0 by rw [hWS]; exact ((XN2.out).set4 (b := DA) (.inr HDA.out) _ _ _ _))
      have GSA := hid (show ws0.heap[DA]? = some (.cells #[.int .i64 (t.kid 0).kind, .string ⟨(t.kid 0).text.toArray⟩, .slice ka0 (t.kid 0).kids.length kc0, .int .i64 (t.kid 0).pos] 24 (0, 0)) by rw [hWS]; exact set4n GA.out _ _ _ _)
      have GB := hid (show ws0.heap[DB]? = some (.cells #[.int .i64 0, .string ⟨#[]⟩, .slice none 0 0, .int .i64 0] 24 (0, 0)) by rw [hWS]; exact (heap_setCell_other (heap_setCell_other (heap_setCell_other (heap_setCell_other GB.out (by simp only; omega) _) (by simp only; omega) _) (by simp only; omega) _) (by simp only; omega) _))
      refine ⟨In.of XS0.out, ?_⟩
      clear hWS hne e0 e1 e2 e3 fe0 fe1 fe2 fe3
      obtain ⟨e0, e1, e2, e3⟩ := cell4 GB.out
      have fe0 := free_at ((Ext.refl none' _).heap GB.out fun h => h) 0
      have fe1 := free_at ((Ext.refl none' _).heap GB.out fun h => h) 1
      have fe2 := free_at ((Ext.refl none' _).heap GB.out fun h => h) 2
      have fe3 := free_at ((Ext.refl none' _).heap GB.out fun h => h) 3
      go_wp2_with fail
      obtain ⟨ws1, hWS⟩ : ∃ W, W = ((((ws0.setCell ⟨DB, 0, none⟩ (.int .i64 (t.kid 1).kind)).setCell ⟨DB, 1, none⟩ (.string ⟨(t.kid 1).text.toArray⟩)).setCell ⟨DB, 2, none⟩ (.slice ka1 (t.kid 1).kids.length kc1)).setCell ⟨DB, 3, none⟩ (.int .i64 (t.kid 1).pos)) := ⟨_, rfl⟩
      rw [← hWS]
      have hne := HNE.out
      have XS1 := hid (show Ext none' W0 ws1 by rw [hWS]; exact ((XS0.out).set4 (b := DB) (.inr HDB.out) _ _ _ _))
      have GSB := hid (show ws1.heap[DB]? = some (.cells #[.int .i64 (t.kid 1).kind, .string ⟨(t.kid 1).text.toArray⟩, .slice ka1 (t.kid 1).kids.length kc1, .int .i64 (t.kid 1).pos] 24 (0, 0)) by rw [hWS]; exact set4n GB.out _ _ _ _)
      have GSA := hid (show ws1.heap[DA]? = some (.cells #[.int .i64 (t.kid 0).kind, .string ⟨(t.kid 0).text.toArray⟩, .slice ka0 (t.kid 0).kids.length kc0, .int .i64 (t.kid 0).pos] 24 (0, 0)) by rw [hWS]; exact (heap_setCell_other (heap_setCell_other (heap_setCell_other (heap_setCell_other GSA.out (by simp only; omega) _) (by simp only; omega) _) (by simp only; omega) _) (by simp only; omega) _))
      refine ⟨In.of XS1.out, ?_⟩
      clear hWS hne e0 e1 e2 e3 fe0 fe1 fe2 fe3
      go_wp2_with fail
      refine ⟨In.of XS1.out, ?_⟩
      go_wp2_with fail
      go_meet
      case rel => exact ⟨DA, DB, rfl, rfl, rfl, hid ⟨GSA.out, GSB.out, XS1.out⟩⟩
  · go_wp2_with fail
    obtain ⟨DB, hDB⟩ : ∃ D, D = W0.heap.size := ⟨_, rfl⟩
    obtain ⟨wb, hWB⟩ : ∃ W, W = (W0.alloc (.cells #[.int .i64 0, .string ⟨#[]⟩, .slice none 0 0, .int .i64 0] 24)).drew := ⟨_, rfl⟩
    rw [← hWB, ← hDB]
    have XN0 := hid (show Ext none' W0 wb by rw [hWB]; exact ((Ext.refl none' W0).alloc _).drew)
    have HDB := hid (show W0.heap.size ≤ DB by rw [hDB]; exact (Ext.refl none' W0).size)
    have GB := hid (show wb.heap[DB]? = some (.cells #[.int .i64 0, .string ⟨#[]⟩, .slice none 0 0, .int .i64 0] 24 (0, 0)) by rw [hWB]; exact heap_alloc_at hDB _)
    clear hWB hDB 
    refine ⟨In.of XN0.out, ?_⟩
    refine ⟨?_, ?_⟩
    · go_wp2_with fail
      refine (CL.out _).mono ?_
      rintro e wl ⟨rfl, XL⟩
      have XN1 := hid ((XN0.out).trans XL)
      have GB := hid (XL.heap GB.out fun h => h)
      clear XL
      go_wp2_with fail
      refine ⟨In.of XN1.out, ?_⟩
      go_wp2_with fail
      have hltB : DB < wl.heap.size := (Array.getElem?_eq_some_iff.mp GB.out).1
      obtain ⟨DA, hDA⟩ : ∃ D, D = wl.heap.size := ⟨_, rfl⟩
      obtain ⟨wa, hWA⟩ : ∃ W, W = (wl.alloc (.cells #[.int .i64 0, .string ⟨#[]⟩, .slice none 0 0, .int .i64 0] 24)) := ⟨_, rfl⟩
      rw [← hWA, ← hDA]
      have XN2 := hid (show Ext none' W0 wa by rw [hWA]; exact ((XN1.out).alloc _))
      have HDA := hid (show W0.heap.size ≤ DA by rw [hDA]; exact (XN1.out).size)
      have GB := hid (show wa.heap[DB]? = some (.cells #[.int .i64 0, .string ⟨#[]⟩, .slice none 0 0, .int .i64 0] 24 (0, 0)) by rw [hWA]; exact heap_alloc_keep GB.out _)
      have HNE := hid (show DB ≠ DA by omega)
      have GA := hid (show wa.heap[DA]? = some (.cells #[.int .i64 0, .string ⟨#[]⟩, .slice none 0 0, .int .i64 0] 24 (0, 0)) by rw [hWA]; exact heap_alloc_at hDA _)
      clear hWA hDA hltB
      refine ⟨In.of XN2.out, ?_⟩
      obtain ⟨e0, e1, e2, e3⟩ := cell4 GA.out
      have fe0 := free_at ((Ext.refl none' _).heap GA.out fun h => h) 0
      have fe1 := free_at ((Ext.refl none' _).heap GA.out fun h => h) 1
      have fe2 := free_at ((Ext.refl none' _).heap GA.out fun h => h) 2
      have fe3 := free_at ((Ext.refl none' _).heap GA.out fun h => h) 3
      go_wp2_with fail
      obtain ⟨ws0, hWS⟩ : ∃ W, W = ((((wa.setCell ⟨DA, 0, none⟩ (.int .i64 (t.kid 0).kind)).setCell ⟨DA, 1, none⟩ (.string ⟨(t.kid 0).text.toArray⟩)).setCell ⟨DA, 2, none⟩ (.slice ka0 (t.kid 0).kids.length kc0)).setCell ⟨DA, 3, none⟩ (.int .i64 (t.kid 0).pos)) := ⟨_, rfl⟩
      rw [← hWS]
      have hne := HNE.out
      have XS0 := hid (show Ext none' W0 ws0 by rw [hWS]; exact ((XN2.out).set4 (b := DA) (.inr HDA.out) _ _ _ _))
      have GSA := hid (show ws0.heap[DA]? = some (.cells #[.int .i64 (t.kid 0).kind, .string ⟨(t.kid 0).text.toArray⟩, .slice ka0 (t.kid 0).kids.length kc0, .int .i64 (t.kid 0).pos] 24 (0, 0)) by rw [hWS]; exact set4n GA.out _ _ _ _)
      have GB := hid (show ws0.heap[DB]? = some (.cells #[.int .i64 0, .string ⟨#[]⟩, .slice none 0 0, .int .i64 0] 24 (0, 0)) by rw [hWS]; exact (heap_setCell_other (heap_setCell_other (heap_setCell_other (heap_setCell_other GB.out (by simp only; omega) _) (by simp only; omega) _) (by simp only; omega) _) (by simp only; omega) _))
      refine ⟨In.of XS0.out, ?_⟩
      clear hWS hne e0 e1 e2 e3 fe0 fe1 fe2 fe3
      obtain ⟨e0, e1, e2, e3⟩ := cell4 GB.out
      have fe0 := free_at ((Ext.refl none' _).heap GB.out fun h => h) 0
      have fe1 := free_at ((Ext.refl none' _).heap GB.out fun h => h) 1
      have fe2 := free_at ((Ext.refl none' _).heap GB.out fun h => h) 2
      have fe3 := free_at ((Ext.refl none' _).heap GB.out fun h => h) 3
      go_wp2_with fail
      obtain ⟨ws1, hWS⟩ : ∃ W, W = ((((ws0.setCell ⟨DB, 0, none⟩ (.int .i64 (t.kid 1).kind)).setCell ⟨DB, 1, none⟩ (.string ⟨(t.kid 1).text.toArray⟩)).setCell ⟨DB, 2, none⟩ (.slice ka1 (t.kid 1).kids.length kc1)).setCell ⟨DB, 3, none⟩ (.int .i64 (t.kid 1).pos)) := ⟨_, rfl⟩
      rw [← hWS]
      have hne := HNE.out
      have XS1 := hid (show Ext none' W0 ws1 by rw [hWS]; exact ((XS0.out).set4 (b := DB) (.inr HDB.out) _ _ _ _))
      have GSB := hid (show ws1.heap[DB]? = some (.cells #[.int .i64 (t.kid 1).kind, .string ⟨(t.kid 1).text.toArray⟩, .slice ka1 (t.kid 1).kids.length kc1, .int .i64 (t.kid 1).pos] 24 (0, 0)) by rw [hWS]; exact set4n GB.out _ _ _ _)
      have GSA := hid (show ws1.heap[DA]? = some (.cells #[.int .i64 (t.kid 0).kind, .string ⟨(t.kid 0).text.toArray⟩, .slice ka0 (t.kid 0).kids.length kc0, .int .i64 (t.kid 0).pos] 24 (0, 0)) by rw [hWS]; exact (heap_setCell_other (heap_setCell_other (heap_setCell_other (heap_setCell_other GSA.out (by simp only; omega) _) (by simp only; omega) _) (by simp only; omega) _) (by simp only; omega) _))
      refine ⟨In.of XS1.out, ?_⟩
      clear hWS hne e0 e1 e2 e3 fe0 fe1 fe2 fe3
      go_wp2_with fail
      refine ⟨In.of XS1.out, ?_⟩
      go_wp2_with fail
      go_meet
      case rel => exact ⟨DA, DB, rfl, rfl, rfl, hid ⟨GSA.out, GSB.out, XS1.out⟩⟩
    · go_wp2_with fail
      have hltB : DB < wb.heap.size := (Array.getElem?_eq_some_iff.mp GB.out).1
      obtain ⟨DA, hDA⟩ : ∃ D, D = wb.heap.size := ⟨_, rfl⟩
      obtain ⟨wa, hWA⟩ : ∃ W, W = (wb.alloc (.cells #[.int .i64 0, .string ⟨#[]⟩, .slice none 0 0, .int .i64 0] 24)) := ⟨_, rfl⟩
      rw [← hWA, ← hDA]
      have XN1 := hid (show Ext none' W0 wa by rw [hWA]; exact ((XN0.out).alloc _))
      have HDA := hid (show W0.heap.size ≤ DA by rw [hDA]; exact (XN0.out).size)
      have GB := hid (show wa.heap[DB]? = some (.cells #[.int .i64 0, .string ⟨#[]⟩, .slice none 0 0, .int .i64 0] 24 (0, 0)) by rw [hWA]; exact heap_alloc_keep GB.out _)
      have HNE := hid (show DB ≠ DA by omega)
      have GA := hid (show wa.heap[DA]? = some (.cells #[.int .i64 0, .string ⟨#[]⟩, .slice none 0 0, .int .i64 0] 24 (0, 0)) by rw [hWA]; exact heap_alloc_at hDA _)
      clear hWA hDA hltB
      refine ⟨In.of XN1.out, ?_⟩
      go_wp2_with fail
      refine (CL.out _).mono ?_
      rintro e wl ⟨rfl, XL⟩
      have XN2 := hid ((XN1.out).trans XL)
      have GB := hid (XL.heap GB.out fun h => h)
      have GA := hid (XL.heap GA.out fun h => h)
      clear XL
      go_wp2_with fail
      refine ⟨In.of XN2.out, ?_⟩
      obtain ⟨e0, e1, e2, e3⟩ := cell4 GA.out
      have fe0 := free_at ((Ext.refl none' _).heap GA.out fun h => h) 0
      have fe1 := free_at ((Ext.refl none' _).heap GA.out fun h => h) 1
      have fe2 := free_at ((Ext.refl none' _).heap GA.out fun h => h) 2
      have fe3 := free_at ((Ext.refl none' _).heap GA.out fun h => h) 3
      go_wp2_with fail
      obtain ⟨ws0, hWS⟩ : ∃ W, W = ((((wl.setCell ⟨DA, 0, none⟩ (.int .i64 (t.kid 0).kind)).setCell ⟨DA, 1, none⟩ (.string ⟨(t.kid 0).text.toArray⟩)).setCell ⟨DA, 2, none⟩ (.slice ka0 (t.kid 0).kids.length kc0)).setCell ⟨DA, 3, none⟩ (.int .i64 (t.kid 0).pos)) := ⟨_, rfl⟩
      rw [← hWS]
      have hne := HNE.out
      have XS0 := hid (show Ext none' W0 ws0 by rw [hWS]; exact ((XN2.out).set4 (b := DA) (.inr HDA.out) _ _ _ _))
      have GSA := hid (show ws0.heap[DA]? = some (.cells #[.int .i64 (t.kid 0).kind, .string ⟨(t.kid 0).text.toArray⟩, .slice ka0 (t.kid 0).kids.length kc0, .int .i64 (t.kid 0).pos] 24 (0, 0)) by rw [hWS]; exact set4n GA.out _ _ _ _)
      have GB := hid (show ws0.heap[DB]? = some (.cells #[.int .i64 0, .string ⟨#[]⟩, .slice none 0 0, .int .i64 0] 24 (0, 0)) by rw [hWS]; exact (heap_setCell_other (heap_setCell_other (heap_setCell_other (heap_setCell_other GB.out (by simp only; omega) _) (by simp only; omega) _) (by simp only; omega) _) (by simp only; omega) _))
      refine ⟨In.of XS0.out, ?_⟩
      clear hWS hne e0 e1 e2 e3 fe0 fe1 fe2 fe3
      obtain ⟨e0, e1, e2, e3⟩ := cell4 GB.out
      have fe0 := free_at ((Ext.refl none' _).heap GB.out fun h => h) 0
      have fe1 := free_at ((Ext.refl none' _).heap GB.out fun h => h) 1
      have fe2 := free_at ((Ext.refl none' _).heap GB.out fun h => h) 2
      have fe3 := free_at ((Ext.refl none' _).heap GB.out fun h => h) 3
      go_wp2_with fail
      obtain ⟨ws1, hWS⟩ : ∃ W, W = ((((ws0.setCell ⟨DB, 0, none⟩ (.int .i64 (t.kid 1).kind)).setCell ⟨DB, 1, none⟩ (.string ⟨(t.kid 1).text.toArray⟩)).setCell ⟨DB, 2, none⟩ (.slice ka1 (t.kid 1).kids.length kc1)).setCell ⟨DB, 3, none⟩ (.int .i64 (t.kid 1).pos)) := ⟨_, rfl⟩
      rw [← hWS]
      have hne := HNE.out
      have XS1 := hid (show Ext none' W0 ws1 by rw [hWS]; exact ((XS0.out).set4 (b := DB) (.inr HDB.out) _ _ _ _))
      have GSB := hid (show ws1.heap[DB]? = some (.cells #[.int .i64 (t.kid 1).kind, .string ⟨(t.kid 1).text.toArray⟩, .slice ka1 (t.kid 1).kids.length kc1, .int .i64 (t.kid 1).pos] 24 (0, 0)) by rw [hWS]; exact set4n GB.out _ _ _ _)
      have GSA := hid (show ws1.heap[DA]? = some (.cells #[.int .i64 (t.kid 0).kind, .string ⟨(t.kid 0).text.toArray⟩, .slice ka0 (t.kid 0).kids.length kc0, .int .i64 (t.kid 0).pos] 24 (0, 0)) by rw [hWS]; exact (heap_setCell_other (heap_setCell_other (heap_setCell_other (heap_setCell_other GSA.out (by simp only; omega) _) (by simp only; omega) _) (by simp only; omega) _) (by simp only; omega) _))
      refine ⟨In.of XS1.out, ?_⟩
      clear hWS hne e0 e1 e2 e3 fe0 fe1 fe2 fe3
      go_wp2_with fail
      refine ⟨In.of XS1.out, ?_⟩
      go_wp2_with fail
      go_meet
      case rel => exact ⟨DA, DB, rfl, rfl, rfl, hid ⟨GSA.out, GSB.out, XS1.out⟩⟩
 obtain ⟨p3, p4, rfl, rfl, rfl, HW⟩ := hcut
 have G3 := hid HW.out.1
 have G4 := hid HW.out.2.1
 have XX := hid HW.out.2.2
 clear HW c0 c1 c2 c3
 go_upto_region 9 with (fail)
 have c1 := fun t' : LaterF none' wc => cell_at ((XX.out.trans t'.x).heap G0.out fun h => h) 1
 simp only [List.getElem?_toArray, List.getElem?_cons_zero, List.getElem?_cons_succ] at c1
 obtain ⟨g0, g1, g2, g3⟩ := cell4L fun t' : LaterF none' wc => (t'.x).heap G3.out fun h => h
 obtain ⟨j0, j1, j2, j3⟩ := cell4L fun t' : LaterF none' wc => (t'.x).heap G4.out fun h => h
 cases e0
 case false =>
  obtain ⟨rfl⟩ : Hid (yy0 = false) := hid (by rw [HY0.out]; rfl)
  refine region_q none' wc (.qs [0, 1, 2, 3, 4, 5, 6, 8, 11, 12, 15, 16, 19, 20, 21, 22, 30, 31] (.one 7 true (.qs [9, 10] (.one 13 true (.qs [14, 17, 18, 23, 24, 25, 27] (.one 26 true (.qs [28, 29] (.one 32 true (.qs [33, 34] .fin))))))))) (by kernel_rfl) (by kernel_rfl) (fun dst v c a w h => by cases dst <;> exact h) ?_
  refine ⟨In.of (Ext.refl _ _).drew, ?_⟩
  change wpQuiet _ _ (fun w' => ∃ t : LaterF none' wc, w' = t.w) _ _ _
  simp only [sel, List.getElem?_cons_succ, List.getElem?_cons_zero]
  repeat (go_big_quiet_step (fail))
  refine wpQuiet_nil ?_
  simp only [wpTreeQ, stepT, sel, List.getElem?_cons_succ, List.getElem?_cons_zero]
  have D1 := hid (Ext.refl none' wc).drew
  clear c1 g0 g1 g2 g3 j0 j1 j2 j3
  have XA := D1
  refine ⟨In.of XA.out, In.of XA.out, ?_⟩
  change wpQuiet _ _ (fun w' => ∃ t : LaterF none' wc, w' = t.w) _ _ _
  refine wpQuiet_putSame (d := 72) (v := Go.undef) (by kernel_rfl) ?_
  repeat (go_big_quiet_step (fail))
  refine wpQuiet_nil ?_
  go_wp2_with fail
  refine (C0.out _ (XX.out.trans XA.out)).mono ?_
  rintro e wb ⟨rfl, X2⟩
  have XB := hid (XA.out.trans X2)
  clear X2
  go_wp2_with fail
  cases e1
  case false =>
   obtain ⟨rfl⟩ : Hid (yy1 = false) := hid (by rw [HY1.out]; rfl)
   have j1 := fun t' : LaterF none' wc => cell_at ((t'.x).heap G4.out fun h => h) 1
   simp only [List.getElem?_toArray, List.getElem?_cons_zero, List.getElem?_cons_succ] at j1
   refine ⟨In.of XB.out, In.of XB.out, ?_⟩
   change wpQuiet _ _ (fun w' => ∃ t : LaterF none' wc, w' = t.w) _ _ _
   repeat (go_big_quiet_step (fail))
   refine wpQuiet_nil ?_
   clear j1
   have XC := XB
   refine ⟨In.of XC.out, In.of XC.out, ?_⟩
   change wpQuiet _ _ (fun w' => ∃ t : LaterF none' wc, w' = t.w) _ _ _
   refine wpQuiet_putSame (d := 91) (v := Go.undef) (by kernel_rfl) ?_
   repeat (go_big_quiet_step (fail))
   refine wpQuiet_nil ?_
   go_wp2_with fail
   refine (C1.out _ (XX.out.trans XC.out)).mono ?_
   rintro e we ⟨rfl, X2⟩
   have XD := hid (XC.out.trans X2)
   go_wp2_with fail
   refine ⟨In.of XD.out, In.of XD.out, ?_⟩
   change wpQuiet _ _ (fun w' => ∃ t : LaterF none' wc, w' = t.w) _ _ _
   repeat (go_big_quiet_step (fail))
   refine wpQuiet_nil ?_
   have XX := hid (XX.out.trans XD.out)
   go_wp2_with fail
   go_ret
   exact ⟨by first | (rw [HR.out]; done) | (rw [HR.out]; simp [wFunc]), X0.out.trans XX.out⟩
  obtain ⟨rfl⟩ : Hid (yy1 = decide (p1 ≤ pp)) := hid (by rw [HY1.out]; rfl)
  have j1 := fun t' : LaterF none' wc => cell_at ((t'.x).heap G4.out fun h => h) 1
  simp only [List.getElem?_toArray, List.getElem?_cons_zero, List.getElem?_cons_succ] at j1
  refine ⟨In.of XB.out, In.of XB.out, ?_⟩
  change wpQuiet _ _ (fun w' => ∃ t : LaterF none' wc, w' = t.w) _ _ _
  repeat (go_big_quiet_step (fail))
  refine wpQuiet_nil ?_
  clear j1
  go_wp2_with fail
  refine (T1.out _).mono ?_
  rintro e wd ⟨rfl, X2⟩
  have XC := hid (XB.out.trans X2)
  clear X2
  go_wp2_with fail
  refine ⟨In.of XC.out, In.of XC.out, ?_⟩
  change wpQuiet _ _ (fun w' => ∃ t : LaterF none' wc, w' = t.w) _ _ _
  repeat (go_big_quiet_step (fail))
  refine wpQuiet_nil ?_
  go_wp2_with fail
  refine (C1.out _ (XX.out.trans XC.out)).mono ?_
  rintro e we ⟨rfl, X2⟩
  have XD := hid (XC.out.trans X2)
  go_wp2_with fail
  refine ⟨In.of XD.out, In.of XD.out, ?_⟩
  change wpQuiet _ _ (fun w' => ∃ t : LaterF none' wc, w' = t.w) _ _ _
  repeat (go_big_quiet_step (fail))
  refine wpQuiet_nil ?_
  have XX := hid (XX.out.trans XD.out)
  go_wp2_with fail
  go_ret
  exact ⟨by first | (rw [HR.out]; done) | (rw [HR.out]; simp [wFunc]), X0.out.trans XX.out⟩
 obtain ⟨rfl⟩ : Hid (yy0 = decide (p0 < pp)) := hid (by rw [HY0.out]; rfl)
 refine region_q none' wc (.qs [0, 1, 2, 3, 4, 5, 6, 8, 11, 12, 15, 16, 19, 20, 21, 22, 30, 31] (.one 7 true (.qs [9, 10] (.one 13 true (.qs [14, 17, 18, 23, 24, 25, 27] (.one 26 true (.qs [28, 29] (.one 32 true (.qs [33, 34] .fin))))))))) (by kernel_rfl) (by kernel_rfl) (fun dst v c a w h => by cases dst <;> exact h) ?_
 refine ⟨In.of (Ext.refl _ _).drew, ?_⟩
 change wpQuiet _ _ (fun w' => ∃ t : LaterF none' wc, w' = t.w) _ _ _
 simp only [sel, List.getElem?_cons_succ, List.getElem?_cons_zero]
 repeat (go_big_quiet_step (fail))
 refine wpQuiet_nil ?_
 simp only [wpTreeQ, stepT, sel, List.getElem?_cons_succ, List.getElem?_cons_zero]
 have D1 := hid (Ext.refl none' wc).drew
 clear c1 g0 g1 g2 g3 j0 j1 j2 j3
 go_wp2_with fail
 refine (T0.out _).mono ?_
 rintro e wa ⟨rfl, X2⟩
 have XA := hid (D1.out.trans X2)
 clear X2
 go_wp2_with fail
 refine ⟨In.of XA.out, In.of XA.out, ?_⟩
 change wpQuiet _ _ (fun w' => ∃ t : LaterF none' wc, w' = t.w) _ _ _
 repeat (go_big_quiet_step (fail))
 refine wpQuiet_nil ?_
 go_wp2_with fail
 refine (C0.out _ (XX.out.trans XA.out)).mono ?_
 rintro e wb ⟨rfl, X2⟩
 have XB := hid (XA.out.trans X2)
 clear X2
 go_wp2_with fail
 cases e1
 case false =>
  obtain ⟨rfl⟩ : Hid (yy1 = false) := hid (by rw [HY1.out]; rfl)
  have j1 := fun t' : LaterF none' wc => cell_at ((t'.x).heap G4.out fun h => h) 1
  simp only [List.getElem?_toArray, List.getElem?_cons_zero, List.getElem?_cons_succ] at j1
  refine ⟨In.of XB.out, In.of XB.out, ?_⟩
  change wpQuiet _ _ (fun w' => ∃ t : LaterF none' wc, w' = t.w) _ _ _
  repeat (go_big_quiet_step (fail))
  refine wpQuiet_nil ?_
  clear j1
  have XC := XB
  refine ⟨In.of XC.out, In.of XC.out, ?_⟩
  change wpQuiet _ _ (fun w' => ∃ t : LaterF none' wc, w' = t.w) _ _ _
  refine wpQuiet_putSame (d := 91) (v := Go.undef) (by kernel_rfl) ?_
  repeat (go_big_quiet_step (fail))
  refine wpQuiet_nil ?_
  go_wp2_with fail
  refine (C1.out _ (XX.out.trans XC.out)).mono ?_
  rintro e we ⟨rfl, X2⟩
  have XD := hid (XC.out.trans X2)
  go_wp2_with fail
  refine ⟨In.of XD.out, In.of XD.out, ?_⟩
  change wpQuiet _ _ (fun w' => ∃ t : LaterF none' wc, w' = t.w) _ _ _
  repeat (go_big_quiet_step (fail))
  refine wpQuiet_nil ?_
  have XX := hid (XX.out.trans XD.out)
  go_wp2_with fail
  go_ret
  exact ⟨by first | (rw [HR.out]; done) | (rw [HR.out]; simp [wFunc]), X0.out.trans XX.out⟩
 obtain ⟨rfl⟩ : Hid (yy1 = decide (p1 ≤ pp)) := hid (by rw [HY1.out]; rfl)
 have j1 := fun t' : LaterF none' wc => cell_at ((t'.x).heap G4.out fun h => h) 1
 simp only [List.getElem?_toArray, List.getElem?_cons_zero, List.getElem?_cons_succ] at j1
 refine ⟨In.of XB.out, In.of XB.out, ?_⟩
 change wpQuiet _ _ (fun w' => ∃ t : LaterF none' wc, w' = t.w) _ _ _
 repeat (go_big_quiet_step (fail))
 refine wpQuiet_nil ?_
 clear j1
 go_wp2_with fail
 refine (T1.out _).mono ?_
 rintro e wd ⟨rfl, X2⟩
 have XC := hid (XB.out.trans X2)
 clear X2
 go_wp2_with fail
 refine ⟨In.of XC.out, In.of XC.out, ?_⟩
 change wpQuiet _ _ (fun w' => ∃ t : LaterF none' wc, w' = t.w) _ _ _
 repeat (go_big_quiet_step (fail))
 refine wpQuiet_nil ?_
 go_wp2_with fail
 refine (C1.out _ (XX.out.trans XC.out)).mono ?_
 rintro e we ⟨rfl, X2⟩
 have XD := hid (XC.out.trans X2)
 go_wp2_with fail
 refine ⟨In.of XD.out, In.of XD.out, ?_⟩
 change wpQuiet _ _ (fun w' => ∃ t : LaterF none' wc, w' = t.w) _ _ _
 repeat (go_big_quiet_step (fail))
 refine wpQuiet_nil ?_
 have XX := hid (XX.out.trans XD.out)
 go_wp2_with fail
 go_ret
 exact ⟨by first | (rw [HR.out]; done) | (rw [HR.out]; simp [wFunc]), X0.out.trans XX.out⟩
end Go.Proofs.YthbmjamgidfneaaGreatDoor
