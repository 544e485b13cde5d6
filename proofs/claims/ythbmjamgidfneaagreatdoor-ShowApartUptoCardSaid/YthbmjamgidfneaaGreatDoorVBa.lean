import Derived.Test.YthbmjamgidfneaaGreatDoorVAb
import Derived.Test.YthbmjamgidfneaaGreatDoorVAf
import Derived.Test.YthbmjamgidfneaaGreatDoorVAy
import Derived.Test.YthbmjamgidfneaaGreatDoorVAz
import Derived.Test.YthbmjamgidfneaaGreatDoorProg
import Derived.Deep.Slices
import Derived.ChangeMaps5
import Derived.Test.YthbmjamgidfneaaGreatDoorRows
import Derived.Deep.Strs
import Derived.Lib.SmallJoins
set_option maxRecDepth 100000
set_option maxHeartbeats 6400000
namespace Go.Proofs.YthbmjamgidfneaaGreatDoor
open Go.RowKit Go.Lib Go.BigFrame
set_option linter.unusedVariables false
set_option linter.unusedSimpArgs false
theorem law_apart (a b : Nd) (hs : a.size + b.size ≤ 1048576) (va vb : Value) (w : World) (hm : MaxL w) (ha : NdV none' w a va) (hb : NdV none' w b vb) :
  Calls Tryz.prog 4 #[va, vb] w (TruePost w) := by
 obtain ⟨F, hF⟩ : ∃ F, F = 1048577 := ⟨_, rfl⟩
 have CA := hid fun W (X : Ext none' w W) => awake_any W (maxL_later hm X)
 have CS := hid fun W (X : Ext none' w W) => (show Calls Tryz.prog 13 #[va, vb, .int .i64 200] W (BoolP (sameN 200 a b) W) from nsame_any 200 (by omega) a b (by unfold bigD; omega) (by unfold bigD; omega) va vb W (ha.ext X fun _ _ h => h) (hb.ext X fun _ _ h => h))
 have HE := hid fun (h1 : rightB (exF F a) a = true) (h2 : rightB (exF F b) b = true) => apart_ex (f := F) (a := a) (b := b) (by omega) (by omega) h1 h2
 have HY := hid fun (h1 : rightB (tyF nmB F a) a = true) (h2 : rightB (tyF nmB F b) b = true) => apart_ty (f := F) (a := a) (b := b) h1 h2
 have CZa := hid fun W (X : Ext none' w W) => small_any a 300 (by omega) (by unfold bigD; omega) va W (ha.ext X fun _ _ h => h)
 have CEa := hid fun W (X : Ext none' w W) => (show Calls Tryz.prog 10 #[va, .string ⟨#[101, 120, 112, 114, 101, 115, 115, 105, 111, 110]⟩] W (TextPost (rightB (exF F a) a) (exT F 0 false a) W) from exprText_any F (by omega) a (by omega) va W (maxL_later hm X) (ha.ext X fun _ _ h => h))
 have CTa := hid fun W (X : Ext none' w W) => (show Calls Tryz.prog 10 #[va, .string ⟨#[116, 121, 112, 101]⟩] W (TextPost (rightB (tyF nmB F a) a) (typF F a) W) from typeText_any F (by unfold bigD; omega) a (by omega) va W (ha.ext X fun _ _ h => h))
 obtain ⟨za, hza⟩ : ∃ z, decide (sizeD 1000 a ≤ 300) = z := ⟨_, rfl⟩
 obtain ⟨pa, hpa⟩ : ∃ z, rightB (exF F a) a = z := ⟨_, rfl⟩
 obtain ⟨ta, hta⟩ : ∃ z, rightB (tyF nmB F a) a = z := ⟨_, rfl⟩
 obtain ⟨qa, hqa⟩ : ∃ z, exT F 0 false a = z := ⟨_, rfl⟩
 obtain ⟨ra, hra⟩ : ∃ z, typF F a = z := ⟨_, rfl⟩
 rw [hza] at CZa
 rw [hpa] at CEa HE
 rw [hqa] at CEa HE
 rw [hta] at CTa HY
 rw [hra] at CTa HY
 clear hza hpa hta hqa hra
 have CZb := hid fun W (X : Ext none' w W) => small_any b 300 (by omega) (by unfold bigD; omega) vb W (hb.ext X fun _ _ h => h)
 have CEb := hid fun W (X : Ext none' w W) => (show Calls Tryz.prog 10 #[vb, .string ⟨#[101, 120, 112, 114, 101, 115, 115, 105, 111, 110]⟩] W (TextPost (rightB (exF F b) b) (exT F 0 false b) W) from exprText_any F (by omega) b (by omega) vb W (maxL_later hm X) (hb.ext X fun _ _ h => h))
 have CTb := hid fun W (X : Ext none' w W) => (show Calls Tryz.prog 10 #[vb, .string ⟨#[116, 121, 112, 101]⟩] W (TextPost (rightB (tyF nmB F b) b) (typF F b) W) from typeText_any F (by unfold bigD; omega) b (by omega) vb W (hb.ext X fun _ _ h => h))
 obtain ⟨zb, hzb⟩ : ∃ z, decide (sizeD 1000 b ≤ 300) = z := ⟨_, rfl⟩
 obtain ⟨pb, hpb⟩ : ∃ z, rightB (exF F b) b = z := ⟨_, rfl⟩
 obtain ⟨tb, htb⟩ : ∃ z, rightB (tyF nmB F b) b = z := ⟨_, rfl⟩
 obtain ⟨qb, hqb⟩ : ∃ z, exT F 0 false b = z := ⟨_, rfl⟩
 obtain ⟨rb, hrb⟩ : ∃ z, typF F b = z := ⟨_, rfl⟩
 rw [hzb] at CZb
 rw [hpb] at CEb HE
 rw [hqb] at CEb HE
 rw [htb] at CTb HY
 rw [hrb] at CTb HY
 clear hzb hpb htb hqb hrb
 obtain ⟨S, hS⟩ : ∃ z, sameN 200 a b = z := ⟨_, rfl⟩
 rw [hS] at CS HE HY
 clear hS hF
 obtain ⟨ya, rfl, ha⟩ := ha
 obtain ⟨a1, ac, rfl, _⟩ := ha
 obtain ⟨yb, rfl, hb⟩ := hb
 obtain ⟨b1, bc, rfl, _⟩ := hb
 obtain ⟨B, hB⟩ : ∃ B, B = w.heap.size := ⟨_, rfl⟩
 obtain ⟨W0, hW0⟩ : ∃ W0, W0 = (w.alloc (.cells #[.int .i64 a.kind, .string ⟨a.text.toArray⟩, .slice a1 a.kids.length ac, .int .i64 a.pos] 24)).alloc (.cells #[.int .i64 b.kind, .string ⟨b.text.toArray⟩, .slice b1 b.kids.length bc, .int .i64 b.pos] 24) := ⟨_, rfl⟩
 have XX := hid (show Ext none' w W0 by rw [hW0]; exact ((Ext.refl _ _).alloc _).alloc _)
 have GA := hid (show W0.heap[B]? = some (.cells #[.int .i64 a.kind, .string ⟨a.text.toArray⟩, .slice a1 a.kids.length ac, .int .i64 a.pos] 24 (0, 0)) by rw [hW0]; exact heap_alloc_keep (heap_alloc_at hB _) _)
 have GB := hid (show W0.heap[B + 1]? = some (.cells #[.int .i64 b.kind, .string ⟨b.text.toArray⟩, .slice b1 b.kids.length bc, .int .i64 b.pos] 24 (0, 0)) by rw [hW0]; exact heap_alloc_at (by rw [hB]; simp) _)
 clear hm hs
 go_enter Tryz.func4, Tryz.ntmps4
 go_upto_region 1 with (fail)
 rw [← hW0, ← hB]
 clear hW0 hB
 obtain ⟨c0, c1, c2, c3⟩ := cell4 GA.out
 obtain ⟨d0, d1, d2, d3⟩ := cell4 GB.out
 go_wp2_with fail
 refine (CZa.out _ XX.out).mono ?_
 rintro e w1 ⟨rfl, X⟩
 have GA := hid (X.heap GA.out fun h => h)
 have GB := hid (X.heap GB.out fun h => h)
 have XX := hid (XX.out.trans X)
 clear X c0 c1 c2 c3 d0 d1 d2 d3
 obtain ⟨c0, c1, c2, c3⟩ := cell4 GA.out
 obtain ⟨d0, d1, d2, d3⟩ := cell4 GB.out
 cases za
 case false =>
  go_wp2_with fail
  go_ret
  exact ⟨rfl, XX.out⟩
 go_wp2_with fail
 refine (CZb.out _ XX.out).mono ?_
 rintro e w2 ⟨rfl, X⟩
 have GA := hid (X.heap GA.out fun h => h)
 have GB := hid (X.heap GB.out fun h => h)
 have XX := hid (XX.out.trans X)
 clear X c0 c1 c2 c3 d0 d1 d2 d3
 obtain ⟨c0, c1, c2, c3⟩ := cell4 GA.out
 obtain ⟨d0, d1, d2, d3⟩ := cell4 GB.out
 cases zb
 case false =>
  go_wp2_with fail
  go_ret
  exact ⟨rfl, XX.out⟩
 cases pa <;> cases pb
 · clear HE
   go_wp2_with fail
   refine (CEa.out _ XX.out).mono ?_
   rintro e w3 ⟨rfl, X⟩
   have GA := hid (X.heap GA.out fun h => h)
   have GB := hid (X.heap GB.out fun h => h)
   have XX := hid (XX.out.trans X)
   clear X c0 c1 c2 c3 d0 d1 d2 d3
   obtain ⟨c0, c1, c2, c3⟩ := cell4 GA.out
   obtain ⟨d0, d1, d2, d3⟩ := cell4 GB.out
   go_wp2_with fail
   refine (CEb.out _ XX.out).mono ?_
   rintro e w4 ⟨rfl, X⟩
   have GA := hid (X.heap GA.out fun h => h)
   have GB := hid (X.heap GB.out fun h => h)
   have XX := hid (XX.out.trans X)
   clear X c0 c1 c2 c3 d0 d1 d2 d3
   obtain ⟨c0, c1, c2, c3⟩ := cell4 GA.out
   obtain ⟨d0, d1, d2, d3⟩ := cell4 GB.out
   cases ta <;> cases tb
   · clear HY
     go_wp2_with fail
     refine (CTa.out _ XX.out).mono ?_
     rintro e w6 ⟨rfl, X⟩
     have GA := hid (X.heap GA.out fun h => h)
     have GB := hid (X.heap GB.out fun h => h)
     have XX := hid (XX.out.trans X)
     clear X c0 c1 c2 c3 d0 d1 d2 d3
     obtain ⟨c0, c1, c2, c3⟩ := cell4 GA.out
     obtain ⟨d0, d1, d2, d3⟩ := cell4 GB.out
     go_wp2_with fail
     refine (CTb.out _ XX.out).mono ?_
     rintro e w7 ⟨rfl, X⟩
     have GA := hid (X.heap GA.out fun h => h)
     have GB := hid (X.heap GB.out fun h => h)
     have XX := hid (XX.out.trans X)
     clear X c0 c1 c2 c3 d0 d1 d2 d3
     obtain ⟨c0, c1, c2, c3⟩ := cell4 GA.out
     obtain ⟨d0, d1, d2, d3⟩ := cell4 GB.out
     go_wp2_with fail
     refine (CA.out _ XX.out).mono ?_
     rintro e w9 ⟨rfl, X⟩
     have XX := hid (XX.out.trans X)
     go_wp2_with fail
     go_ret
     exact ⟨rfl, XX.out⟩
   · clear HY
     go_wp2_with fail
     refine (CTa.out _ XX.out).mono ?_
     rintro e w6 ⟨rfl, X⟩
     have GA := hid (X.heap GA.out fun h => h)
     have GB := hid (X.heap GB.out fun h => h)
     have XX := hid (XX.out.trans X)
     clear X c0 c1 c2 c3 d0 d1 d2 d3
     obtain ⟨c0, c1, c2, c3⟩ := cell4 GA.out
     obtain ⟨d0, d1, d2, d3⟩ := cell4 GB.out
     go_wp2_with fail
     refine (CTb.out _ XX.out).mono ?_
     rintro e w7 ⟨rfl, X⟩
     have GA := hid (X.heap GA.out fun h => h)
     have GB := hid (X.heap GB.out fun h => h)
     have XX := hid (XX.out.trans X)
     clear X c0 c1 c2 c3 d0 d1 d2 d3
     obtain ⟨c0, c1, c2, c3⟩ := cell4 GA.out
     obtain ⟨d0, d1, d2, d3⟩ := cell4 GB.out
     go_wp2_with fail
     refine (CA.out _ XX.out).mono ?_
     rintro e w9 ⟨rfl, X⟩
     have XX := hid (XX.out.trans X)
     go_wp2_with fail
     go_ret
     exact ⟨rfl, XX.out⟩
   · clear HY
     go_wp2_with fail
     refine (CTa.out _ XX.out).mono ?_
     rintro e w6 ⟨rfl, X⟩
     have GA := hid (X.heap GA.out fun h => h)
     have GB := hid (X.heap GB.out fun h => h)
     have XX := hid (XX.out.trans X)
     clear X c0 c1 c2 c3 d0 d1 d2 d3
     obtain ⟨c0, c1, c2, c3⟩ := cell4 GA.out
     obtain ⟨d0, d1, d2, d3⟩ := cell4 GB.out
     go_wp2_with fail
     refine (CTb.out _ XX.out).mono ?_
     rintro e w7 ⟨rfl, X⟩
     have GA := hid (X.heap GA.out fun h => h)
     have GB := hid (X.heap GB.out fun h => h)
     have XX := hid (XX.out.trans X)
     clear X c0 c1 c2 c3 d0 d1 d2 d3
     obtain ⟨c0, c1, c2, c3⟩ := cell4 GA.out
     obtain ⟨d0, d1, d2, d3⟩ := cell4 GB.out
     go_wp2_with fail
     refine (CA.out _ XX.out).mono ?_
     rintro e w9 ⟨rfl, X⟩
     have XX := hid (XX.out.trans X)
     go_wp2_with fail
     go_ret
     exact ⟨rfl, XX.out⟩
   · have eqY := HY.out rfl rfl
     clear HY
     go_wp2_with fail
     refine (CTa.out _ XX.out).mono ?_
     rintro e w6 ⟨rfl, X⟩
     have GA := hid (X.heap GA.out fun h => h)
     have GB := hid (X.heap GB.out fun h => h)
     have XX := hid (XX.out.trans X)
     clear X c0 c1 c2 c3 d0 d1 d2 d3
     obtain ⟨c0, c1, c2, c3⟩ := cell4 GA.out
     obtain ⟨d0, d1, d2, d3⟩ := cell4 GB.out
     go_wp2_with fail
     refine (CTb.out _ XX.out).mono ?_
     rintro e w7 ⟨rfl, X⟩
     have GA := hid (X.heap GA.out fun h => h)
     have GB := hid (X.heap GB.out fun h => h)
     have XX := hid (XX.out.trans X)
     clear X c0 c1 c2 c3 d0 d1 d2 d3
     obtain ⟨c0, c1, c2, c3⟩ := cell4 GA.out
     obtain ⟨d0, d1, d2, d3⟩ := cell4 GB.out
     go_wp2_with fail
     refine (CS.out _ XX.out).mono ?_
     rintro e w8 ⟨rfl, X⟩
     have GA := hid (X.heap GA.out fun h => h)
     have GB := hid (X.heap GB.out fun h => h)
     have XX := hid (XX.out.trans X)
     clear X c0 c1 c2 c3 d0 d1 d2 d3
     obtain ⟨c0, c1, c2, c3⟩ := cell4 GA.out
     obtain ⟨d0, d1, d2, d3⟩ := cell4 GB.out
     have eqS : (S == S) = true := by simp
     go_wp2_with fail
     refine (CA.out _ XX.out).mono ?_
     rintro e w9 ⟨rfl, X⟩
     have XX := hid (XX.out.trans X)
     go_wp2_with fail
     go_ret
     exact ⟨rfl, XX.out⟩
 · clear HE
   go_wp2_with fail
   refine (CEa.out _ XX.out).mono ?_
   rintro e w3 ⟨rfl, X⟩
   have GA := hid (X.heap GA.out fun h => h)
   have GB := hid (X.heap GB.out fun h => h)
   have XX := hid (XX.out.trans X)
   clear X c0 c1 c2 c3 d0 d1 d2 d3
   obtain ⟨c0, c1, c2, c3⟩ := cell4 GA.out
   obtain ⟨d0, d1, d2, d3⟩ := cell4 GB.out
   go_wp2_with fail
   refine (CEb.out _ XX.out).mono ?_
   rintro e w4 ⟨rfl, X⟩
   have GA := hid (X.heap GA.out fun h => h)
   have GB := hid (X.heap GB.out fun h => h)
   have XX := hid (XX.out.trans X)
   clear X c0 c1 c2 c3 d0 d1 d2 d3
   obtain ⟨c0, c1, c2, c3⟩ := cell4 GA.out
   obtain ⟨d0, d1, d2, d3⟩ := cell4 GB.out
   cases ta <;> cases tb
   · clear HY
     go_wp2_with fail
     refine (CTa.out _ XX.out).mono ?_
     rintro e w6 ⟨rfl, X⟩
     have GA := hid (X.heap GA.out fun h => h)
     have GB := hid (X.heap GB.out fun h => h)
     have XX := hid (XX.out.trans X)
     clear X c0 c1 c2 c3 d0 d1 d2 d3
     obtain ⟨c0, c1, c2, c3⟩ := cell4 GA.out
     obtain ⟨d0, d1, d2, d3⟩ := cell4 GB.out
     go_wp2_with fail
     refine (CTb.out _ XX.out).mono ?_
     rintro e w7 ⟨rfl, X⟩
     have GA := hid (X.heap GA.out fun h => h)
     have GB := hid (X.heap GB.out fun h => h)
     have XX := hid (XX.out.trans X)
     clear X c0 c1 c2 c3 d0 d1 d2 d3
     obtain ⟨c0, c1, c2, c3⟩ := cell4 GA.out
     obtain ⟨d0, d1, d2, d3⟩ := cell4 GB.out
     go_wp2_with fail
     refine (CA.out _ XX.out).mono ?_
     rintro e w9 ⟨rfl, X⟩
     have XX := hid (XX.out.trans X)
     go_wp2_with fail
     go_ret
     exact ⟨rfl, XX.out⟩
   · clear HY
     go_wp2_with fail
     refine (CTa.out _ XX.out).mono ?_
     rintro e w6 ⟨rfl, X⟩
     have GA := hid (X.heap GA.out fun h => h)
     have GB := hid (X.heap GB.out fun h => h)
     have XX := hid (XX.out.trans X)
     clear X c0 c1 c2 c3 d0 d1 d2 d3
     obtain ⟨c0, c1, c2, c3⟩ := cell4 GA.out
     obtain ⟨d0, d1, d2, d3⟩ := cell4 GB.out
     go_wp2_with fail
     refine (CTb.out _ XX.out).mono ?_
     rintro e w7 ⟨rfl, X⟩
     have GA := hid (X.heap GA.out fun h => h)
     have GB := hid (X.heap GB.out fun h => h)
     have XX := hid (XX.out.trans X)
     clear X c0 c1 c2 c3 d0 d1 d2 d3
     obtain ⟨c0, c1, c2, c3⟩ := cell4 GA.out
     obtain ⟨d0, d1, d2, d3⟩ := cell4 GB.out
     go_wp2_with fail
     refine (CA.out _ XX.out).mono ?_
     rintro e w9 ⟨rfl, X⟩
     have XX := hid (XX.out.trans X)
     go_wp2_with fail
     go_ret
     exact ⟨rfl, XX.out⟩
   · clear HY
     go_wp2_with fail
     refine (CTa.out _ XX.out).mono ?_
     rintro e w6 ⟨rfl, X⟩
     have GA := hid (X.heap GA.out fun h => h)
     have GB := hid (X.heap GB.out fun h => h)
     have XX := hid (XX.out.trans X)
     clear X c0 c1 c2 c3 d0 d1 d2 d3
     obtain ⟨c0, c1, c2, c3⟩ := cell4 GA.out
     obtain ⟨d0, d1, d2, d3⟩ := cell4 GB.out
     go_wp2_with fail
     refine (CTb.out _ XX.out).mono ?_
     rintro e w7 ⟨rfl, X⟩
     have GA := hid (X.heap GA.out fun h => h)
     have GB := hid (X.heap GB.out fun h => h)
     have XX := hid (XX.out.trans X)
     clear X c0 c1 c2 c3 d0 d1 d2 d3
     obtain ⟨c0, c1, c2, c3⟩ := cell4 GA.out
     obtain ⟨d0, d1, d2, d3⟩ := cell4 GB.out
     go_wp2_with fail
     refine (CA.out _ XX.out).mono ?_
     rintro e w9 ⟨rfl, X⟩
     have XX := hid (XX.out.trans X)
     go_wp2_with fail
     go_ret
     exact ⟨rfl, XX.out⟩
   · have eqY := HY.out rfl rfl
     clear HY
     go_wp2_with fail
     refine (CTa.out _ XX.out).mono ?_
     rintro e w6 ⟨rfl, X⟩
     have GA := hid (X.heap GA.out fun h => h)
     have GB := hid (X.heap GB.out fun h => h)
     have XX := hid (XX.out.trans X)
     clear X c0 c1 c2 c3 d0 d1 d2 d3
     obtain ⟨c0, c1, c2, c3⟩ := cell4 GA.out
     obtain ⟨d0, d1, d2, d3⟩ := cell4 GB.out
     go_wp2_with fail
     refine (CTb.out _ XX.out).mono ?_
     rintro e w7 ⟨rfl, X⟩
     have GA := hid (X.heap GA.out fun h => h)
     have GB := hid (X.heap GB.out fun h => h)
     have XX := hid (XX.out.trans X)
     clear X c0 c1 c2 c3 d0 d1 d2 d3
     obtain ⟨c0, c1, c2, c3⟩ := cell4 GA.out
     obtain ⟨d0, d1, d2, d3⟩ := cell4 GB.out
     go_wp2_with fail
     refine (CS.out _ XX.out).mono ?_
     rintro e w8 ⟨rfl, X⟩
     have GA := hid (X.heap GA.out fun h => h)
     have GB := hid (X.heap GB.out fun h => h)
     have XX := hid (XX.out.trans X)
     clear X c0 c1 c2 c3 d0 d1 d2 d3
     obtain ⟨c0, c1, c2, c3⟩ := cell4 GA.out
     obtain ⟨d0, d1, d2, d3⟩ := cell4 GB.out
     have eqS : (S == S) = true := by simp
     go_wp2_with fail
     refine (CA.out _ XX.out).mono ?_
     rintro e w9 ⟨rfl, X⟩
     have XX := hid (XX.out.trans X)
     go_wp2_with fail
     go_ret
     exact ⟨rfl, XX.out⟩
 · clear HE
   go_wp2_with fail
   refine (CEa.out _ XX.out).mono ?_
   rintro e w3 ⟨rfl, X⟩
   have GA := hid (X.heap GA.out fun h => h)
   have GB := hid (X.heap GB.out fun h => h)
   have XX := hid (XX.out.trans X)
   clear X c0 c1 c2 c3 d0 d1 d2 d3
   obtain ⟨c0, c1, c2, c3⟩ := cell4 GA.out
   obtain ⟨d0, d1, d2, d3⟩ := cell4 GB.out
   go_wp2_with fail
   refine (CEb.out _ XX.out).mono ?_
   rintro e w4 ⟨rfl, X⟩
   have GA := hid (X.heap GA.out fun h => h)
   have GB := hid (X.heap GB.out fun h => h)
   have XX := hid (XX.out.trans X)
   clear X c0 c1 c2 c3 d0 d1 d2 d3
   obtain ⟨c0, c1, c2, c3⟩ := cell4 GA.out
   obtain ⟨d0, d1, d2, d3⟩ := cell4 GB.out
   cases ta <;> cases tb
   · clear HY
     go_wp2_with fail
     refine (CTa.out _ XX.out).mono ?_
     rintro e w6 ⟨rfl, X⟩
     have GA := hid (X.heap GA.out fun h => h)
     have GB := hid (X.heap GB.out fun h => h)
     have XX := hid (XX.out.trans X)
     clear X c0 c1 c2 c3 d0 d1 d2 d3
     obtain ⟨c0, c1, c2, c3⟩ := cell4 GA.out
     obtain ⟨d0, d1, d2, d3⟩ := cell4 GB.out
     go_wp2_with fail
     refine (CTb.out _ XX.out).mono ?_
     rintro e w7 ⟨rfl, X⟩
     have GA := hid (X.heap GA.out fun h => h)
     have GB := hid (X.heap GB.out fun h => h)
     have XX := hid (XX.out.trans X)
     clear X c0 c1 c2 c3 d0 d1 d2 d3
     obtain ⟨c0, c1, c2, c3⟩ := cell4 GA.out
     obtain ⟨d0, d1, d2, d3⟩ := cell4 GB.out
     go_wp2_with fail
     refine (CA.out _ XX.out).mono ?_
     rintro e w9 ⟨rfl, X⟩
     have XX := hid (XX.out.trans X)
     go_wp2_with fail
     go_ret
     exact ⟨rfl, XX.out⟩
   · clear HY
     go_wp2_with fail
     refine (CTa.out _ XX.out).mono ?_
     rintro e w6 ⟨rfl, X⟩
     have GA := hid (X.heap GA.out fun h => h)
     have GB := hid (X.heap GB.out fun h => h)
     have XX := hid (XX.out.trans X)
     clear X c0 c1 c2 c3 d0 d1 d2 d3
     obtain ⟨c0, c1, c2, c3⟩ := cell4 GA.out
     obtain ⟨d0, d1, d2, d3⟩ := cell4 GB.out
     go_wp2_with fail
     refine (CTb.out _ XX.out).mono ?_
     rintro e w7 ⟨rfl, X⟩
     have GA := hid (X.heap GA.out fun h => h)
     have GB := hid (X.heap GB.out fun h => h)
     have XX := hid (XX.out.trans X)
     clear X c0 c1 c2 c3 d0 d1 d2 d3
     obtain ⟨c0, c1, c2, c3⟩ := cell4 GA.out
     obtain ⟨d0, d1, d2, d3⟩ := cell4 GB.out
     go_wp2_with fail
     refine (CA.out _ XX.out).mono ?_
     rintro e w9 ⟨rfl, X⟩
     have XX := hid (XX.out.trans X)
     go_wp2_with fail
     go_ret
     exact ⟨rfl, XX.out⟩
   · clear HY
     go_wp2_with fail
     refine (CTa.out _ XX.out).mono ?_
     rintro e w6 ⟨rfl, X⟩
     have GA := hid (X.heap GA.out fun h => h)
     have GB := hid (X.heap GB.out fun h => h)
     have XX := hid (XX.out.trans X)
     clear X c0 c1 c2 c3 d0 d1 d2 d3
     obtain ⟨c0, c1, c2, c3⟩ := cell4 GA.out
     obtain ⟨d0, d1, d2, d3⟩ := cell4 GB.out
     go_wp2_with fail
     refine (CTb.out _ XX.out).mono ?_
     rintro e w7 ⟨rfl, X⟩
     have GA := hid (X.heap GA.out fun h => h)
     have GB := hid (X.heap GB.out fun h => h)
     have XX := hid (XX.out.trans X)
     clear X c0 c1 c2 c3 d0 d1 d2 d3
     obtain ⟨c0, c1, c2, c3⟩ := cell4 GA.out
     obtain ⟨d0, d1, d2, d3⟩ := cell4 GB.out
     go_wp2_with fail
     refine (CA.out _ XX.out).mono ?_
     rintro e w9 ⟨rfl, X⟩
     have XX := hid (XX.out.trans X)
     go_wp2_with fail
     go_ret
     exact ⟨rfl, XX.out⟩
   · have eqY := HY.out rfl rfl
     clear HY
     go_wp2_with fail
     refine (CTa.out _ XX.out).mono ?_
     rintro e w6 ⟨rfl, X⟩
     have GA := hid (X.heap GA.out fun h => h)
     have GB := hid (X.heap GB.out fun h => h)
     have XX := hid (XX.out.trans X)
     clear X c0 c1 c2 c3 d0 d1 d2 d3
     obtain ⟨c0, c1, c2, c3⟩ := cell4 GA.out
     obtain ⟨d0, d1, d2, d3⟩ := cell4 GB.out
     go_wp2_with fail
     refine (CTb.out _ XX.out).mono ?_
     rintro e w7 ⟨rfl, X⟩
     have GA := hid (X.heap GA.out fun h => h)
     have GB := hid (X.heap GB.out fun h => h)
     have XX := hid (XX.out.trans X)
     clear X c0 c1 c2 c3 d0 d1 d2 d3
     obtain ⟨c0, c1, c2, c3⟩ := cell4 GA.out
     obtain ⟨d0, d1, d2, d3⟩ := cell4 GB.out
     go_wp2_with fail
     refine (CS.out _ XX.out).mono ?_
     rintro e w8 ⟨rfl, X⟩
     have GA := hid (X.heap GA.out fun h => h)
     have GB := hid (X.heap GB.out fun h => h)
     have XX := hid (XX.out.trans X)
     clear X c0 c1 c2 c3 d0 d1 d2 d3
     obtain ⟨c0, c1, c2, c3⟩ := cell4 GA.out
     obtain ⟨d0, d1, d2, d3⟩ := cell4 GB.out
     have eqS : (S == S) = true := by simp
     go_wp2_with fail
     refine (CA.out _ XX.out).mono ?_
     rintro e w9 ⟨rfl, X⟩
     have XX := hid (XX.out.trans X)
     go_wp2_with fail
     go_ret
     exact ⟨rfl, XX.out⟩
 · have eqE := HE.out rfl rfl
   clear HE
   go_wp2_with fail
   refine (CEa.out _ XX.out).mono ?_
   rintro e w3 ⟨rfl, X⟩
   have GA := hid (X.heap GA.out fun h => h)
   have GB := hid (X.heap GB.out fun h => h)
   have XX := hid (XX.out.trans X)
   clear X c0 c1 c2 c3 d0 d1 d2 d3
   obtain ⟨c0, c1, c2, c3⟩ := cell4 GA.out
   obtain ⟨d0, d1, d2, d3⟩ := cell4 GB.out
   go_wp2_with fail
   refine (CEb.out _ XX.out).mono ?_
   rintro e w4 ⟨rfl, X⟩
   have GA := hid (X.heap GA.out fun h => h)
   have GB := hid (X.heap GB.out fun h => h)
   have XX := hid (XX.out.trans X)
   clear X c0 c1 c2 c3 d0 d1 d2 d3
   obtain ⟨c0, c1, c2, c3⟩ := cell4 GA.out
   obtain ⟨d0, d1, d2, d3⟩ := cell4 GB.out
   go_wp2_with fail
   refine (CS.out _ XX.out).mono ?_
   rintro e w5 ⟨rfl, X⟩
   have GA := hid (X.heap GA.out fun h => h)
   have GB := hid (X.heap GB.out fun h => h)
   have XX := hid (XX.out.trans X)
   clear X c0 c1 c2 c3 d0 d1 d2 d3
   obtain ⟨c0, c1, c2, c3⟩ := cell4 GA.out
   obtain ⟨d0, d1, d2, d3⟩ := cell4 GB.out
   have eqN : (S != S) = false := by simp
   cases ta <;> cases tb
   · clear HY
     go_wp2_with fail
     refine (CTa.out _ XX.out).mono ?_
     rintro e w6 ⟨rfl, X⟩
     have GA := hid (X.heap GA.out fun h => h)
     have GB := hid (X.heap GB.out fun h => h)
     have XX := hid (XX.out.trans X)
     clear X c0 c1 c2 c3 d0 d1 d2 d3
     obtain ⟨c0, c1, c2, c3⟩ := cell4 GA.out
     obtain ⟨d0, d1, d2, d3⟩ := cell4 GB.out
     go_wp2_with fail
     refine (CTb.out _ XX.out).mono ?_
     rintro e w7 ⟨rfl, X⟩
     have GA := hid (X.heap GA.out fun h => h)
     have GB := hid (X.heap GB.out fun h => h)
     have XX := hid (XX.out.trans X)
     clear X c0 c1 c2 c3 d0 d1 d2 d3
     obtain ⟨c0, c1, c2, c3⟩ := cell4 GA.out
     obtain ⟨d0, d1, d2, d3⟩ := cell4 GB.out
     go_wp2_with fail
     refine (CA.out _ XX.out).mono ?_
     rintro e w9 ⟨rfl, X⟩
     have XX := hid (XX.out.trans X)
     go_wp2_with fail
     go_ret
     exact ⟨rfl, XX.out⟩
   · clear HY
     go_wp2_with fail
     refine (CTa.out _ XX.out).mono ?_
     rintro e w6 ⟨rfl, X⟩
     have GA := hid (X.heap GA.out fun h => h)
     have GB := hid (X.heap GB.out fun h => h)
     have XX := hid (XX.out.trans X)
     clear X c0 c1 c2 c3 d0 d1 d2 d3
     obtain ⟨c0, c1, c2, c3⟩ := cell4 GA.out
     obtain ⟨d0, d1, d2, d3⟩ := cell4 GB.out
     go_wp2_with fail
     refine (CTb.out _ XX.out).mono ?_
     rintro e w7 ⟨rfl, X⟩
     have GA := hid (X.heap GA.out fun h => h)
     have GB := hid (X.heap GB.out fun h => h)
     have XX := hid (XX.out.trans X)
     clear X c0 c1 c2 c3 d0 d1 d2 d3
     obtain ⟨c0, c1, c2, c3⟩ := cell4 GA.out
     obtain ⟨d0, d1, d2, d3⟩ := cell4 GB.out
     go_wp2_with fail
     refine (CA.out _ XX.out).mono ?_
     rintro e w9 ⟨rfl, X⟩
     have XX := hid (XX.out.trans X)
     go_wp2_with fail
     go_ret
     exact ⟨rfl, XX.out⟩
   · clear HY
     go_wp2_with fail
     refine (CTa.out _ XX.out).mono ?_
     rintro e w6 ⟨rfl, X⟩
     have GA := hid (X.heap GA.out fun h => h)
     have GB := hid (X.heap GB.out fun h => h)
     have XX := hid (XX.out.trans X)
     clear X c0 c1 c2 c3 d0 d1 d2 d3
     obtain ⟨c0, c1, c2, c3⟩ := cell4 GA.out
     obtain ⟨d0, d1, d2, d3⟩ := cell4 GB.out
     go_wp2_with fail
     refine (CTb.out _ XX.out).mono ?_
     rintro e w7 ⟨rfl, X⟩
     have GA := hid (X.heap GA.out fun h => h)
     have GB := hid (X.heap GB.out fun h => h)
     have XX := hid (XX.out.trans X)
     clear X c0 c1 c2 c3 d0 d1 d2 d3
     obtain ⟨c0, c1, c2, c3⟩ := cell4 GA.out
     obtain ⟨d0, d1, d2, d3⟩ := cell4 GB.out
     go_wp2_with fail
     refine (CA.out _ XX.out).mono ?_
     rintro e w9 ⟨rfl, X⟩
     have XX := hid (XX.out.trans X)
     go_wp2_with fail
     go_ret
     exact ⟨rfl, XX.out⟩
   · have eqY := HY.out rfl rfl
     clear HY
     go_wp2_with fail
     refine (CTa.out _ XX.out).mono ?_
     rintro e w6 ⟨rfl, X⟩
     have GA := hid (X.heap GA.out fun h => h)
     have GB := hid (X.heap GB.out fun h => h)
     have XX := hid (XX.out.trans X)
     clear X c0 c1 c2 c3 d0 d1 d2 d3
     obtain ⟨c0, c1, c2, c3⟩ := cell4 GA.out
     obtain ⟨d0, d1, d2, d3⟩ := cell4 GB.out
     go_wp2_with fail
     refine (CTb.out _ XX.out).mono ?_
     rintro e w7 ⟨rfl, X⟩
     have GA := hid (X.heap GA.out fun h => h)
     have GB := hid (X.heap GB.out fun h => h)
     have XX := hid (XX.out.trans X)
     clear X c0 c1 c2 c3 d0 d1 d2 d3
     obtain ⟨c0, c1, c2, c3⟩ := cell4 GA.out
     obtain ⟨d0, d1, d2, d3⟩ := cell4 GB.out
     go_wp2_with fail
     refine (CS.out _ XX.out).mono ?_
     rintro e w8 ⟨rfl, X⟩
     have GA := hid (X.heap GA.out fun h => h)
     have GB := hid (X.heap GB.out fun h => h)
     have XX := hid (XX.out.trans X)
     clear X c0 c1 c2 c3 d0 d1 d2 d3
     obtain ⟨c0, c1, c2, c3⟩ := cell4 GA.out
     obtain ⟨d0, d1, d2, d3⟩ := cell4 GB.out
     have eqS : (S == S) = true := by simp
     go_wp2_with fail
     refine (CA.out _ XX.out).mono ?_
     rintro e w9 ⟨rfl, X⟩
     have XX := hid (XX.out.trans X)
     go_wp2_with fail
     go_ret
     exact ⟨rfl, XX.out⟩
end Go.Proofs.YthbmjamgidfneaaGreatDoor
namespace Go.Proofs.YthbmjamgidfneaaGreatDoor
open Go.RowKit Go.Lib Go.ChangeShapes Go.WideShapes
section
variable {H : Type} {enc : TypeId × Value → H} {P : Program} {w : World} {spare : Nat → Bool} {held : Bool}
theorem cells_at {b off : Nat} {n : Nat} {cs : List Value} (h : w.cells? 0 ⟨b, off, none⟩ n = some cs) : cs.length = n ∧ Cells w b off cs := by
 obtain ⟨_, h1, h2⟩ := World.cells?_some h
 refine ⟨h1, fun j v hj => ?_⟩
 have hjn : j < n := by have := (List.getElem?_eq_some_iff.1 hj).1; omega
 have := h2 j hjn
 rw [hj] at this
 have e : (⟨b, off, none⟩ : Addr).add j = ⟨b, off + j, none⟩ := by unfold Addr.add; split <;> simp_all
 rw [e] at this
 exact this
end
theorem bulk_mem {H : Type} : ∀ {l : List (DataW H)} {d : DataW H}, d ∈ l → Rows.uptoBulk d ≤ Rows.uptoBulkAll l
 | a :: r, d, h => by
  rw [Rows.uptoBulkAll]
  rcases List.mem_cons.1 h with rfl | h
  · omega
  · have := bulk_mem h; omega
theorem bulk_sum {H : Type} {α : Type} {f : α → Nat} {F : List α → Nat} (h0 : F [] = 0) (hc : ∀ a r, F (a :: r) = f a + F r) : ∀ (xs : List α) (ds : List (DataW H)), ds.length = xs.length → (∀ i (h1 : i < xs.length) (h2 : i < ds.length), f xs[i] ≤ Rows.uptoBulk ds[i]) → F xs ≤ Rows.uptoBulkAll ds
 | [], _, _, _ => by rw [h0]; exact Nat.zero_le _
 | a :: r, [], h, _ => by cases h
 | a :: r, d :: s, h, hi => by
  rw [hc, Rows.uptoBulkAll]
  have h1 := hi 0 (by simp) (by simp)
  have h2 := bulk_sum h0 hc r s (by simpa using h) (fun i h1 h2 => hi (i + 1) (Nat.succ_lt_succ h1) (Nat.succ_lt_succ h2))
  simp only [List.getElem_cons_zero] at h1
  omega
section
variable {H : Type} {enc : TypeId × Value → H} {P : Program} {w : World} {spare : Nat → Bool} {held : Bool}
theorem open_slK {α : Type} {sz : Nat} {R : Lay α} (Q : α → DataW H → Prop) (hsz : 0 < sz) {t e : TypeId} (ht : P.underlying t = some (.slice e)) (hc : P.cellsOf e = sz) (K : Nat)
  (he : ∀ (n : Nat) (cs : List Value) (x : DataW H × List MemPlace), Rows.uptoBulk x.1 < K → DataW.trod enc P w 0 spare held n e cs = some x → ∃ a, R none' w a cs ∧ Q a x.1)
  {fuel : Nat} {cs : List Value} {x : DataW H × List MemPlace} (h : DataW.trod enc P w 0 spare held fuel t cs = some x) (hK : Rows.uptoBulk x.1 ≤ K) :
  ∃ v xs, cs = [v] ∧ IsSl sz R none' w v xs ∧ ((x.1 = .nil ∧ xs = []) ∨ ∃ ds sp, x.1 = .slice ds sp ∧ ds.length = xs.length ∧ ∀ i (h1 : i < xs.length) (h2 : i < ds.length), Q xs[i] ds[i]) := by
 rcases Go.Deep.open_slice ht h with ⟨rfl, rfl⟩ | ⟨a, len, cap, m, n, D, Pl, rfl, hb, hl, hm, hmm, rfl, hx⟩
 · exact ⟨_, [], rfl, IsSl.nil _ _ _ _, .inl ⟨rfl, rfl⟩⟩
 · have hlm : len ≤ m := by rw [hmm]; split <;> omega
   have key : ∀ i : Fin len, ∃ q : α × List Value, w.cells? 0 (a.add (i.1 * sz)) sz = some q.2 ∧ R none' w q.1 q.2 ∧ Q q.1 (D i.1) := fun i => by
    obtain ⟨cs', h1, h2⟩ := hx i.1 (by have := i.2; omega)
    obtain ⟨y, hy1, hy2⟩ := he n cs' _ (by
     have hmem : D i.1 ∈ (List.range len).map D := List.mem_map.2 ⟨i.1, List.mem_range.2 i.2, rfl⟩
     have h3 := bulk_mem hmem
     simp only [Rows.uptoBulk] at hK
     simp only
     omega) h2
    rw [hc] at h1
    exact ⟨(y, cs'), h1, hy1, hy2⟩
   obtain ⟨f, hf⟩ := Classical.axiomOfChoice key
   refine ⟨_, List.ofFn fun i => (f i).1, rfl, ⟨some a, cap, by rw [List.length_ofFn], by rw [List.length_ofFn]; exact hl, (fun h => by cases h), fun hne => ?_⟩, .inr ⟨_, _, rfl, by simp, fun i h1 h2 => ?_⟩⟩
   · have hpos : 0 < len := by
      rcases Nat.eq_zero_or_pos len with h | h
      · subst h; simp at hne
      · exact h
     obtain ⟨b, off, spot⟩ := a
     have hs : spot = none ∧ b < w.heap.size := by
      obtain ⟨_, h1, h2⟩ := World.cells?_some (hf ⟨0, hpos⟩).1
      have h3 := h2 0 hsz
      have hlen : 0 < (f ⟨0, hpos⟩).2.length := by omega
      rw [List.getElem?_eq_getElem hlen] at h3
      have e0 : ((⟨b, off, spot⟩ : Addr).add (0 * sz)).add 0 = ⟨b, off, spot⟩ := by simp [Addr.add]
      simp only [e0] at h3
      exact ⟨World.cell?_spot h3, World.block_lt_of_cell? w _ h3⟩
     obtain ⟨rfl, hbw⟩ := hs
     refine ⟨b, off, rfl, fun h => h, hbw, fun i hi => ?_⟩
     rw [List.length_ofFn] at hi
     have hfi := hf ⟨i, hi⟩
     have e : (⟨b, off, none⟩ : Addr).add (i * sz) = ⟨b, off + i * sz, none⟩ := by unfold Addr.add; split <;> simp_all
     have h1 := hfi.1
     simp only [e] at h1
     exact ⟨_, (cells_at h1).2, by rw [List.getElem_ofFn]; exact hfi.2.1⟩
   · rw [List.length_ofFn] at h1
     have h3 := (hf ⟨i, h1⟩).2.2
     rw [List.getElem_ofFn]
     simpa using h3
end
theorem four_len' : ∀ {cs : List Value}, cs.length = 4 → ∃ c0 c1 c2 c3, cs = [c0, c1, c2, c3]
 | [c0, c1, c2, c3], _ => ⟨c0, c1, c2, c3, rfl⟩
section
variable {H : Type} {enc : TypeId × Value → H} {w : World} {spare : Nat → Bool} {held : Bool}
theorem open_nd (K : Nat) : ∀ (fuel : Nat) (cs : List Value) (x : DataW H × List MemPlace), Rows.uptoBulk x.1 ≤ K → DataW.trod enc Tryz.prog w 0 spare held fuel 24 cs = some x → ∃ t : Nd, IsNd none' w t cs ∧ t.size ≤ Rows.uptoBulk x.1 := by
 induction K with
 | zero =>
  intro fuel cs x hK h
  obtain ⟨y0, y1, y2, y3, m, rfl, _⟩ := Go.Joins.trod_struct4 Tryz.underlying24 h
  simp only [Rows.uptoBulk] at hK
  omega
 | succ K ih =>
  intro fuel cs x hK h
  obtain ⟨y0, y1, y2, y3, m, rfl, hl, t0, t1, t2, t3⟩ := Go.Joins.trod_struct4 Tryz.underlying24 h
  have e4 : Tryz.prog.cellsOf 24 = 4 := by kernel_rfl
  rw [e4] at hl
  obtain ⟨c0, c1, c2, c3, rfl⟩ := four_len' hl
  have ks : Tryz.prog.cellsOf 9 = 1 := by kernel_rfl
  have ki : Tryz.prog.cellsOf 3 = 1 := by kernel_rfl
  have ka : Tryz.prog.cellsOf 22 = 1 := by kernel_rfl
  simp only [ki, ks, ka, List.drop_zero, List.take_succ_cons, List.take_zero, List.drop_succ_cons] at t0 t1 t2 t3
  obtain ⟨k, e0, _⟩ := DataW.trod_int Tryz.underlying3 t0
  obtain ⟨n, e1, f1, _⟩ := DataW.trod_string Tryz.underlying9 t1
  subst f1
  obtain ⟨p, e3, _⟩ := DataW.trod_int Tryz.underlying3 t3
  simp only [Rows.uptoBulk, Rows.uptoBulkAll] at hK ⊢
  obtain ⟨v, l, e2, hsl, hq⟩ := open_slK (α := Nd) (sz := 4) (R := IsNd) (fun t d => t.size ≤ Rows.uptoBulk d) (by omega) Tryz.underlying22 e4 K (fun n cs x hx h => ih n cs x (by omega) h) t2 (by omega)
  injection e0 with e0 _
  injection e1 with e1 _
  injection e2 with e2 _
  injection e3 with e3 _
  subst e0 e1 e2 e3
  have hsum : Nd.sizeL l + 1 ≤ Rows.uptoBulk y2.1 := by
   rcases hq with ⟨e, rfl⟩ | ⟨ds, sp, e, hlen, hq⟩
   · rw [e]; simp [Rows.uptoBulk, Nd.sizeL]
   · rw [e, Rows.uptoBulk]
     have := bulk_sum (F := Nd.sizeL) (f := Nd.size) rfl (fun _ _ => rfl) l ds hlen hq
     omega
  refine ⟨.mk k n.data.toList l p, ?_, ?_⟩
  · have := IsNd.of (k := k) (n := n.data.toList) (p := p) hsl
    simpa using this
  · rw [Nd.size]; omega
end
end Go.Proofs.YthbmjamgidfneaaGreatDoor
