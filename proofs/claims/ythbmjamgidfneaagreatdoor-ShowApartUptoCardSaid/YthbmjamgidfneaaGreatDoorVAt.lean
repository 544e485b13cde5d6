import Derived.Test.YthbmjamgidfneaaGreatDoorVAb
import Derived.Test.YthbmjamgidfneaaGreatDoorVAf
import Derived.Test.YthbmjamgidfneaaGreatDoorVAs
set_option maxRecDepth 100000
set_option maxHeartbeats 6400000
namespace Go.Proofs.YthbmjamgidfneaaGreatDoor
open Go.RowKit Go.Lib Go.BigFrame
set_option linter.unusedVariables false
set_option linter.unusedSimpArgs false
theorem st_var (f : Nat) (H : ExpH f) (HS : StmH f) (deep : Nat) (hd : deep + (f + 1) ≤ 1200000) (hf : f + 1 ≤ 1100000) (t : Nd) (ht : t.size ≤ f + 1) (hk : t.kind = 5) (he : varB (tyF nmB f) (exF f) t = true) (v : Value) (w : World) (hm : MaxL w) (hv : NdV none' w t v) :
  Calls Tryz.prog 24 #[shV deep false, v] w (StrPost (varT (typF f) (exT f) deep t) w) := by
 obtain ⟨y, rfl, hy⟩ := hv
 have HY := hid hy
 obtain ⟨a1, cap1, rfl, hcap, _⟩ := hy
 have hkl : t.kids.length ≤ 1100000 := by have := t.kids_len; omega
 obtain ⟨B, hB⟩ : ∃ B, B = w.heap.size := ⟨_, rfl⟩
 have BX := TwoBox.mk' (deep := deep) (head := false) (cs := #[.int .i64 5, .string ⟨t.text.toArray⟩, .slice a1 t.kids.length cap1, .int .i64 t.pos]) hB
 obtain ⟨W0, hW0⟩ : ∃ W0, W0 = ((w.alloc (.cells #[.int .i64 (deep : Nat), .bool false] 50)).alloc (.cells #[.int .i64 5, .string ⟨t.text.toArray⟩, .slice a1 t.kids.length cap1, .int .i64 t.pos] 24)) := ⟨_, rfl⟩
 rw [← hW0] at BX
 have BX := hid BX
 obtain ⟨rr, hrr⟩ : ∃ r, r = varT (typF f) (exT f) deep t := ⟨_, rfl⟩
 rw [← hrr]
 have CV := hid fun W (X : Ext none' w W) (hs : IsSl 4 IsNd none' W (.slice a1 t.kids.length cap1) t.kids) => shvar_any f H deep hd hf t ht he (.agg #[.int .i64 t.kind, .string ⟨t.text.toArray⟩, .slice a1 t.kids.length cap1, .int .i64 t.pos]) W (maxL_later hm X) ⟨_, rfl, hs⟩
 rw [hk] at CV
 obtain ⟨q0, hq0⟩ : ∃ q, varT (typF f) (exT f) deep t = q := ⟨_, rfl⟩
 rw [hq0] at CV hrr
 have HR := hid hrr
 rw [hk]
 have hmf := mkf_run
 clear hrr ht hd hf hk he H HS hq0
 go_enter Tryz.func24, Tryz.ntmps24
 go_upto_region 1 with (fail)
 rw [← hW0, ← hB]
 clear hW0 hB
 obtain ⟨x0, x1⟩ := cell2 BX.out.g0
 obtain ⟨c0, c1, c2, c3⟩ := cell4 BX.out.g1
 go_upto_region 3 with (fail)
 clear x0 x1 c0 c1 c2 c3
 obtain ⟨w1, hw1⟩ : ∃ w1, w1 = (W0.alloc (.cells #[.int .i64 (deep : Nat), .bool true] 50)) := ⟨_, rfl⟩
 have XX := hid (show Ext none' W0 w1 by rw [hw1]; exact (Ext.refl _ _).alloc _)
 have G2 := hid (show w1.heap[W0.heap.size]? = some (.cells #[.int .i64 (deep : Nat), .bool true] 50 (0, 0)) by rw [hw1]; exact heap_alloc_at rfl _)
 rw [← hw1]
 clear hw1
 obtain ⟨C, hC⟩ : ∃ C, C = W0.heap.size := ⟨_, rfl⟩
 rw [← hC] at G2 ⊢
 clear hC
 have BX := hid (BX.out.ext XX.out)
 obtain ⟨x0, x1⟩ := cell2 BX.out.g0
 obtain ⟨c0, c1, c2, c3⟩ := cell4 BX.out.g1
 go_wp2_with fail
 refine (CV.out _ BX.out.x (HY.out.ext isNd_good BX.out.x fun _ _ h => h)).mono ?_
 rintro e w2 ⟨rfl, X2⟩
 have BX := hid (BX.out.ext X2)
 clear x0 x1 c0 c1 c2 c3
 go_wp2_with fail
 go_ret
 exact ⟨by rw [HR.out]; rfl, BX.out.x⟩
theorem st_short (f : Nat) (H : ExpH f) (HS : StmH f) (deep : Nat) (hd : deep + (f + 1) ≤ 1200000) (hf : f + 1 ≤ 1100000) (t : Nd) (ht : t.size ≤ f + 1) (hk : t.kind = 26) (he : shB (exF f) t = true) (v : Value) (w : World) (hm : MaxL w) (hv : NdV none' w t v) :
  Calls Tryz.prog 24 #[shV deep false, v] w (StrPost (simT (exT f) deep false t) w) := by
 obtain ⟨y, rfl, hy⟩ := hv
 have HY := hid hy
 obtain ⟨a1, cap1, rfl, hcap, _⟩ := hy
 have hkl : t.kids.length ≤ 1100000 := by have := t.kids_len; omega
 obtain ⟨B, hB⟩ : ∃ B, B = w.heap.size := ⟨_, rfl⟩
 have BX := TwoBox.mk' (deep := deep) (head := false) (cs := #[.int .i64 26, .string ⟨t.text.toArray⟩, .slice a1 t.kids.length cap1, .int .i64 t.pos]) hB
 obtain ⟨W0, hW0⟩ : ∃ W0, W0 = ((w.alloc (.cells #[.int .i64 (deep : Nat), .bool false] 50)).alloc (.cells #[.int .i64 26, .string ⟨t.text.toArray⟩, .slice a1 t.kids.length cap1, .int .i64 t.pos] 24)) := ⟨_, rfl⟩
 rw [← hW0] at BX
 have BX := hid BX
 obtain ⟨rr, hrr⟩ : ∃ r, r = simT (exT f) deep false t := ⟨_, rfl⟩
 rw [← hrr]
 have CV := hid fun W (X : Ext none' w W) (hs : IsSl 4 IsNd none' W (.slice a1 t.kids.length cap1) t.kids) => shsim_any f H deep false hd hf t ⟨ht, .inl he⟩ (.agg #[.int .i64 t.kind, .string ⟨t.text.toArray⟩, .slice a1 t.kids.length cap1, .int .i64 t.pos]) W (maxL_later hm X) ⟨_, rfl, hs⟩
 rw [hk] at CV
 obtain ⟨q0, hq0⟩ : ∃ q, simT (exT f) deep false t = q := ⟨_, rfl⟩
 rw [hq0] at CV hrr
 have HR := hid hrr
 rw [hk]
 have hmf := mkf_run
 clear hrr ht hd hf hk he H HS hq0
 go_enter Tryz.func24, Tryz.ntmps24
 go_upto_region 1 with (fail)
 rw [← hW0, ← hB]
 clear hW0 hB
 obtain ⟨x0, x1⟩ := cell2 BX.out.g0
 obtain ⟨c0, c1, c2, c3⟩ := cell4 BX.out.g1
 go_upto_region 3 with (fail)
 clear x0 x1 c0 c1 c2 c3
 obtain ⟨w1, hw1⟩ : ∃ w1, w1 = (W0.alloc (.cells #[.int .i64 (deep : Nat), .bool true] 50)) := ⟨_, rfl⟩
 have XX := hid (show Ext none' W0 w1 by rw [hw1]; exact (Ext.refl _ _).alloc _)
 have G2 := hid (show w1.heap[W0.heap.size]? = some (.cells #[.int .i64 (deep : Nat), .bool true] 50 (0, 0)) by rw [hw1]; exact heap_alloc_at rfl _)
 rw [← hw1]
 clear hw1
 obtain ⟨C, hC⟩ : ∃ C, C = W0.heap.size := ⟨_, rfl⟩
 rw [← hC] at G2 ⊢
 clear hC
 have BX := hid (BX.out.ext XX.out)
 obtain ⟨x0, x1⟩ := cell2 BX.out.g0
 obtain ⟨c0, c1, c2, c3⟩ := cell4 BX.out.g1
 go_wp2_with fail
 refine (CV.out _ BX.out.x (HY.out.ext isNd_good BX.out.x fun _ _ h => h)).mono ?_
 rintro e w2 ⟨rfl, X2⟩
 have BX := hid (BX.out.ext X2)
 clear x0 x1 c0 c1 c2 c3
 go_wp2_with fail
 go_ret
 exact ⟨by rw [HR.out]; rfl, BX.out.x⟩
theorem st_set (f : Nat) (H : ExpH f) (HS : StmH f) (deep : Nat) (hd : deep + (f + 1) ≤ 1200000) (hf : f + 1 ≤ 1100000) (t : Nd) (ht : t.size ≤ f + 1) (hk : t.kind = 27) (he : setB (exF f) t = true) (v : Value) (w : World) (hm : MaxL w) (hv : NdV none' w t v) :
  Calls Tryz.prog 24 #[shV deep false, v] w (StrPost (simT (exT f) deep false t) w) := by
 obtain ⟨y, rfl, hy⟩ := hv
 have HY := hid hy
 obtain ⟨a1, cap1, rfl, hcap, _⟩ := hy
 have hkl : t.kids.length ≤ 1100000 := by have := t.kids_len; omega
 obtain ⟨B, hB⟩ : ∃ B, B = w.heap.size := ⟨_, rfl⟩
 have BX := TwoBox.mk' (deep := deep) (head := false) (cs := #[.int .i64 27, .string ⟨t.text.toArray⟩, .slice a1 t.kids.length cap1, .int .i64 t.pos]) hB
 obtain ⟨W0, hW0⟩ : ∃ W0, W0 = ((w.alloc (.cells #[.int .i64 (deep : Nat), .bool false] 50)).alloc (.cells #[.int .i64 27, .string ⟨t.text.toArray⟩, .slice a1 t.kids.length cap1, .int .i64 t.pos] 24)) := ⟨_, rfl⟩
 rw [← hW0] at BX
 have BX := hid BX
 obtain ⟨rr, hrr⟩ : ∃ r, r = simT (exT f) deep false t := ⟨_, rfl⟩
 rw [← hrr]
 have CV := hid fun W (X : Ext none' w W) (hs : IsSl 4 IsNd none' W (.slice a1 t.kids.length cap1) t.kids) => shsim_any f H deep false hd hf t ⟨ht, .inr (.inl he)⟩ (.agg #[.int .i64 t.kind, .string ⟨t.text.toArray⟩, .slice a1 t.kids.length cap1, .int .i64 t.pos]) W (maxL_later hm X) ⟨_, rfl, hs⟩
 rw [hk] at CV
 obtain ⟨q0, hq0⟩ : ∃ q, simT (exT f) deep false t = q := ⟨_, rfl⟩
 rw [hq0] at CV hrr
 have HR := hid hrr
 rw [hk]
 have hmf := mkf_run
 clear hrr ht hd hf hk he H HS hq0
 go_enter Tryz.func24, Tryz.ntmps24
 go_upto_region 1 with (fail)
 rw [← hW0, ← hB]
 clear hW0 hB
 obtain ⟨x0, x1⟩ := cell2 BX.out.g0
 obtain ⟨c0, c1, c2, c3⟩ := cell4 BX.out.g1
 go_upto_region 3 with (fail)
 clear x0 x1 c0 c1 c2 c3
 obtain ⟨w1, hw1⟩ : ∃ w1, w1 = (W0.alloc (.cells #[.int .i64 (deep : Nat), .bool true] 50)) := ⟨_, rfl⟩
 have XX := hid (show Ext none' W0 w1 by rw [hw1]; exact (Ext.refl _ _).alloc _)
 have G2 := hid (show w1.heap[W0.heap.size]? = some (.cells #[.int .i64 (deep : Nat), .bool true] 50 (0, 0)) by rw [hw1]; exact heap_alloc_at rfl _)
 rw [← hw1]
 clear hw1
 obtain ⟨C, hC⟩ : ∃ C, C = W0.heap.size := ⟨_, rfl⟩
 rw [← hC] at G2 ⊢
 clear hC
 have BX := hid (BX.out.ext XX.out)
 obtain ⟨x0, x1⟩ := cell2 BX.out.g0
 obtain ⟨c0, c1, c2, c3⟩ := cell4 BX.out.g1
 go_wp2_with fail
 refine (CV.out _ BX.out.x (HY.out.ext isNd_good BX.out.x fun _ _ h => h)).mono ?_
 rintro e w2 ⟨rfl, X2⟩
 have BX := hid (BX.out.ext X2)
 clear x0 x1 c0 c1 c2 c3
 go_wp2_with fail
 go_ret
 exact ⟨by rw [HR.out]; rfl, BX.out.x⟩
theorem st_inc (f : Nat) (H : ExpH f) (HS : StmH f) (deep : Nat) (hd : deep + (f + 1) ≤ 1200000) (hf : f + 1 ≤ 1100000) (t : Nd) (ht : t.size ≤ f + 1) (hk : t.kind = 28) (he : incrB (exF f) t = true) (v : Value) (w : World) (hm : MaxL w) (hv : NdV none' w t v) :
  Calls Tryz.prog 24 #[shV deep false, v] w (StrPost (simT (exT f) deep false t) w) := by
 obtain ⟨y, rfl, hy⟩ := hv
 have HY := hid hy
 obtain ⟨a1, cap1, rfl, hcap, _⟩ := hy
 have hkl : t.kids.length ≤ 1100000 := by have := t.kids_len; omega
 obtain ⟨B, hB⟩ : ∃ B, B = w.heap.size := ⟨_, rfl⟩
 have BX := TwoBox.mk' (deep := deep) (head := false) (cs := #[.int .i64 28, .string ⟨t.text.toArray⟩, .slice a1 t.kids.length cap1, .int .i64 t.pos]) hB
 obtain ⟨W0, hW0⟩ : ∃ W0, W0 = ((w.alloc (.cells #[.int .i64 (deep : Nat), .bool false] 50)).alloc (.cells #[.int .i64 28, .string ⟨t.text.toArray⟩, .slice a1 t.kids.length cap1, .int .i64 t.pos] 24)) := ⟨_, rfl⟩
 rw [← hW0] at BX
 have BX := hid BX
 obtain ⟨rr, hrr⟩ : ∃ r, r = simT (exT f) deep false t := ⟨_, rfl⟩
 rw [← hrr]
 have CV := hid fun W (X : Ext none' w W) (hs : IsSl 4 IsNd none' W (.slice a1 t.kids.length cap1) t.kids) => shsim_any f H deep false hd hf t ⟨ht, .inr (.inr (.inl he))⟩ (.agg #[.int .i64 t.kind, .string ⟨t.text.toArray⟩, .slice a1 t.kids.length cap1, .int .i64 t.pos]) W (maxL_later hm X) ⟨_, rfl, hs⟩
 rw [hk] at CV
 obtain ⟨q0, hq0⟩ : ∃ q, simT (exT f) deep false t = q := ⟨_, rfl⟩
 rw [hq0] at CV hrr
 have HR := hid hrr
 rw [hk]
 have hmf := mkf_run
 clear hrr ht hd hf hk he H HS hq0
 go_enter Tryz.func24, Tryz.ntmps24
 go_upto_region 1 with (fail)
 rw [← hW0, ← hB]
 clear hW0 hB
 obtain ⟨x0, x1⟩ := cell2 BX.out.g0
 obtain ⟨c0, c1, c2, c3⟩ := cell4 BX.out.g1
 go_upto_region 3 with (fail)
 clear x0 x1 c0 c1 c2 c3
 obtain ⟨w1, hw1⟩ : ∃ w1, w1 = (W0.alloc (.cells #[.int .i64 (deep : Nat), .bool true] 50)) := ⟨_, rfl⟩
 have XX := hid (show Ext none' W0 w1 by rw [hw1]; exact (Ext.refl _ _).alloc _)
 have G2 := hid (show w1.heap[W0.heap.size]? = some (.cells #[.int .i64 (deep : Nat), .bool true] 50 (0, 0)) by rw [hw1]; exact heap_alloc_at rfl _)
 rw [← hw1]
 clear hw1
 obtain ⟨C, hC⟩ : ∃ C, C = W0.heap.size := ⟨_, rfl⟩
 rw [← hC] at G2 ⊢
 clear hC
 have BX := hid (BX.out.ext XX.out)
 obtain ⟨x0, x1⟩ := cell2 BX.out.g0
 obtain ⟨c0, c1, c2, c3⟩ := cell4 BX.out.g1
 go_wp2_with fail
 refine (CV.out _ BX.out.x (HY.out.ext isNd_good BX.out.x fun _ _ h => h)).mono ?_
 rintro e w2 ⟨rfl, X2⟩
 have BX := hid (BX.out.ext X2)
 clear x0 x1 c0 c1 c2 c3
 go_wp2_with fail
 go_ret
 exact ⟨by rw [HR.out]; rfl, BX.out.x⟩
theorem st_call (f : Nat) (H : ExpH f) (HS : StmH f) (deep : Nat) (hd : deep + (f + 1) ≤ 1200000) (hf : f + 1 ≤ 1100000) (t : Nd) (ht : t.size ≤ f + 1) (hk : t.kind = 29) (he : callB (exF f) t = true) (v : Value) (w : World) (hm : MaxL w) (hv : NdV none' w t v) :
  Calls Tryz.prog 24 #[shV deep false, v] w (StrPost (simT (exT f) deep false t) w) := by
 obtain ⟨y, rfl, hy⟩ := hv
 have HY := hid hy
 obtain ⟨a1, cap1, rfl, hcap, _⟩ := hy
 have hkl : t.kids.length ≤ 1100000 := by have := t.kids_len; omega
 obtain ⟨B, hB⟩ : ∃ B, B = w.heap.size := ⟨_, rfl⟩
 have BX := TwoBox.mk' (deep := deep) (head := false) (cs := #[.int .i64 29, .string ⟨t.text.toArray⟩, .slice a1 t.kids.length cap1, .int .i64 t.pos]) hB
 obtain ⟨W0, hW0⟩ : ∃ W0, W0 = ((w.alloc (.cells #[.int .i64 (deep : Nat), .bool false] 50)).alloc (.cells #[.int .i64 29, .string ⟨t.text.toArray⟩, .slice a1 t.kids.length cap1, .int .i64 t.pos] 24)) := ⟨_, rfl⟩
 rw [← hW0] at BX
 have BX := hid BX
 obtain ⟨rr, hrr⟩ : ∃ r, r = simT (exT f) deep false t := ⟨_, rfl⟩
 rw [← hrr]
 have CV := hid fun W (X : Ext none' w W) (hs : IsSl 4 IsNd none' W (.slice a1 t.kids.length cap1) t.kids) => shsim_any f H deep false hd hf t ⟨ht, .inr (.inr (.inr he))⟩ (.agg #[.int .i64 t.kind, .string ⟨t.text.toArray⟩, .slice a1 t.kids.length cap1, .int .i64 t.pos]) W (maxL_later hm X) ⟨_, rfl, hs⟩
 rw [hk] at CV
 obtain ⟨q0, hq0⟩ : ∃ q, simT (exT f) deep false t = q := ⟨_, rfl⟩
 rw [hq0] at CV hrr
 have HR := hid hrr
 rw [hk]
 have hmf := mkf_run
 clear hrr ht hd hf hk he H HS hq0
 go_enter Tryz.func24, Tryz.ntmps24
 go_upto_region 1 with (fail)
 rw [← hW0, ← hB]
 clear hW0 hB
 obtain ⟨x0, x1⟩ := cell2 BX.out.g0
 obtain ⟨c0, c1, c2, c3⟩ := cell4 BX.out.g1
 go_upto_region 3 with (fail)
 clear x0 x1 c0 c1 c2 c3
 obtain ⟨w1, hw1⟩ : ∃ w1, w1 = (W0.alloc (.cells #[.int .i64 (deep : Nat), .bool true] 50)) := ⟨_, rfl⟩
 have XX := hid (show Ext none' W0 w1 by rw [hw1]; exact (Ext.refl _ _).alloc _)
 have G2 := hid (show w1.heap[W0.heap.size]? = some (.cells #[.int .i64 (deep : Nat), .bool true] 50 (0, 0)) by rw [hw1]; exact heap_alloc_at rfl _)
 rw [← hw1]
 clear hw1
 obtain ⟨C, hC⟩ : ∃ C, C = W0.heap.size := ⟨_, rfl⟩
 rw [← hC] at G2 ⊢
 clear hC
 have BX := hid (BX.out.ext XX.out)
 obtain ⟨x0, x1⟩ := cell2 BX.out.g0
 obtain ⟨c0, c1, c2, c3⟩ := cell4 BX.out.g1
 go_wp2_with fail
 refine (CV.out _ BX.out.x (HY.out.ext isNd_good BX.out.x fun _ _ h => h)).mono ?_
 rintro e w2 ⟨rfl, X2⟩
 have BX := hid (BX.out.ext X2)
 clear x0 x1 c0 c1 c2 c3
 go_wp2_with fail
 go_ret
 exact ⟨by rw [HR.out]; rfl, BX.out.x⟩
theorem st_for (f : Nat) (H : ExpH f) (HS : StmH f) (deep : Nat) (hd : deep + (f + 1) ≤ 1200000) (hf : f + 1 ≤ 1100000) (t : Nd) (ht : t.size ≤ f + 1) (hk : t.kind = 31) (he : ofB 31 [orB (orB emptyB (shB (exF f))) (orB (setB (exF f)) (incrB (exF f))), orB emptyB (exF f), orB (orB emptyB (setB (exF f))) (orB (incrB (exF f)) (callB (exF f))), blkB (stF f)] t = true) (v : Value) (w : World) (hm : MaxL w) (hv : NdV none' w t v) :
  Calls Tryz.prog 24 #[shV deep false, v] w (StrPost (loopT (exT f) (stT f) deep t) w) := by
 obtain ⟨y, rfl, hy⟩ := hv
 have HY := hid hy
 obtain ⟨a1, cap1, rfl, hcap, _⟩ := hy
 have hkl : t.kids.length ≤ 1100000 := by have := t.kids_len; omega
 obtain ⟨B, hB⟩ : ∃ B, B = w.heap.size := ⟨_, rfl⟩
 have BX := TwoBox.mk' (deep := deep) (head := false) (cs := #[.int .i64 31, .string ⟨t.text.toArray⟩, .slice a1 t.kids.length cap1, .int .i64 t.pos]) hB
 obtain ⟨W0, hW0⟩ : ∃ W0, W0 = ((w.alloc (.cells #[.int .i64 (deep : Nat), .bool false] 50)).alloc (.cells #[.int .i64 31, .string ⟨t.text.toArray⟩, .slice a1 t.kids.length cap1, .int .i64 t.pos] 24)) := ⟨_, rfl⟩
 rw [← hW0] at BX
 have BX := hid BX
 obtain ⟨rr, hrr⟩ : ∃ r, r = loopT (exT f) (stT f) deep t := ⟨_, rfl⟩
 rw [← hrr]
 have CV := hid fun W (X : Ext none' w W) (hs : IsSl 4 IsNd none' W (.slice a1 t.kids.length cap1) t.kids) => shloop_any f H HS deep hd hf t ht he (.agg #[.int .i64 t.kind, .string ⟨t.text.toArray⟩, .slice a1 t.kids.length cap1, .int .i64 t.pos]) W (maxL_later hm X) ⟨_, rfl, hs⟩
 rw [hk] at CV
 obtain ⟨q0, hq0⟩ : ∃ q, loopT (exT f) (stT f) deep t = q := ⟨_, rfl⟩
 rw [hq0] at CV hrr
 have HR := hid hrr
 rw [hk]
 have hmf := mkf_run
 clear hrr ht hd hf hk he H HS hq0
 go_enter Tryz.func24, Tryz.ntmps24
 go_upto_region 1 with (fail)
 rw [← hW0, ← hB]
 clear hW0 hB
 obtain ⟨x0, x1⟩ := cell2 BX.out.g0
 obtain ⟨c0, c1, c2, c3⟩ := cell4 BX.out.g1
 go_upto_region 3 with (fail)
 clear x0 x1 c0 c1 c2 c3
 obtain ⟨w1, hw1⟩ : ∃ w1, w1 = (W0.alloc (.cells #[.int .i64 (deep : Nat), .bool true] 50)) := ⟨_, rfl⟩
 have XX := hid (show Ext none' W0 w1 by rw [hw1]; exact (Ext.refl _ _).alloc _)
 have G2 := hid (show w1.heap[W0.heap.size]? = some (.cells #[.int .i64 (deep : Nat), .bool true] 50 (0, 0)) by rw [hw1]; exact heap_alloc_at rfl _)
 rw [← hw1]
 clear hw1
 obtain ⟨C, hC⟩ : ∃ C, C = W0.heap.size := ⟨_, rfl⟩
 rw [← hC] at G2 ⊢
 clear hC
 have BX := hid (BX.out.ext XX.out)
 obtain ⟨x0, x1⟩ := cell2 BX.out.g0
 obtain ⟨c0, c1, c2, c3⟩ := cell4 BX.out.g1
 go_wp2_with fail
 refine (CV.out _ BX.out.x (HY.out.ext isNd_good BX.out.x fun _ _ h => h)).mono ?_
 rintro e w2 ⟨rfl, X2⟩
 have BX := hid (BX.out.ext X2)
 clear x0 x1 c0 c1 c2 c3
 go_wp2_with fail
 go_ret
 exact ⟨by rw [HR.out]; rfl, BX.out.x⟩
theorem st_blk (f : Nat) (H : ExpH f) (HS : StmH f) (deep : Nat) (hd : deep + (f + 1) ≤ 1200000) (hf : f + 1 ≤ 1100000) (t : Nd) (ht : t.size ≤ f + 1) (hk : t.kind = 36) (he : blkB (stF f) t = true) (v : Value) (w : World) (hm : MaxL w) (hv : NdV none' w t v) :
  Calls Tryz.prog 24 #[shV deep false, v] w (StrPost (blT (stT f) deep t) w) := by
 obtain ⟨y, rfl, hy⟩ := hv
 have HY := hid hy
 obtain ⟨a1, cap1, rfl, hcap, _⟩ := hy
 have hkl : t.kids.length ≤ 1100000 := by have := t.kids_len; omega
 obtain ⟨B, hB⟩ : ∃ B, B = w.heap.size := ⟨_, rfl⟩
 have BX := TwoBox.mk' (deep := deep) (head := false) (cs := #[.int .i64 36, .string ⟨t.text.toArray⟩, .slice a1 t.kids.length cap1, .int .i64 t.pos]) hB
 obtain ⟨W0, hW0⟩ : ∃ W0, W0 = ((w.alloc (.cells #[.int .i64 (deep : Nat), .bool false] 50)).alloc (.cells #[.int .i64 36, .string ⟨t.text.toArray⟩, .slice a1 t.kids.length cap1, .int .i64 t.pos] 24)) := ⟨_, rfl⟩
 rw [← hW0] at BX
 have BX := hid BX
 obtain ⟨rr, hrr⟩ : ∃ r, r = blT (stT f) deep t := ⟨_, rfl⟩
 rw [← hrr]
 have CV := hid fun W (X : Ext none' w W) (hs : IsSl 4 IsNd none' W (.slice a1 t.kids.length cap1) t.kids) => blk_show f HS deep false hd hf t ht he (.agg #[.int .i64 t.kind, .string ⟨t.text.toArray⟩, .slice a1 t.kids.length cap1, .int .i64 t.pos]) W (maxL_later hm X) ⟨_, rfl, hs⟩
 rw [hk] at CV
 obtain ⟨q0, hq0⟩ : ∃ q, blT (stT f) deep t = q := ⟨_, rfl⟩
 rw [hq0] at CV hrr
 have HR := hid hrr
 rw [hk]
 have hmf := mkf_run
 clear hrr ht hd hf hk he H HS hq0
 go_enter Tryz.func24, Tryz.ntmps24
 go_upto_region 1 with (fail)
 rw [← hW0, ← hB]
 clear hW0 hB
 obtain ⟨x0, x1⟩ := cell2 BX.out.g0
 obtain ⟨c0, c1, c2, c3⟩ := cell4 BX.out.g1
 go_upto_region 3 with (fail)
 clear x0 x1 c0 c1 c2 c3
 obtain ⟨w1, hw1⟩ : ∃ w1, w1 = (W0.alloc (.cells #[.int .i64 (deep : Nat), .bool true] 50)) := ⟨_, rfl⟩
 have XX := hid (show Ext none' W0 w1 by rw [hw1]; exact (Ext.refl _ _).alloc _)
 have G2 := hid (show w1.heap[W0.heap.size]? = some (.cells #[.int .i64 (deep : Nat), .bool true] 50 (0, 0)) by rw [hw1]; exact heap_alloc_at rfl _)
 rw [← hw1]
 clear hw1
 obtain ⟨C, hC⟩ : ∃ C, C = W0.heap.size := ⟨_, rfl⟩
 rw [← hC] at G2 ⊢
 clear hC
 have BX := hid (BX.out.ext XX.out)
 obtain ⟨x0, x1⟩ := cell2 BX.out.g0
 obtain ⟨c0, c1, c2, c3⟩ := cell4 BX.out.g1
 go_wp2_with fail
 refine (CV.out _ BX.out.x (HY.out.ext isNd_good BX.out.x fun _ _ h => h)).mono ?_
 rintro e w2 ⟨rfl, X2⟩
 have BX := hid (BX.out.ext X2)
 clear x0 x1 c0 c1 c2 c3
 go_wp2_with fail
 go_ret
 exact ⟨by rw [HR.out]; rfl, BX.out.x⟩
theorem st_brk (f : Nat) (H : ExpH f) (HS : StmH f) (deep : Nat) (hd : deep + (f + 1) ≤ 1200000) (hf : f + 1 ≤ 1100000) (t : Nd) (ht : t.size ≤ f + 1) (hk : t.kind = 34) (he : ofB 34 [] t = true) (v : Value) (w : World) (hm : MaxL w) (hv : NdV none' w t v) :
  Calls Tryz.prog 24 #[shV deep false, v] w (StrPost (([98, 114, 101, 97, 107] : List UInt8)) w) := by
 obtain ⟨y, rfl, hy⟩ := hv
 have HY := hid hy
 obtain ⟨a1, cap1, rfl, hcap, _⟩ := hy
 have hkl : t.kids.length ≤ 1100000 := by have := t.kids_len; omega
 obtain ⟨B, hB⟩ : ∃ B, B = w.heap.size := ⟨_, rfl⟩
 have BX := TwoBox.mk' (deep := deep) (head := false) (cs := #[.int .i64 34, .string ⟨t.text.toArray⟩, .slice a1 t.kids.length cap1, .int .i64 t.pos]) hB
 obtain ⟨W0, hW0⟩ : ∃ W0, W0 = ((w.alloc (.cells #[.int .i64 (deep : Nat), .bool false] 50)).alloc (.cells #[.int .i64 34, .string ⟨t.text.toArray⟩, .slice a1 t.kids.length cap1, .int .i64 t.pos] 24)) := ⟨_, rfl⟩
 rw [← hW0] at BX
 have BX := hid BX
 obtain ⟨rr, hrr⟩ : ∃ r, r = ([98, 114, 101, 97, 107] : List UInt8) := ⟨_, rfl⟩
 rw [← hrr]
 have HR := hid hrr
 rw [hk]
 have hmf := mkf_run
 clear hrr ht hd hf hk he H HS 
 go_enter Tryz.func24, Tryz.ntmps24
 go_upto_region 1 with (fail)
 rw [← hW0, ← hB]
 clear hW0 hB
 obtain ⟨x0, x1⟩ := cell2 BX.out.g0
 obtain ⟨c0, c1, c2, c3⟩ := cell4 BX.out.g1
 go_upto_region 3 with (fail)
 clear x0 x1 c0 c1 c2 c3
 obtain ⟨w1, hw1⟩ : ∃ w1, w1 = (W0.alloc (.cells #[.int .i64 (deep : Nat), .bool true] 50)) := ⟨_, rfl⟩
 have XX := hid (show Ext none' W0 w1 by rw [hw1]; exact (Ext.refl _ _).alloc _)
 have G2 := hid (show w1.heap[W0.heap.size]? = some (.cells #[.int .i64 (deep : Nat), .bool true] 50 (0, 0)) by rw [hw1]; exact heap_alloc_at rfl _)
 rw [← hw1]
 clear hw1
 obtain ⟨C, hC⟩ : ∃ C, C = W0.heap.size := ⟨_, rfl⟩
 rw [← hC] at G2 ⊢
 clear hC
 have BX := hid (BX.out.ext XX.out)
 obtain ⟨x0, x1⟩ := cell2 BX.out.g0
 obtain ⟨c0, c1, c2, c3⟩ := cell4 BX.out.g1
 go_wp2_with fail
 go_ret
 exact ⟨by rw [HR.out]; rfl, BX.out.x⟩
theorem st_cnt (f : Nat) (H : ExpH f) (HS : StmH f) (deep : Nat) (hd : deep + (f + 1) ≤ 1200000) (hf : f + 1 ≤ 1100000) (t : Nd) (ht : t.size ≤ f + 1) (hk : t.kind = 35) (he : ofB 35 [] t = true) (v : Value) (w : World) (hm : MaxL w) (hv : NdV none' w t v) :
  Calls Tryz.prog 24 #[shV deep false, v] w (StrPost (([99, 111, 110, 116, 105, 110, 117, 101] : List UInt8)) w) := by
 obtain ⟨y, rfl, hy⟩ := hv
 have HY := hid hy
 obtain ⟨a1, cap1, rfl, hcap, _⟩ := hy
 have hkl : t.kids.length ≤ 1100000 := by have := t.kids_len; omega
 obtain ⟨B, hB⟩ : ∃ B, B = w.heap.size := ⟨_, rfl⟩
 have BX := TwoBox.mk' (deep := deep) (head := false) (cs := #[.int .i64 35, .string ⟨t.text.toArray⟩, .slice a1 t.kids.length cap1, .int .i64 t.pos]) hB
 obtain ⟨W0, hW0⟩ : ∃ W0, W0 = ((w.alloc (.cells #[.int .i64 (deep : Nat), .bool false] 50)).alloc (.cells #[.int .i64 35, .string ⟨t.text.toArray⟩, .slice a1 t.kids.length cap1, .int .i64 t.pos] 24)) := ⟨_, rfl⟩
 rw [← hW0] at BX
 have BX := hid BX
 obtain ⟨rr, hrr⟩ : ∃ r, r = ([99, 111, 110, 116, 105, 110, 117, 101] : List UInt8) := ⟨_, rfl⟩
 rw [← hrr]
 have HR := hid hrr
 rw [hk]
 have hmf := mkf_run
 clear hrr ht hd hf hk he H HS 
 go_enter Tryz.func24, Tryz.ntmps24
 go_upto_region 1 with (fail)
 rw [← hW0, ← hB]
 clear hW0 hB
 obtain ⟨x0, x1⟩ := cell2 BX.out.g0
 obtain ⟨c0, c1, c2, c3⟩ := cell4 BX.out.g1
 go_upto_region 3 with (fail)
 clear x0 x1 c0 c1 c2 c3
 obtain ⟨w1, hw1⟩ : ∃ w1, w1 = (W0.alloc (.cells #[.int .i64 (deep : Nat), .bool true] 50)) := ⟨_, rfl⟩
 have XX := hid (show Ext none' W0 w1 by rw [hw1]; exact (Ext.refl _ _).alloc _)
 have G2 := hid (show w1.heap[W0.heap.size]? = some (.cells #[.int .i64 (deep : Nat), .bool true] 50 (0, 0)) by rw [hw1]; exact heap_alloc_at rfl _)
 rw [← hw1]
 clear hw1
 obtain ⟨C, hC⟩ : ∃ C, C = W0.heap.size := ⟨_, rfl⟩
 rw [← hC] at G2 ⊢
 clear hC
 have BX := hid (BX.out.ext XX.out)
 obtain ⟨x0, x1⟩ := cell2 BX.out.g0
 obtain ⟨c0, c1, c2, c3⟩ := cell4 BX.out.g1
 go_wp2_with fail
 go_ret
 exact ⟨by rw [HR.out]; rfl, BX.out.x⟩
theorem st_ret (f : Nat) (H : ExpH f) (HS : StmH f) (deep : Nat) (hd : deep + (f + 1) ≤ 1200000) (hf : f + 1 ≤ 1100000) (t : Nd) (ht : t.size ≤ f + 1) (hk : t.kind = 33) (he : ofB 33 [orB emptyB (exF f)] t = true) (v : Value) (w : World) (hm : MaxL w) (hv : NdV none' w t v) :
  Calls Tryz.prog 24 #[shV deep false, v] w (StrPost ([114, 101, 116, 117, 114, 110] ++ (if (t.kid 0).kind = 0 then [] else [32] ++ exT f deep false (t.kid 0))) w) := by
 obtain ⟨y, rfl, hy⟩ := hv
 have HY := hid hy
 obtain ⟨a1, cap1, rfl, hcap, _⟩ := hy
 have hkl : t.kids.length ≤ 1100000 := by have := t.kids_len; omega
 obtain ⟨B, hB⟩ : ∃ B, B = w.heap.size := ⟨_, rfl⟩
 have BX := TwoBox.mk' (deep := deep) (head := false) (cs := #[.int .i64 33, .string ⟨t.text.toArray⟩, .slice a1 t.kids.length cap1, .int .i64 t.pos]) hB
 obtain ⟨W0, hW0⟩ : ∃ W0, W0 = ((w.alloc (.cells #[.int .i64 (deep : Nat), .bool false] 50)).alloc (.cells #[.int .i64 33, .string ⟨t.text.toArray⟩, .slice a1 t.kids.length cap1, .int .i64 t.pos] 24)) := ⟨_, rfl⟩
 rw [← hW0] at BX
 have BX := hid BX
 obtain ⟨rr, hrr⟩ : ∃ r, r = [114, 101, 116, 117, 114, 110] ++ (if (t.kid 0).kind = 0 then [] else [32] ++ exT f deep false (t.kid 0)) := ⟨_, rfl⟩
 rw [← hrr]
 obtain ⟨hk2, htx, h3⟩ := ofB_parts he
 obtain ⟨x, hkx, hx1⟩ := one_kid h3
 have hx0 := kid_one hkx
 have hsz := size_one hkx
 have hl : t.kids.length = 1 := by rw [hkx]; rfl
 have y0 : (0 : Int) < (t.kids.length : Int) := by omega
 have hxD : x.kind ≠ 0 → ExD f x := fun h0 => by
  unfold orB at hx1
  simp only [Bool.or_eq_true] at hx1
  exact ⟨by omega, hx1.resolve_left fun h => h0 (emptyB_kind h)⟩
 have l0 : (optT (exT f deep false) (t.kid 0)).length ≤ 10000000000000 := opt_len fun h => by rw [hx0] at h ⊢; have := (lens_all f deep (by omega)).1 x (by omega) (hxD h).2 false; omega
 have C0 := hid fun W (X : Ext none' w W) v' (hv' : NdV none' W (t.kid 0) v') => optional_any (ExD f) (exT f deep false) (t.kid 0) v' _ W hv' (ex_tell f H deep false (by omega) W (maxL_later hm X)) (by rw [hx0]; exact hxD)
 have htxt : [114, 101, 116, 117, 114, 110] ++ (if (t.kid 0).kind = 0 then [] else [32] ++ exT f deep false (t.kid 0)) = betw [32] [[114, 101, 116, 117, 114, 110], optT (exT f deep false) (t.kid 0)] := by
  rw [betw_flat _ _ _ (by simp)]
  simp only [List.map_cons, List.map_nil, List.flatten_cons, List.flatten_nil, List.append_nil]
  rw [optP_opt fun h => exT_ne (by rw [hx0] at h ⊢; exact (hxD h).2)]
 rw [htxt] at hrr
 obtain ⟨o0, ho0⟩ : ∃ o, optT (exT f deep false) (t.kid 0) = o := ⟨_, rfl⟩
 rw [ho0] at hrr C0 l0
 have CB := hid fun W u (hu : IsStrs none' W u [[114, 101, 116, 117, 114, 110], o0]) => between_any [32] _ u W hu (by simp) (by simp only [Lib.lens, List.length_cons, List.length_nil, List.map_cons, List.map_nil, List.sum_cons, List.sum_nil]; omega)
 rw [← hrr] at CB
 rw [hk]
 have hmf := mkf_run
 clear hrr ht hd hf hk he H HS hk2 htx h3 hkx hx1 hx0 hsz hl hxD htxt ho0
 go_enter Tryz.func24, Tryz.ntmps24
 go_upto_region 1 with (fail)
 rw [← hW0, ← hB]
 clear hW0 hB
 obtain ⟨b, off, ka0, kc0, rfl, HBW, HZ0, KK0⟩ := kidA (HY.out.ext isNd_good BX.out.x fun _ _ h => h) (by omega)
 obtain ⟨x0, x1⟩ := cell2 BX.out.g0
 obtain ⟨c0, c1, c2, c3⟩ := cell4 BX.out.g1
 go_upto_region 3 with (fail)
 clear x0 x1 c0 c1 c2 c3
 obtain ⟨w1, hw1⟩ : ∃ w1, w1 = (W0.alloc (.cells #[.int .i64 (deep : Nat), .bool true] 50)) := ⟨_, rfl⟩
 have XX := hid (show Ext none' W0 w1 by rw [hw1]; exact (Ext.refl _ _).alloc _)
 have G2 := hid (show w1.heap[W0.heap.size]? = some (.cells #[.int .i64 (deep : Nat), .bool true] 50 (0, 0)) by rw [hw1]; exact heap_alloc_at rfl _)
 rw [← hw1]
 clear hw1
 obtain ⟨C, hC⟩ : ∃ C, C = W0.heap.size := ⟨_, rfl⟩
 rw [← hC] at G2 ⊢
 clear hC
 have BX := hid (BX.out.ext XX.out)
 obtain ⟨x0, x1⟩ := cell2 BX.out.g0
 obtain ⟨c0, c1, c2, c3⟩ := cell4 BX.out.g1
 go_upto_region 22 with (fail)
 clear x0 x1 c0 c1 c2 c3
 obtain ⟨x0, x1⟩ := cell2L fun t' : LaterF none' w1 => t'.x.heap BX.out.g0 fun h => h
 obtain ⟨m00, m01, m02, m03⟩ := kidL (w1 := w1) XX.out HBW.out KK0.out
 refine region_q none' w1 (.qs [0, 1, 2, 3, 4] (.one 5 true (.one 6 false (.one 7 false (.one 8 false .fin))))) (by kernel_rfl) (by kernel_rfl) (fun dst v c a w h => by cases dst <;> exact h) ?_
 refine ⟨In.of (Ext.refl _ _).drew, ?_⟩
 change wpQuiet _ _ (fun w' => ∃ t : LaterF none' w1, w' = t.w) _ _ _
 simp only [sel, List.getElem?_cons_succ, List.getElem?_cons_zero]
 repeat (go_big_quiet_step (fail))
 refine wpQuiet_nil ?_
 simp only [wpTreeQ, stepT, sel, List.getElem?_cons_succ, List.getElem?_cons_zero]
 have D1 := hid (Ext.refl none' w1).drew
 clear m00 m01 m02 m03 x0 x1
 go_wp2_with fail
 refine (C0.out _ (BX.out.x.trans D1.out) _ ⟨_, rfl, HZ0.out.ext isNd_good (XX.out.trans D1.out) fun _ _ h => h⟩).mono ?_
 rintro e w2 ⟨rfl, X2⟩
 have X9 := hid (D1.out.trans X2)
 clear X2
 go_wp2_with fail
 refine ⟨In.of X9.out, ?_⟩
 go_wp2_with fail
 have Y := hid ((Ext.refl none' w2).alloc (.cells #[.string ⟨#[114, 101, 116, 117, 114, 110]⟩, .string ⟨o0.toArray⟩] 9))
 refine (CB.out _ _ (isStrs_lit (heap_alloc_at rfl _) rfl)).mono ?_
 rintro e w3 ⟨rfl, X3⟩
 have XX := hid (X9.out.trans (Y.out.trans X3))
 go_wp2_with fail
 go_ret
 exact ⟨rfl, BX.out.x.trans XX.out⟩
end Go.Proofs.YthbmjamgidfneaaGreatDoor
