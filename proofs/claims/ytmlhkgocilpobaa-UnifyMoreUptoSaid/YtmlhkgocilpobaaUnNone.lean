import Derived.Test.YtmlhkgocilpobaaUnAwake
/-
  UnifyNone: the law's function.
-/
namespace Go.Proofs.Ytmlhkgocilpobaa
open Go.RowKit Go.Lib Go.BigFrame
theorem sl_one {W : World} {b : Nat} {u0 u1 u2 : Value} {t : Ty} (g : W.heap[b]? = some (.cells #[u0, u1, u2] 33 (0, 0))) (ht : IsTy none' W t [u0, u1, u2]) : IsSl 3 IsTy none' W (.slice (some ⟨b, 0, none⟩) 1 1) [t] := isSl_lit (xs := [t]) g (fun h => h) (by simp) (fun i h => by
  have h' : i < 1 := h
  obtain rfl : i = 0 := by omega
  exact ht)
theorem ty_int (W : World) : IsTy none' W tInt [.int .i64 1, .string ⟨#[105, 110, 116]⟩, .slice none 0 0] := IsTy.of (k := 1) (n := nI) (IsSl.nil _ _ _ _)
theorem ty_par (W : World) (n : List UInt8) : IsTy none' W (tPar n) [.int .i64 4, .string ⟨n.toArray⟩, .slice none 0 0] := IsTy.of (k := 4) (n := n) (IsSl.nil _ _ _ _)
set_option maxRecDepth 100000 in
theorem law_none_long (row : List (List UInt8)) (nm : List UInt8) (rv : Value) (w : World) (hr : IsStrs none' w rv row) (h : 10 < row.length) : Calls Try.prog 4 #[rv, .string ⟨nm.toArray⟩] w (TruePost w) := by
  obtain ⟨a, cap, rfl, _⟩ := hr
  have q1 : decide (10 < (row.length : Int)) = true := decide_eq_true (by omega)
  go_enter Try.func4, Try.ntmps4
  go_wp2_with fail
  go_ret
  exact ⟨rfl, Ext.refl _ _⟩
set_option maxRecDepth 100000 in
set_option maxHeartbeats 3200000 in
theorem law_none (row : List (List UInt8)) (nm : List UInt8) (hn : nm.length + 1 ≤ maxLen) (rv : Value) (w : World) (hr : IsStrs none' w rv row) (h : row.length ≤ 10) : Calls Try.prog 4 #[rv, .string ⟨nm.toArray⟩] w (TruePost w) := by
  have HRW := hid hr
  obtain ⟨a, cap, rfl, _⟩ := hr
  have q1 : decide (10 < (row.length : Int)) = false := decide_eq_false (by omega)
  have CF0 := hid (Find_any [] fit0 row (by omega) [] [] (by simp) (by simp) (fun x hx => by cases hx) (fun x hx => by cases hx) (.slice none 0 0) (.slice a row.length cap) (.slice none 0 0) (.slice none 0 0) w (IsSl.nil _ _ _ _) HRW.out (IsSl.nil _ _ _ _) (IsSl.nil _ _ _ _))
  rw [find_empty] at CF0
  obtain ⟨e0, he0⟩ : ∃ e0, decide (row = []) = e0 := ⟨_, rfl⟩
  have hlen : ((row.length : Int) == 0) = e0 := by
    rw [← he0]
    cases row with
    | nil => rfl
    | cons x r => simp; omega
  have CF1 : Hid (Calls Try.prog 8 #[.slice none 0 0, .slice a row.length cap, .slice none 0 0, .slice none 0 0] w fun e w' => ∃ a' c', e = .returned (.tuple #[.slice a' 0 c', .bool e0]) ∧ Ext none' w w') := hid (CF0.out.mono fun e w' ⟨u, he, hu, X⟩ => by
    by_cases hr0 : row = []
    · rw [if_pos hr0] at he hu
      obtain ⟨a', c', rfl, _⟩ := hu
      exact ⟨a', c', by rw [he, ← he0, decide_eq_true hr0]; rfl, X⟩
    · rw [if_neg hr0] at he hu
      obtain ⟨a', c', rfl, _⟩ := hu
      exact ⟨a', c', by rw [he, ← he0, decide_eq_false hr0]; rfl, X⟩)
  have AW := hid fun W => awake_any W
  have q2 : (e0 != e0) = false := by simp
  clear CF0 he0
  go_enter Try.func4, Try.ntmps4
  go_wp2_with fail
  refine CF1.out.mono ?_
  rintro e W1 ⟨a', c', rfl, X1⟩
  have X1 := hid X1
  go_wp2_with fail
  obtain ⟨B, hB⟩ : ∃ B, B = W1.heap.size := ⟨_, rfl⟩
  rw [← hB]
  obtain ⟨W2, hW2⟩ : ∃ W2, W2 = (((W1.alloc (.cells #[.int .i64 1, .string ⟨#[105, 110, 116]⟩, .slice none 0 0] 33 (0, 0))).alloc (.cells #[.string ⟨nm.toArray⟩] 9 (0, 0))).alloc (.cells #[.int .i64 4, .string ⟨nm.toArray⟩, .slice none 0 0] 33 (0, 0))).alloc (.cells #[.int .i64 1, .string ⟨#[105, 110, 116]⟩, .slice none 0 0] 33 (0, 0)) := ⟨_, rfl⟩
  rw [← hW2]
  have X2 := hid (show Ext none' w W2 by rw [hW2]; exact (((X1.out.alloc _).alloc _).alloc _).alloc _)
  have g0 : W2.heap[B]? = some (.cells #[.int .i64 1, .string ⟨#[105, 110, 116]⟩, .slice none 0 0] 33 (0, 0)) := by rw [hW2]; exact heap_alloc_keep (heap_alloc_keep (heap_alloc_keep (heap_alloc_at hB _) _) _) _
  have g1 : W2.heap[B + 1]? = some (.cells #[.string ⟨nm.toArray⟩] 9 (0, 0)) := by rw [hW2]; exact heap_alloc_keep (heap_alloc_keep (heap_alloc_at (by rw [hB]; simp) _) _) _
  have g2 : W2.heap[B + 1 + 1]? = some (.cells #[.int .i64 4, .string ⟨nm.toArray⟩, .slice none 0 0] 33 (0, 0)) := by rw [hW2]; exact heap_alloc_keep (heap_alloc_at (by rw [hB]; simp) _) _
  have g3 : W2.heap[B + 1 + 1 + 1]? = some (.cells #[.int .i64 1, .string ⟨#[105, 110, 116]⟩, .slice none 0 0] 33 (0, 0)) := by rw [hW2]; exact heap_alloc_at (by rw [hB]; simp) _
  have sN : IsStrs none' W2 (.slice (some ⟨B + 1, 0, none⟩) 1 1) [nm] := isSl_lit (xs := [nm]) g1 (fun h => h) (by simp) (fun i h => by
    have h' : i < 1 := h
    obtain rfl : i = 0 := by omega
    rfl)
  have zI : tInt.size ≤ bigD := by simp [tInt, Ty.size, Ty.sizeL, bigD]
  have zP : (tPar nm).size ≤ bigD := by simp [tPar, Ty.size, Ty.sizeL, bigD]
  have CFa := hid (Find_any [] fit0 [nm] (by simp) [tPar nm] [tInt] (by simp) (by simp) (fun x hx => by rw [List.mem_singleton] at hx; rw [hx]; exact zP) (fun x hx => by rw [List.mem_singleton] at hx; rw [hx]; exact zI) (.slice none 0 0) _ _ _ W2 (IsSl.nil _ _ _ _) sN (sl_one g2 (ty_par _ nm)) (sl_one g3 (ty_int _)))
  rw [find_one] at CFa
  have G0 := hid g0
  have CFb := hid fun (W : World) (nv pv tv : Value) h1 h2 h3 => Find_any [] fit0 [nm, nm ++ [120]] (by simp) [tPar nm] [tInt] (by simp) (by simp) (fun x hx => by rw [List.mem_singleton] at hx; rw [hx]; exact zP) (fun x hx => by rw [List.mem_singleton] at hx; rw [hx]; exact zI) (.slice none 0 0) nv pv tv W (IsSl.nil _ _ _ _) h1 h2 h3
  rw [find_two [] nm (nm ++ [120]) (fun e => by have := congrArg List.length e; simp at this)] at CFb
  have HZI := hid zI
  clear hW2 hB g0 g1 g2 g3 sN zI zP
  refine CFa.out.mono ?_
  rintro e W3 ⟨u, rfl, hu, X3⟩
  have hu : IsSl 3 IsTy none' W3 u [tInt] := hu
  have HU := hid hu
  obtain ⟨a1, cap1, rfl, _⟩ := hu
  have G03 := hid (X3.heap G0.out (fun h => h))
  have X3 := hid (X2.out.trans X3)
  have hcat : (⟨nm.toArray⟩ : ByteArray) ++ ⟨#[120]⟩ = ⟨(nm ++ [120]).toArray⟩ := by apply ByteArray.ext; simp
  have hn2 : ¬ maxLen < nm.length + 1 := by omega
  have hs1 : (⟨nm.toArray⟩ : ByteArray).size = nm.length := bsize nm
  have hs2 : (⟨#[120]⟩ : ByteArray).size = 1 := rfl
  have k0 := cell_at (heap_alloc_keep (heap_alloc_keep G03.out (.cells #[.string ⟨nm.toArray⟩, .string ⟨(nm ++ [120]).toArray⟩] 9 (0, 0))) (.cells #[.int .i64 4, .string ⟨nm.toArray⟩, .slice none 0 0] 33 (0, 0))) 0
  have k1 := cell_at (heap_alloc_keep (heap_alloc_keep G03.out (.cells #[.string ⟨nm.toArray⟩, .string ⟨(nm ++ [120]).toArray⟩] 9 (0, 0))) (.cells #[.int .i64 4, .string ⟨nm.toArray⟩, .slice none 0 0] 33 (0, 0))) 1
  have k2 := cell_at (heap_alloc_keep (heap_alloc_keep G03.out (.cells #[.string ⟨nm.toArray⟩, .string ⟨(nm ++ [120]).toArray⟩] 9 (0, 0))) (.cells #[.int .i64 4, .string ⟨nm.toArray⟩, .slice none 0 0] 33 (0, 0))) 2
  simp only [List.getElem?_toArray, List.getElem?_cons_zero, List.getElem?_cons_succ] at k0 k1 k2
  go_wp2_with fail
  obtain ⟨C, hC⟩ : ∃ C, C = W3.heap.size := ⟨_, rfl⟩
  rw [← hC]
  obtain ⟨W4, hW4⟩ : ∃ W4, W4 = ((W3.alloc (.cells #[.string ⟨nm.toArray⟩, .string ⟨(nm ++ [120]).toArray⟩] 9 (0, 0))).alloc (.cells #[.int .i64 4, .string ⟨nm.toArray⟩, .slice none 0 0] 33 (0, 0))).alloc (.cells #[.int .i64 1, .string ⟨#[105, 110, 116]⟩, .slice none 0 0] 33 (0, 0)) := ⟨_, rfl⟩
  rw [← hW4]
  have E4 : Ext none' W3 W4 := by rw [hW4]; exact (((Ext.refl _ _).alloc _).alloc _).alloc _
  have g0 : W4.heap[C]? = some (.cells #[.string ⟨nm.toArray⟩, .string ⟨(nm ++ [120]).toArray⟩] 9 (0, 0)) := by rw [hW4]; exact heap_alloc_keep (heap_alloc_keep (heap_alloc_at hC _) _) _
  have g1 : W4.heap[C + 1]? = some (.cells #[.int .i64 4, .string ⟨nm.toArray⟩, .slice none 0 0] 33 (0, 0)) := by rw [hW4]; exact heap_alloc_keep (heap_alloc_at (by rw [hC]; simp) _) _
  have g2 : W4.heap[C + 1 + 1]? = some (.cells #[.int .i64 1, .string ⟨#[105, 110, 116]⟩, .slice none 0 0] 33 (0, 0)) := by rw [hW4]; exact heap_alloc_at (by rw [hC]; simp) _
  have sN2 : IsStrs none' W4 (.slice (some ⟨C, 0, none⟩) 2 2) [nm, nm ++ [120]] := isSl_lit (xs := [nm, nm ++ [120]]) g0 (fun h => h) (by simp) (fun i h => by
    have h' : i < 2 := h
    have hi : i = 0 ∨ i = 1 := by omega
    rcases hi with rfl | rfl <;> rfl)
  have CG := hid (CFb.out W4 _ _ _ sN2 (sl_one g1 (ty_par _ nm)) (sl_one g2 (ty_int _)))
  clear k0 k1 k2 g0 g1 g2 sN2 hW4 hC hcat hs1 hs2
  refine CG.out.mono ?_
  rintro e W5 ⟨u2, rfl, hu2, X5⟩
  obtain ⟨a2, cap2, rfl, _⟩ := hu2
  have E5 := E4.trans X5
  have HU5 := hid (HU.out.ext isTy_good E5 fun _ _ h => h)
  have G05 := hid (E5.heap G03.out (fun h => h))
  have X5 := hid (X3.out.trans E5)
  clear E4 E5
  obtain ⟨b0, o0, cs0, rfl, _, hw0, hc0, ht0⟩ := HU5.out.at 0 (by simp)
  obtain ⟨x0, rfl, hx0⟩ := ht0.parts
  have HX0 := hid hx0
  obtain ⟨a5, cap5, rfl, _⟩ := hx0
  have HC0 := hid hc0
  have CS0 := hid fun (W : World) (X : Ext none' W5 W) => Same_any tInt tInt HZI.out HZI.out (.agg #[.int .i64 1, .string ⟨#[105, 110, 116]⟩, .slice a5 0 cap5]) (.agg #[.int .i64 1, .string ⟨#[105, 110, 116]⟩, .slice none 0 0]) W ⟨_, rfl, HX0.out.ext isTy_good X fun _ _ h => h⟩ ⟨_, rfl, IsSl.nil _ _ _ _⟩
  rw [same_int] at CS0
  have y0 := fun t' : LaterF none' W5 => (t'.x.cell (p := ⟨b0, o0, none⟩) hw0 (fun h => h)).trans (by simpa using HC0.out 0 _ rfl)
  have y1 := fun t' : LaterF none' W5 => (t'.x.cell (p := ⟨b0, o0 + 1, none⟩) hw0 (fun h => h)).trans (by simpa using HC0.out 1 _ rfl)
  have y2 := fun t' : LaterF none' W5 => (t'.x.cell (p := ⟨b0, o0 + 2, none⟩) hw0 (fun h => h)).trans (by simpa using HC0.out 2 _ rfl)
  have n0 := fun t' : LaterF none' W5 => cell_at (t'.x.heap G05.out (fun h => h)) 0
  have n1 := fun t' : LaterF none' W5 => cell_at (t'.x.heap G05.out (fun h => h)) 1
  have n2 := fun t' : LaterF none' W5 => cell_at (t'.x.heap G05.out (fun h => h)) 2
  simp only [List.getElem?_toArray, List.getElem?_cons_zero, List.getElem?_cons_succ] at n0 n1 n2
  clear hc0 ht0
  go_upto_region 9 with (fail)
  refine region_q none' W5 (.qs [0, 1, 2, 3, 4, 5, 6, 7, 8, 9, 10] (.one 11 true (.qs [12, 13, 14, 15, 16, 17] (.one 18 false (.one 19 false (.one 20 false .fin)))))) (by kernel_rfl) (by kernel_rfl) (fun dst v c a w h => by cases dst <;> exact h) ?_
  refine ⟨In.of (Ext.refl _ _).drew, ?_⟩
  change wpQuiet _ _ (fun w' => ∃ t : LaterF none' W5, w' = t.w) _ _ _
  simp only [sel, List.getElem?_cons_succ, List.getElem?_cons_zero]
  repeat (go_big_quiet_step (fail))
  refine wpQuiet_nil ?_
  simp only [wpTreeQ, stepT, sel, List.getElem?_cons_succ, List.getElem?_cons_zero]
  have D1 := hid (Ext.refl none' W5).drew
  go_wp2_with fail
  refine (CS0.out _ D1.out).mono ?_
  rintro e W6 ⟨rfl, X6⟩
  have X6 := hid (D1.out.trans X6)
  go_wp2_with fail
  refine ⟨In.of X6.out, In.of X6.out, ?_⟩
  change wpQuiet _ _ (fun w' => ∃ t : LaterF none' W5, w' = t.w) _ _ _
  repeat (go_big_quiet_step (fail))
  refine wpQuiet_nil ?_
  clear y0 y1 y2 n0 n1 n2
  go_wp2_with fail
  refine (AW.out _).mono ?_
  rintro e W7 ⟨rfl, X7⟩
  have X7 := hid (X5.out.trans (X6.out.trans X7))
  go_wp2_with fail
  go_ret
  exact ⟨rfl, X7.out⟩
end Go.Proofs.Ytmlhkgocilpobaa
