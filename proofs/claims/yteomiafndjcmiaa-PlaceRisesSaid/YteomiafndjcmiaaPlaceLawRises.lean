import Derived.Test.YteomiafndjcmiaaPlaceAwake
import Derived.Test.YteomiafndjcmiaaPlaceFacts
namespace Go.Proofs.Yteomiafndjcmiaa
open Go.RowKit Go.Lib Go.BigFrame
theorem rises_long (aa : Option Addr) (len cap : Nat) (i j : Int) (w : World) (h : 300 < len) (hm : len ≤ 9223372036854775807) : Calls Try.prog 4 #[.slice aa len cap, .int .u16 i, .int .u16 j] w (TruePost w) := by
  go_enter Try.func4, Try.ntmps4
  go_wp2
  go_ret
  exact ⟨rfl, Ext.refl _ _⟩
/-- Behind the two calls: p and q in blocks of their own, and the long test. -/
structure RisesRel (s : List UInt8) (p1 p2 q1 q2 : Int) : Prop where
  h : p1 < q1 ∨ (p1 = q1 ∧ p2 ≤ q2)
  hq : q1 ≤ ((s.count 10 : Nat) : Int) + 1
  h1 : 1 ≤ p1
  h2 : 1 ≤ p2
theorem rises_rel (s : List UInt8) (x y : Int) (hx : 0 ≤ x ∧ x ≤ s.length) (hy : 0 ≤ y ∧ y ≤ s.length) : RisesRel s (ofI s (min x y)).1 (ofI s (min x y)).2 (ofI s (max x y)).1 (ofI s (max x y)).2 := by
  obtain ⟨a, ha⟩ : ∃ a : Nat, min x y = a := ⟨(min x y).toNat, by omega⟩
  obtain ⟨b, hb⟩ : ∃ b : Nat, max x y = b := ⟨(max x y).toNat, by omega⟩
  have e1 : ofI s (min x y) = ofP s a := by unfold ofI; rw [if_neg (by omega), ha, Int.toNat_natCast]
  have e2 : ofI s (max x y) = ofP s b := by unfold ofI; rw [if_neg (by omega), hb, Int.toNat_natCast]
  rw [e1, e2]
  have r := rises s a b (by omega) (by omega)
  have b1 := ofP_bounds s a (by omega)
  have b2 := ofP_bounds s b (by omega)
  exact ⟨r, b2.2.2, b1.1, b1.2.1⟩
set_option maxHeartbeats 3200000 in
theorem rises_any (s : List UInt8) (v : Value) (i j : Nat) (w : World) (hv : Bytes w.heap.size w v s) (hs : s.length ≤ 300) (hi : i ≤ 65535) (hj : j ≤ 65535) : Calls Try.prog 4 #[v, .int .u16 i, .int .u16 j] w (TruePost w) := by
  have HV := hid hv
  obtain ⟨aa, cap, rfl, h1, h2, _, _⟩ := hv
  have hz : ((s.length : Int) + 1 == 0) = false := by simp; omega
  have m1 := Int.emod_nonneg (i : Int) (b := (s.length : Int) + 1) (by omega)
  have m2 := Int.emod_lt_of_pos (i : Int) (b := (s.length : Int) + 1) (by omega)
  have m3 := Int.emod_nonneg (j : Int) (b := (s.length : Int) + 1) (by omega)
  have m4 := Int.emod_lt_of_pos (j : Int) (b := (s.length : Int) + 1) (by omega)
  have R := rises_rel s ((i : Int) % ((s.length : Int) + 1)) ((j : Int) % ((s.length : Int) + 1)) (by omega) (by omega)
  clear m1 m2 m3 m4
  have C := fun k w' (hx : Ext none' w w') => of_any _ s _ k w' (HV.out.keep hx) hx.size (by omega)
  have CL : ∀ w', Ext none' w w' → Calls Try.prog 11 #[.slice aa s.length cap] w' (IntPost ((s.count 10 : Nat) + 1) w') := fun w' hx => lines_any _ s _ w' (HV.out.keep hx) (by omega)
  have C1 := hid (C (min ((i : Int) % ((s.length : Int) + 1)) ((j : Int) % ((s.length : Int) + 1))))
  have C2 := hid (C (max ((i : Int) % ((s.length : Int) + 1)) ((j : Int) % ((s.length : Int) + 1))))
  have CL := hid CL
  clear C
  obtain ⟨p1, p2, hp⟩ : ∃ p1 p2, ofI s (min ((i : Int) % ((s.length : Int) + 1)) ((j : Int) % ((s.length : Int) + 1))) = (p1, p2) := ⟨_, _, rfl⟩
  obtain ⟨q1, q2, hq⟩ : ∃ p1 p2, ofI s (max ((i : Int) % ((s.length : Int) + 1)) ((j : Int) % ((s.length : Int) + 1))) = (p1, p2) := ⟨_, _, rfl⟩
  rw [hp, hq] at R
  rw [hp] at C1
  rw [hq] at C2
  clear hp hq
  go_enter Try.func4, Try.ntmps4
  go_wp2_with fail
  refine region_later w (by kernel_rfl) (by kernel_rfl) (Ext.refl _ _) ?_
  repeat (go_big_quiet_step (fail))
  refine wpQuiet_nil ?_
  rintro _ ⟨⟨w1, X1⟩, rfl⟩
  have X1 := hid X1
  go_wp2_with fail
  refine (C1.out _ X1.out).mono ?_
  rintro e w2 ⟨rfl, X2⟩
  have X2 := hid (X1.out.trans X2)
  clear X1
  go_wp2_with fail
  refine (C2.out _ X2.out).mono ?_
  rintro e w3 ⟨rfl, X3⟩
  have X3 := hid (X2.out.trans X3)
  clear X2
  obtain ⟨w4, hw4⟩ : ∃ w4, (w3.alloc (.cells #[.int .i64 p1, .int .i64 p2] 26)).alloc (.cells #[.int .i64 q1, .int .i64 q2] 26) = w4 := ⟨_, rfl⟩
  have X4 : Ext none' w w4 := by rw [← hw4]; exact (X3.out.alloc _).alloc _
  have hP : w4.heap[w3.heap.size]? = some (.cells (pcells p1 p2) 26 (0, 0)) := by rw [← hw4]; exact heap_alloc_keep (heap_alloc_at rfl _) _
  have hQ : w4.heap[w3.heap.size + 1]? = some (.cells (pcells q1 q2) 26 (0, 0)) := by rw [← hw4]; exact heap_alloc_at (by simp) _
  have a0 : ∀ t : Later w4, t.w.cell? ⟨w3.heap.size, 0, none⟩ = some (.int .i64 p1) := fun t => cell_at (t.x.heap hP (fun h => h)) 0
  have a1 : ∀ t : Later w4, t.w.cell? ⟨w3.heap.size, 1, none⟩ = some (.int .i64 p2) := fun t => cell_at (t.x.heap hP (fun h => h)) 1
  have b0 : ∀ t : Later w4, t.w.cell? ⟨w3.heap.size + 1, 0, none⟩ = some (.int .i64 q1) := fun t => cell_at (t.x.heap hQ (fun h => h)) 0
  have b1 : ∀ t : Later w4, t.w.cell? ⟨w3.heap.size + 1, 1, none⟩ = some (.int .i64 q2) := fun t => cell_at (t.x.heap hQ (fun h => h)) 1
  have X4 := hid X4
  have hW := hid hw4
  clear hw4 hP hQ
  obtain ⟨hr, hq, hp1, hp2⟩ := R
  have g1 : decide (q1 ≤ ((s.count 10 : Nat) : Int) + 1) = true := by simpa using hq
  have g2 : decide ((1 : Int) ≤ p1) = true := by simpa using hp1
  have g3 : decide ((1 : Int) ≤ p2) = true := by simpa using hp2
  by_cases hlt : p1 < q1
  · have d1 : decide (p1 < q1) = true := by simpa using hlt
    go_wp2_with fail
    rw [hW.out]
    refine region_later w4 (by kernel_rfl) (by kernel_rfl) (Ext.refl _ _) ?_
    repeat (go_big_quiet_step ((first | (go_at_call 11; exact Calls.later (CL.out _ (X4.out.trans (Later.x _)))) | (go_at_call 10; exact Calls.later (awake_any _)))))
    refine wpQuiet_nil ?_
    rintro _ ⟨⟨w5, X5⟩, rfl⟩
    have X5 := hid X5
    go_wp2_with fail
    go_ret
    exact ⟨rfl, X4.out.trans X5.out⟩
  · have e1 : p1 = q1 := by omega
    have e2 : p2 ≤ q2 := by omega
    subst e1
    have d1 : decide (p1 < p1) = false := by simp
    have d2 : (p1 == p1) = true := by simp
    have d3 : decide (p2 ≤ q2) = true := by simpa using e2
    clear hlt hr
    go_wp2_with fail
    rw [hW.out]
    refine region_later w4 (by kernel_rfl) (by kernel_rfl) (Ext.refl _ _) ?_
    repeat (go_big_quiet_step ((first | (go_at_call 11; exact Calls.later (CL.out _ (X4.out.trans (Later.x _)))) | (go_at_call 10; exact Calls.later (awake_any _)))))
    refine wpQuiet_nil ?_
    rintro _ ⟨⟨w5, X5⟩, rfl⟩
    have X5 := hid X5
    go_wp2_with fail
    go_ret
    exact ⟨rfl, X4.out.trans X5.out⟩
end Go.Proofs.Yteomiafndjcmiaa
