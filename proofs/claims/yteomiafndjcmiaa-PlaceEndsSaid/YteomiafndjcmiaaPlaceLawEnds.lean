import Derived.Test.YteomiafndjcmiaaPlaceAwake
import Derived.Test.YteomiafndjcmiaaPlaceFacts
namespace Go.Proofs.Yteomiafndjcmiaa
open Go.RowKit Go.Lib Go.BigFrame
theorem ends_long (aa : Option Addr) (len cap : Nat) (k : Int) (w : World) (h : 300 < len) (hm : len ≤ 9223372036854775807) : Calls Try.prog 7 #[.slice aa len cap, .int .i64 k] w (TruePost w) := by
  go_enter Try.func7, Try.ntmps7
  go_wp2
  go_ret
  exact ⟨rfl, Ext.refl _ _⟩
theorem fld0 (x y : Int) (w : World) : (Instr.field 26 (.agg #[.int .i64 x, .int .i64 y]) 0).run Try.prog w = .ok (.int .i64 x) w := by kernel_rfl
set_option maxHeartbeats 3200000 in
theorem ends_any (s : List UInt8) (v : Value) (k : Int) (w : World) (hv : Bytes w.heap.size w v s) (hs : s.length ≤ 300) : Calls Try.prog 7 #[v, .int .i64 k] w (TruePost w) := by
  have fld := fld0
  have HV := hid hv
  obtain ⟨aa, cap, rfl, h1, h2, _, _⟩ := hv
  obtain ⟨w0, hw0⟩ : ∃ w0, w.alloc (.cells #[.int .i64 0, .int .i64 0] 26) = w0 := ⟨_, rfl⟩
  have E0 : Ext none' w w0 := by rw [← hw0]; exact ((Ext.refl none' w).alloc _)
  have hB : w0.heap[w.heap.size]? = some (.cells (pcells 0 0) 26 (0, 0)) := by rw [← hw0]; exact heap_alloc_at rfl _
  have c0 : ∀ t : Later w0, t.w.cell? ⟨w.heap.size, 0, none⟩ = some (.int .i64 0) := fun t => cell_at (t.x.heap hB (fun h => h)) 0
  have c1 : ∀ t : Later w0, t.w.cell? ⟨w.heap.size, 1, none⟩ = some (.int .i64 0) := fun t => cell_at (t.x.heap hB (fun h => h)) 1
  have C1 : k < 0 ∨ (s.length : Int) < k → ∀ w', Ext none' w0 w' → Calls Try.prog 9 #[.slice aa s.length cap, .int .i64 k] w' (PlPost (0, 0) w') := fun hk w' hx => by
    have e : ofI s k = (0, 0) := by unfold ofI; rw [if_pos hk]
    rw [← e]
    exact of_any _ s _ k w' (HV.out.keep (E0.trans hx)) (E0.trans hx).size (by omega)
  have C2 : ∀ w', Ext none' w0 w' → Calls Try.prog 9 #[.slice aa s.length cap, .int .i64 s.length] w' (PlPost (((s.count 10 : Nat) : Int) + 1, (ofP s s.length).2) w') := fun w' hx => by
    have e : ofI s (s.length : Int) = (((s.count 10 : Nat) : Int) + 1, (ofP s s.length).2) := by
      unfold ofI; rw [if_neg (by omega), Int.toNat_natCast, ← ofP_end]
    rw [← e]
    exact of_any _ s _ _ w' (HV.out.keep (E0.trans hx)) (E0.trans hx).size (by omega)
  have C3 : ∀ w', Ext none' w0 w' → Calls Try.prog 9 #[.slice aa s.length cap, .int .i64 0] w' (PlPost (1, 1) w') := fun w' hx => by
    have e : ofI s 0 = (1, 1) := by unfold ofI; rw [if_neg (by omega)]; exact ofP_zero s
    rw [← e]
    exact of_any _ s _ _ w' (HV.out.keep (E0.trans hx)) (E0.trans hx).size (by omega)
  have C4 : ∀ w', Ext none' w0 w' → Calls Try.prog 12 #[.slice aa s.length cap, .agg #[.int .i64 0, .int .i64 0]] w' (IntPost (-1) w') := fun w' hx => by
    rw [← atP_none s]
    exact at_any _ s _ 0 0 w' (HV.out.keep (E0.trans hx)) (E0.trans hx).size (by omega)
  have CL : ∀ w', Ext none' w0 w' → Calls Try.prog 11 #[.slice aa s.length cap] w' (IntPost ((s.count 10 : Nat) + 1) w') := fun w' hx => lines_any _ s _ w' (HV.out.keep (E0.trans hx)) (by omega)
  have C1 := hid C1
  have C2 := hid C2
  have C3 := hid C3
  have C4 := hid C4
  have CL := hid CL
  have E0 := hid E0
  clear hB
  by_cases hk : k < 0 ∨ (s.length : Int) < k
  · have C1 := hid (C1.out hk)
    by_cases hk1 : k < 0
    · have hd : decide (k < 0) = true := by simpa using hk1
      have hW := hid hw0
      clear hw0
      go_enter Try.func7, Try.ntmps7
      go_wp2_with fail
      rw [hW.out]
      refine region_later w0 (by kernel_rfl) (by kernel_rfl) (Ext.refl _ _) ?_
      repeat (go_big_quiet_step ((go_at_call 9; exact Calls.later (C1.out _ (Later.x _)))))
      refine wpQuiet_nil ?_
      rintro _ ⟨⟨w1, X1⟩, rfl⟩
      have X1 := hid X1
      go_wp2_with fail
      refine (C2.out _ X1.out).mono ?_
      rintro e w2 ⟨rfl, X2⟩
      have X2 := hid (X1.out.trans X2)
      go_wp2_with fail
      refine (CL.out _ X2.out).mono ?_
      rintro e w3 ⟨rfl, X3⟩
      have X3 := hid (X2.out.trans X3)
      go_wp2_with fail
      refine (C3.out _ X3.out).mono ?_
      rintro e w4 ⟨rfl, X4⟩
      have X4 := hid (X3.out.trans X4)
      have d0 := c0 ⟨w4, X4.out⟩
      have d1 := c1 ⟨w4, X4.out⟩
      go_wp2_with fail
      refine (C4.out _ X4.out).mono ?_
      rintro e w5 ⟨rfl, X5⟩
      have X5 := hid (X4.out.trans X5)
      go_wp2_with fail
      refine (awake_any w5).mono ?_
      rintro e w6 ⟨rfl, X6⟩
      have X6 := hid (X5.out.trans X6)
      go_wp2_with fail
      go_ret
      exact ⟨rfl, E0.out.trans X6.out⟩
    · have hd : decide (k < 0) = false := by simp; omega
      have hd2 : decide ((s.length : Int) < k) = true := by simp; omega
      have hW := hid hw0
      clear hw0
      go_enter Try.func7, Try.ntmps7
      go_wp2_with fail
      rw [hW.out]
      refine region_later w0 (by kernel_rfl) (by kernel_rfl) (Ext.refl _ _) ?_
      repeat (go_big_quiet_step ((go_at_call 9; exact Calls.later (C1.out _ (Later.x _)))))
      refine wpQuiet_nil ?_
      rintro _ ⟨⟨w1, X1⟩, rfl⟩
      have X1 := hid X1
      go_wp2_with fail
      refine (C2.out _ X1.out).mono ?_
      rintro e w2 ⟨rfl, X2⟩
      have X2 := hid (X1.out.trans X2)
      go_wp2_with fail
      refine (CL.out _ X2.out).mono ?_
      rintro e w3 ⟨rfl, X3⟩
      have X3 := hid (X2.out.trans X3)
      go_wp2_with fail
      refine (C3.out _ X3.out).mono ?_
      rintro e w4 ⟨rfl, X4⟩
      have X4 := hid (X3.out.trans X4)
      have d0 := c0 ⟨w4, X4.out⟩
      have d1 := c1 ⟨w4, X4.out⟩
      go_wp2_with fail
      refine (C4.out _ X4.out).mono ?_
      rintro e w5 ⟨rfl, X5⟩
      have X5 := hid (X4.out.trans X5)
      go_wp2_with fail
      refine (awake_any w5).mono ?_
      rintro e w6 ⟨rfl, X6⟩
      have X6 := hid (X5.out.trans X6)
      go_wp2_with fail
      go_ret
      exact ⟨rfl, E0.out.trans X6.out⟩
  · have hd : decide (k < 0) = false := by simp; omega
    have hd2 : decide ((s.length : Int) < k) = false := by simp; omega
    have hW := hid hw0
    clear hw0
    go_enter Try.func7, Try.ntmps7
    go_wp2_with fail
    rw [hW.out]
    refine region_later w0 (by kernel_rfl) (by kernel_rfl) (Ext.refl _ _) ?_
    repeat (go_big_quiet_step (fail))
    refine wpQuiet_nil ?_
    rintro _ ⟨⟨w1, X1⟩, rfl⟩
    have X1 := hid X1
    go_wp2_with fail
    refine (C2.out _ X1.out).mono ?_
    rintro e w2 ⟨rfl, X2⟩
    have X2 := hid (X1.out.trans X2)
    go_wp2_with fail
    refine (CL.out _ X2.out).mono ?_
    rintro e w3 ⟨rfl, X3⟩
    have X3 := hid (X2.out.trans X3)
    go_wp2_with fail
    refine (C3.out _ X3.out).mono ?_
    rintro e w4 ⟨rfl, X4⟩
    have X4 := hid (X3.out.trans X4)
    have d0 := c0 ⟨w4, X4.out⟩
    have d1 := c1 ⟨w4, X4.out⟩
    go_wp2_with fail
    refine (C4.out _ X4.out).mono ?_
    rintro e w5 ⟨rfl, X5⟩
    have X5 := hid (X4.out.trans X5)
    go_wp2_with fail
    refine (awake_any w5).mono ?_
    rintro e w6 ⟨rfl, X6⟩
    have X6 := hid (X5.out.trans X6)
    go_wp2_with fail
    go_ret
    exact ⟨rfl, E0.out.trans X6.out⟩
end Go.Proofs.Yteomiafndjcmiaa
