import Derived.Test.YtielcpnalepkfaaDoorTokNext
import Derived.Test.YtielcpnalepkfaaDoorPlWrong
import Derived.Defers
import Derived.Recover
import Derived.RegionTactic
namespace Go.Proofs.YtielcpnalepkfaaDoor
open Go.RowKit Go.Lib Go.BigFrame
theorem catch_idle (a b c : Addr) (w : World) :
    CallsD Tryd.prog 44 #[.pointer (some a), .pointer (some b), .pointer (some c)] .returning w fun e u' w' => e = .returned (.tuple #[]) ∧ u' = .returning ∧ w' = w := by
  refine callsD_of_wpS Tryd.func44 rfl fun c₀ cs hu => ?_
  apply wpS_seq
  apply wpS_region
  simp [wpOpsS, go_sem, recoverD, hu, Tryd.ntmps44, Exit.thenS]
  apply wpS_seq
  apply wpS_region
  simp [wpOpsS, go_sem, Exit.thenS]
  refine wpS_cond (t := false) (by simp [Act.eval, Array.replicate]) ?_
  simp only [Bool.false_eq_true, if_false]
  refine wpS_of_wp (wp_skip ?_)
  cases c₀
  simp_all [bodyPostS, results, Tryd.results44]
theorem wp_frameT {P : Program} {c : Code} {Q : Exit → Act → World → Prop} {t t' : Array Value} {d : List Deferred} {w : World} (h : t = t') (hw : c.wp P Q ⟨t', d⟩ w) : c.wp P Q ⟨t, d⟩ w := by rw [h]; exact hw
def CatchEnd (x y z k : Nat) (w : World) (e : Exit) (a : Act) (w' : World) : Prop :=
  e = .normal ∧ a.defers = [] ∧ ∃ w1, Ext none' w w1 ∧ w' = ((w1.setCell ⟨x, 0, none⟩ (.pointer none)).setCell ⟨y, 0, none⟩ (.int .i64 k)).setCell ⟨z, 0, none⟩ (.int .i64 3)
theorem catch_panic (x y z k : Nat) (vx vy vz : Value) (w : World) (hx : w.heap[x]? = some (.cells #[vx] 56 (0, 0))) (hy : w.heap[y]? = some (.cells #[vy] 3 (0, 0))) (hz : w.heap[z]? = some (.cells #[vz] 24 (0, 0))) (hxy : x ≠ y) (hxz : x ≠ z) (hyz : y ≠ z) :
    CallsD Tryd.prog 44 #[.pointer (some ⟨x, 0, none⟩), .pointer (some ⟨y, 0, none⟩), .pointer (some ⟨z, 0, none⟩)] (.panicking [{ v := gave k, recovered := false }]) w fun e u' w' =>
      e = .returned (.tuple #[]) ∧ u' = .panicking [{ v := gave k, recovered := true }] ∧ CatchEnd x y z k w .normal ⟨#[], []⟩ w' := by
  refine callsD_of_wpS Tryd.func44 rfl fun c₀ cs hu => ?_
  apply wpS_seq
  apply wpS_region
  simp [wpOpsS, go_sem, recoverD, hu, Tryd.ntmps44, Exit.thenS]
  apply wpS_seq
  apply wpS_region
  simp [wpOpsS, go_sem, Exit.thenS, gave]
  refine wpS_cond (t := true) (by simp [Act.eval, Array.replicate]) ?_
  simp only [if_true]
  have hta : ∀ w, (Instr.typeAssert (.iface 78 (.agg #[.int .i64 k])) 20 78 true).run Tryd.prog w = .ok (.tuple #[.agg #[.int .i64 k], .bool true]) w := fun _ => by kernel_rfl
  refine wpS_of_wp (Go.wp_mono (Q := CatchEnd x y z k w) ?_ ?_)
  · clear hu
    have HX := hid hx
    have HY := hid hy
    have HZ := hid hz
    clear hx hy hz
    refine wp_frameT (t' := #[.pointer (some ⟨x, 0, none⟩), .pointer (some ⟨y, 0, none⟩), .pointer (some ⟨z, 0, none⟩), (.iface 78 (.agg #[.int .i64 k])), undef, undef, (.iface 78 (.agg #[.int .i64 k])), (.iface 78 (.agg #[.int .i64 k])), .bool true, undef, undef, undef, undef, undef, undef, undef, undef, undef, undef]) (by kernel_rfl) ?_
    go_wp2
    obtain ⟨W1, hW1⟩ : ∃ W1, W1 = w.alloc (.cells #[.int .i64 k] 78) := ⟨_, rfl⟩
    rw [← hW1]
    have X1 : Ext none' w W1 := by rw [hW1]; exact (Ext.refl _ _).alloc _
    have h4 : W1.heap[w.heap.size]? = some (.cells #[.int .i64 k] 78 (0, 0)) := by rw [hW1]; exact heap_alloc_at rfl _
    have n4 : ∀ t : LaterF (fun i => i = x ∨ i = y ∨ i = z) W1, t.w.cell? ⟨w.heap.size, 0, none⟩ = some (.int .i64 k) := fun t => by
      rw [cell_at (t.x.heap h4 (by have := heap_lt HX.out; have := heap_lt HY.out; have := heap_lt HZ.out; omega))]; rfl
    have gx := X1.heap HX.out (fun h => h)
    have gy := X1.heap HY.out (fun h => h)
    have gz := X1.heap HZ.out (fun h => h)
    have HX1 := hid X1
    have G := hid (And.intro gx (And.intro gy gz))
    clear X1 h4 gx gy gz hW1
    refine region_in (fun i => i = x ∨ i = y ∨ i = z) W1 [0, 1] [(2, true), (3, false), (4, false)] (by kernel_rfl) (by kernel_rfl) (fun dst v c a w h => by cases dst <;> exact h) (Ext.refl _ _) ?_
    simp only [sel, List.getElem?_cons_succ, List.getElem?_cons_zero]
    repeat (go_big_quiet_step (fail))
    refine wpQuiet_nil ?_
    simp only [wpChain, sel, List.getElem?_cons_succ, List.getElem?_cons_zero]
    obtain ⟨W2, hW2⟩ : ∃ W2, W2 = W1.drew := ⟨_, rfl⟩
    rw [← hW2]
    have X2 : Ext none' W1 W2 := by rw [hW2]; exact (Ext.refl _ _).drew
    have gx := X2.heap G.out.1 (fun h => h)
    have gy := X2.heap G.out.2.1 (fun h => h)
    have gz := X2.heap G.out.2.2 (fun h => h)
    have cx := cell_at gx 0
    have cy := cell_at gy 0
    have cz := cell_at gz 0
    have fx := free_at gx 0
    have fy := free_at gy 0
    have fz := free_at gz 0
    simp only [List.getElem?_toArray, List.getElem?_cons_zero] at cx cy cz
    have HX2 := hid X2
    clear n4 gx gy gz hW2 X2
    go_wp2_with fail
    refine ⟨In.of ((HX2.out.mono fun i _ h => h.elim).setCell (p := ⟨x, 0, none⟩) (.inl (.inl rfl)) _), ?_⟩
    go_wp2_with fail
    exact ⟨rfl, rfl, W2, HX1.out.trans HX2.out, rfl⟩
  · rintro e a w' ⟨rfl, h1, w1, h2, rfl⟩
    cases c₀
    simp_all [bodyPostS, results, Tryd.results44, gave]
    exact ⟨rfl, rfl, w1, h2, rfl⟩
end Go.Proofs.YtielcpnalepkfaaDoor
