import Derived.Test.YtmlhkgocilpobaaUnMoreP
/-
  demoticlaw12.alike: a tree is like itself.
-/
namespace Go.Proofs.Ytmlhkgocilpobaa
open Go.RowKit Go.Lib Go.BigFrame
set_option maxRecDepth 100000 in
set_option maxHeartbeats 3200000 in
theorem alike_any (t : Ty) : t.size ≤ bigD → ∀ (va vb : Value) (w : World), TyV none' w t va → TyV none' w t vb → Calls Try.prog 11 #[va, vb] w (BoolP true w) := by
  induction t using Ty.induct with
  | h k n l ih =>
    intro hsz va vb w hva hvb
    obtain ⟨x, rfl, hx⟩ := hva
    obtain ⟨y, rfl, hy⟩ := hvb
    have hx : IsSl 3 IsTy none' w x l := hx
    have hy : IsSl 3 IsTy none' w y l := hy
    have HX := hid hx
    have HY := hid hy
    obtain ⟨a0, cap0, rfl, _⟩ := hx
    obtain ⟨a1, cap1, rfl, _⟩ := hy
    have HIH := hid ih
    have hll : l.length ≤ bigD := by have := Ty.args_len (.mk k n l); simp only [Ty.args] at this; omega
    unfold bigD at hll
    have HSZ := hid hsz
    clear ih hsz
    show Calls Try.prog 11 #[.agg #[.int .i64 k, .string ⟨n.toArray⟩, .slice a0 l.length cap0], .agg #[.int .i64 k, .string ⟨n.toArray⟩, .slice a1 l.length cap1]] w (BoolP true w)
    obtain ⟨B, hB⟩ : ∃ B, B = w.heap.size := ⟨_, rfl⟩
    obtain ⟨W1, hW1⟩ : ∃ W1, W1 = (w.alloc (.cells #[.int .i64 k, .string ⟨n.toArray⟩, .slice a0 l.length cap0] 33)).alloc (.cells #[.int .i64 k, .string ⟨n.toArray⟩, .slice a1 l.length cap1] 33) := ⟨_, rfl⟩
    have g0 : W1.heap[B]? = some (.cells #[.int .i64 k, .string ⟨n.toArray⟩, .slice a0 l.length cap0] 33 (0, 0)) := by rw [hW1]; exact heap_alloc_keep (heap_alloc_at hB _) _
    have g1 : W1.heap[B + 1]? = some (.cells #[.int .i64 k, .string ⟨n.toArray⟩, .slice a1 l.length cap1] 33 (0, 0)) := by rw [hW1]; exact heap_alloc_at (by rw [hB]; simp) _
    have X1 : Ext none' w W1 := by rw [hW1]; exact ((Ext.refl _ _).alloc _).alloc _
    have HX1 := hid (HX.out.ext isTy_good X1 fun _ _ h => h.elim)
    have HY1 := hid (HY.out.ext isTy_good X1 fun _ _ h => h.elim)
    have X1 := hid X1
    have p0 := cell_at g0 0
    have p1 := cell_at g0 1
    have p2 := cell_at g0 2
    have r0 := cell_at g1 0
    have r1 := cell_at g1 1
    have r2 := cell_at g1 2
    simp only [List.getElem?_toArray, List.getElem?_cons_zero, List.getElem?_cons_succ] at p0 p1 p2 r0 r1 r2
    have G0 := hid g0
    have G1 := hid g1
    clear g0 g1
    have q0 : (k != k) = false := by simp
    have q1 : ((⟨n.toArray⟩ : ByteArray) != ⟨n.toArray⟩) = false := by unfold bne; rw [show ((⟨n.toArray⟩ : ByteArray) == ⟨n.toArray⟩) = true from by show (n.toArray == n.toArray) = true; simp]; rfl
    have q2 : ((l.length : Int) != (l.length : Int)) = false := by simp
    go_enter Try.func11, Try.ntmps11
    go_upto_region 1 with (fail)
    rw [← hW1, ← hB]
    clear hB hW1
    go_wp2_with fail
    clear p0 p1 p2 r0 r1 r2
    go_loopw [5] (fun z wr => ∃ (i : Nat), z = .int .i64 (i : Nat) ∧ i ≤ l.length ∧ Hid (Ext none' W1 wr)) (fun z _ => l.length - (RowKit.intOf z).toNat)
    case atStart => exact ⟨0, rfl, by omega, hid (Ext.refl _ _)⟩
    case round =>
      obtain ⟨i, rfl, hle, HR⟩ := hrel
      have p2 := cell_at (HR.out.heap G0.out (fun h => h)) 2
      simp only [List.getElem?_toArray, List.getElem?_cons_zero, List.getElem?_cons_succ] at p2
      by_cases hi : i < l.length
      · obtain ⟨b, off, cs, rfl, _, hbw, hcc, hty⟩ := (HX1.out.ext isTy_good HR.out fun _ _ h => h.elim).at i hi
        obtain ⟨b', off', cs', rfl, _, hbw', hcc', hty'⟩ := (HY1.out.ext isTy_good HR.out fun _ _ h => h.elim).at i hi
        obtain ⟨x', rfl, hx'⟩ := hty.parts
        obtain ⟨y', rfl, hy'⟩ := hty'.parts
        have HX2 := hid hx'
        have HY2 := hid hy'
        obtain ⟨a', cap', rfl, _⟩ := hx'
        obtain ⟨a'', cap'', rfl, _⟩ := hy'
        have hcc := hid hcc
        have hcc' := hid hcc'
        have hmem := List.getElem_mem hi
        have hts : l[i].size ≤ bigD := by have := Ty.size_arg (t := .mk k n l) hmem; have := HSZ.out; omega
        have CS := hid fun (W : World) (X : Ext none' wr W) => HIH.out _ hmem hts (.agg #[.int .i64 l[i].kind, .string ⟨l[i].name.toArray⟩, .slice a' l[i].args.length cap']) (.agg #[.int .i64 l[i].kind, .string ⟨l[i].name.toArray⟩, .slice a'' l[i].args.length cap'']) W ⟨_, rfl, HX2.out.ext isTy_good X fun _ _ h => h.elim⟩ ⟨_, rfl, HY2.out.ext isTy_good X fun _ _ h => h.elim⟩
        obtain ⟨t, ht⟩ : ∃ t, l[i] = t := ⟨_, rfl⟩
        rw [ht] at hcc hcc' CS
        clear hty hty' hts hmem HX2 HY2 ht
        have y0 := fun t' : LaterF none' wr => (t'.x.cell (p := ⟨b, off + i * 3, none⟩) hbw (fun h => h)).trans (by simpa using hcc.out 0 _ rfl)
        have y1 := fun t' : LaterF none' wr => (t'.x.cell (p := ⟨b, off + i * 3 + 1, none⟩) hbw (fun h => h)).trans (hcc.out 1 _ rfl)
        have y2 := fun t' : LaterF none' wr => (t'.x.cell (p := ⟨b, off + i * 3 + 2, none⟩) hbw (fun h => h)).trans (hcc.out 2 _ rfl)
        have z0 := fun t' : LaterF none' wr => (t'.x.cell (p := ⟨b', off' + i * 3, none⟩) hbw' (fun h => h)).trans (by simpa using hcc'.out 0 _ rfl)
        have z1 := fun t' : LaterF none' wr => (t'.x.cell (p := ⟨b', off' + i * 3 + 1, none⟩) hbw' (fun h => h)).trans (hcc'.out 1 _ rfl)
        have z2 := fun t' : LaterF none' wr => (t'.x.cell (p := ⟨b', off' + i * 3 + 2, none⟩) hbw' (fun h => h)).trans (hcc'.out 2 _ rfl)
        have s0 := fun t' : LaterF none' wr => cell_at (t'.x.heap (HR.out.heap G0.out (fun h => h)) (fun h => h)) 2
        have s1 := fun t' : LaterF none' wr => cell_at (t'.x.heap (HR.out.heap G1.out (fun h => h)) (fun h => h)) 2
        simp only [List.getElem?_toArray, List.getElem?_cons_zero, List.getElem?_cons_succ] at s0 s1
        go_upto_region 6 with (fail)
        refine region_q none' wr (.qs [0, 1, 2, 3, 4, 5, 6, 7, 8, 9] (.one 10 false (.one 11 false .fin))) (by kernel_rfl) (by kernel_rfl) (fun dst v c a w h => by cases dst <;> exact h) ?_
        refine ⟨In.of (Ext.refl _ _).drew, ?_⟩
        change wpQuiet _ _ (fun w' => ∃ t : LaterF none' wr, w' = t.w) _ _ _
        simp only [sel, List.getElem?_cons_succ, List.getElem?_cons_zero]
        repeat (go_big_quiet_step (fail))
        refine wpQuiet_nil ?_
        simp only [wpTreeQ, stepT, sel, List.getElem?_cons_succ, List.getElem?_cons_zero]
        clear y0 y1 y2 z0 z1 z2 s0 s1
        have D1 := hid (Ext.refl none' wr).drew
        go_wp2_with fail
        refine (CS.out _ D1.out).mono ?_
        rintro e w2 ⟨rfl, X2⟩
        have X2 := hid (HR.out.trans (D1.out.trans X2))
        go_wp2_with fail
        go_roundw
        case rel => exact ⟨i + 1, by go_num, by omega, X2⟩
        case measure => simp [RowKit.intOf]; omega
      · obtain rfl : i = l.length := by omega
        go_wp2_with fail
        go_ret
        exact ⟨rfl, X1.out.trans HR.out⟩
end Go.Proofs.Ytmlhkgocilpobaa
