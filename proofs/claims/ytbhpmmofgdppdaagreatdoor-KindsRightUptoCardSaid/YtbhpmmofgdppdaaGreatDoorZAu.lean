import Derived.Test.YtbhpmmofgdppdaaGreatDoorZAq
import Derived.Test.YtbhpmmofgdppdaaGreatDoorZAt
import Derived.Test.YtbhpmmofgdppdaaGreatDoorZAr
import Derived.Deep.Cut
/-
  demoticlaw10.awake.
-/
namespace Go.Proofs.YtbhpmmofgdppdaaGreatDoor
open Go.RowKit Go.Lib Go.BigFrame
def aInt : Ty := .mk 1 nIntK []
def aRow : Ty := .mk 5 [] [aInt]
def aDs : List Df := [⟨[65], [], aRow, true⟩, ⟨[66], [], .mk 3 [65] [], false⟩]
def aB : Ty := .mk 3 [66] []
def aNd : Nd := .mk 11 [] [.mk 10 nIntK [] 0] 0
theorem aw_full : fullP aDs (behindP aDs aB) = aRow := by kernel_rfl
theorem aw_same : sameP 100 aRow aRow = true := by kernel_rfl
theorem aw_asg1 : assignsP aDs aRow aB = true := by kernel_rfl
theorem aw_asg2 : assignsP aDs aInt aB = false := by kernel_rfl
theorem aw_of : ofK [] 2 aNd = aRow := by kernel_rfl
theorem aw_text : (if rightB (tyF nmB 2 (strip aNd)) (strip aNd) then typF 2 (strip aNd) else []) = [91, 93, 105, 110, 116] := by kernel_rfl
theorem aw_fit : DefsFit aDs := ⟨fun d hd => by
    simp [aDs] at hd
    rcases hd with rfl | rfl <;> simp [Ty.size, Ty.sizeL, aRow, aInt], by simp [aDs], fun d hd => by
    simp [aDs] at hd
    rcases hd with rfl | rfl <;> simp⟩
theorem aw_ok : DefsOk aDs := fun d hd => by
    simp [aDs] at hd
    rcases hd with rfl | rfl <;> simp [Ty.size, Ty.sizeL, aRow, aInt]
theorem aw_beh : behindP aDs aB = aRow := by kernel_rfl
set_option maxRecDepth 100000 in
set_option maxHeartbeats 3200000 in
theorem awake_any (w : World) : Calls Tryz.prog 18 #[] w (TruePost w) := by
  go_enter Tryz.func18, Tryz.ntmps18
  go_upto_region 5 with (fail)
  obtain ⟨B, hB⟩ : ∃ B, B = w.heap.size := ⟨_, rfl⟩
  rw [← hB]
  obtain ⟨W0, hW0⟩ : ∃ W0, W0 = (((((w.alloc (.cells #[.int .i64 1, .string ⟨#[105, 110, 116]⟩, .slice none 0 0] 32)).alloc (.cells #[.int .i64 1, .string ⟨#[105, 110, 116]⟩, .slice none 0 0] 32)).alloc (.cells #[.int .i64 5, .string ⟨#[]⟩, .slice (some ⟨B + 1, 0, none⟩) 1 1] 32)).alloc (.cells #[.string ⟨#[65]⟩, .slice none 0 0, .int .i64 5, .string ⟨#[]⟩, .slice (some ⟨B + 1, 0, none⟩) 1 1, .bool true, .string ⟨#[66]⟩, .slice none 0 0, .int .i64 3, .string ⟨#[65]⟩, .slice none 0 0, .bool false] 61)).alloc (.cells #[.int .i64 3, .string ⟨#[66]⟩, .slice none 0 0] 32)) := ⟨_, rfl⟩
  rw [← hW0]
  have X0 := hid (show Ext none' w W0 by rw [hW0]; exact (((((Ext.refl _ _).alloc _).alloc _).alloc _).alloc _).alloc _)
  have g0 : W0.heap[B]? = some (.cells #[.int .i64 1, .string ⟨#[105, 110, 116]⟩, .slice none 0 0] 32 (0, 0)) := by rw [hW0]; exact (heap_alloc_keep (heap_alloc_keep (heap_alloc_keep (heap_alloc_keep (heap_alloc_at hB _) _) _) _) _)
  have g1 : W0.heap[B + 1]? = some (.cells #[.int .i64 1, .string ⟨#[105, 110, 116]⟩, .slice none 0 0] 32 (0, 0)) := by rw [hW0]; exact (heap_alloc_keep (heap_alloc_keep (heap_alloc_keep (heap_alloc_at (by rw [hB]; simp) _) _) _) _)
  have g2 : W0.heap[B + 1 + 1]? = some (.cells #[.int .i64 5, .string ⟨#[]⟩, .slice (some ⟨B + 1, 0, none⟩) 1 1] 32 (0, 0)) := by rw [hW0]; exact (heap_alloc_keep (heap_alloc_keep (heap_alloc_at (by rw [hB]; simp) _) _) _)
  have g3 : W0.heap[B + 1 + 1 + 1]? = some (.cells #[.string ⟨#[65]⟩, .slice none 0 0, .int .i64 5, .string ⟨#[]⟩, .slice (some ⟨B + 1, 0, none⟩) 1 1, .bool true, .string ⟨#[66]⟩, .slice none 0 0, .int .i64 3, .string ⟨#[65]⟩, .slice none 0 0, .bool false] 61 (0, 0)) := by rw [hW0]; exact (heap_alloc_keep (heap_alloc_at (by rw [hB]; simp) _) _)
  have g4 : W0.heap[B + 1 + 1 + 1 + 1]? = some (.cells #[.int .i64 3, .string ⟨#[66]⟩, .slice none 0 0] 32 (0, 0)) := by rw [hW0]; exact (heap_alloc_at (by rw [hB]; simp) _)
  clear hW0 hB
  have eI : ∀ W, IsTy none' W aInt [.int .i64 1, .string ⟨#[105, 110, 116]⟩, .slice none 0 0] := fun W => IsTy.of (k := 1) (n := nIntK) (IsSl.nil _ _ _ _)
  have sR : ∀ W, Ext none' W0 W → IsSl 3 IsTy none' W (.slice (some ⟨B + 1, 0, none⟩) 1 1) [aInt] := fun W X => isSl_lit (xs := [aInt]) (X.heap g1 fun h => h) (fun h => h) (by simp) (fun i h => by
    have h' : i < 1 := h
    obtain rfl : i = 0 := by omega
    exact eI W)
  have VR := hid fun W (X : Ext none' W0 W) => (show TyV none' W aRow (.agg #[.int .i64 5, .string ⟨#[]⟩, .slice (some ⟨B + 1, 0, none⟩) 1 1]) from ⟨_, rfl, sR W X⟩)
  have VB := hid fun W => (show TyV none' W aB (.agg #[.int .i64 3, .string ⟨#[66]⟩, .slice none 0 0]) from ⟨_, rfl, IsSl.nil _ _ _ _⟩)
  have VI := hid fun W => (show TyV none' W aInt (.agg #[.int .i64 1, .string ⟨#[105, 110, 116]⟩, .slice none 0 0]) from ⟨_, rfl, IsSl.nil _ _ _ _⟩)
  have VD := hid fun W (X : Ext none' W0 W) => (show IsSl 6 IsDf none' W (.slice (some ⟨B + 1 + 1 + 1, 0, none⟩) 2 2) aDs from isSl_lit (xs := aDs) (X.heap g3 fun h => h) (fun h => h) (by simp [aDs]) (fun i h => by
    have h' : i < 2 := h
    have hi : i = 0 ∨ i = 1 := by omega
    rcases hi with rfl | rfl
    · exact ⟨.slice none 0 0, _, rfl, IsSl.nil _ _ _ _, sR W X⟩
    · exact ⟨.slice none 0 0, .slice none 0 0, rfl, IsSl.nil _ _ _ _, IsSl.nil _ _ _ _⟩))
  have hszR : aRow.size ≤ bigD := by simp [aRow, aInt, Ty.size, Ty.sizeL, bigD]
  have hszB : aB.size ≤ bigD := by simp [aB, Ty.size, Ty.sizeL, bigD]
  have hszI : aInt.size ≤ bigD := by simp [aInt, Ty.size, Ty.sizeL, bigD]
  have C1 := hid fun W (X : Ext none' W0 W) => Behind_any aDs aw_fit aB hszB none' _ _ W (VD.out W X) (VB.out W) (fun _ h => h.elim)
  rw [aw_beh] at C1
  have C2 := hid fun W (X : Ext none' W0 W) u (hu : TyV none' W aRow u) => Full_any aDs aw_fit aRow hszR none' _ u W (VD.out W X) hu (fun _ h => h.elim)
  have e2 : fullP aDs aRow = aRow := by have := aw_full; rw [aw_beh] at this; exact this
  rw [e2] at C2
  have C3 := hid fun W (X : Ext none' W0 W) u (hu : TyV none' W aRow u) => Same_any aRow aRow hszR hszR u _ W hu (VR.out W X)
  rw [aw_same] at C3
  have C4 := hid fun W (X : Ext none' W0 W) => assigns_any aDs aw_fit aw_ok aRow aB hszR hszB _ _ _ W (VD.out W X) (VR.out W X) (VB.out W)
  rw [aw_asg1] at C4
  have C5 := hid fun W (X : Ext none' W0 W) => assigns_any aDs aw_fit aw_ok aInt aB hszI hszB _ _ _ W (VD.out W X) (VI.out W) (VB.out W)
  rw [aw_asg2] at C5
  have C6 := hid fun W (X : Ext none' W0 W) => ktext_any [] 2 (by unfold bigD; omega) aNd (by decide) (by kernel_rfl) (by decide) _ W (by rw [aw_of]; exact VR.out W X)
  rw [aw_text] at C6
  have y0 := fun t' : LaterF none' W0 => cell_at (t'.x.heap g0 fun h => h) 0
  have y1 := fun t' : LaterF none' W0 => cell_at (t'.x.heap g0 fun h => h) 1
  have y2 := fun t' : LaterF none' W0 => cell_at (t'.x.heap g0 fun h => h) 2
  have z0 := fun t' : LaterF none' W0 => cell_at (t'.x.heap g2 fun h => h) 0
  have z1 := fun t' : LaterF none' W0 => cell_at (t'.x.heap g2 fun h => h) 1
  have z2 := fun t' : LaterF none' W0 => cell_at (t'.x.heap g2 fun h => h) 2
  have u0 := fun t' : LaterF none' W0 => cell_at (t'.x.heap g4 fun h => h) 0
  have u1 := fun t' : LaterF none' W0 => cell_at (t'.x.heap g4 fun h => h) 1
  have u2 := fun t' : LaterF none' W0 => cell_at (t'.x.heap g4 fun h => h) 2
  simp only [List.getElem?_toArray, List.getElem?_cons_zero, List.getElem?_cons_succ] at y0 y1 y2 z0 z1 z2 u0 u1 u2
  have HY := hid (And.intro y0 (And.intro y1 y2))
  have HZ := hid (And.intro z0 (And.intro z1 z2))
  have HU := hid (And.intro u0 (And.intro u1 u2))
  clear g0 g1 g2 g3 g4 eI sR e2 hszR hszB hszI
  refine region_q none' W0 (.qs [0, 1, 2, 5] (.one 3 true (.one 4 true (.one 6 true (.qs [7, 8, 9, 10] (.one 11 true (.qs [12, 13, 14, 15, 16] (.one 17 true (.qs [18, 19, 20, 21] (.one 22 true (.qs [23, 24, 25] .fin))))))))))) (by kernel_rfl) (by kernel_rfl) (fun dst v c a w h => by cases dst <;> exact h) ?_
  refine ⟨In.of (Ext.refl _ _).drew, ?_⟩
  change wpQuiet _ _ (fun w' => ∃ t : LaterF none' W0, w' = t.w) _ _ _
  simp only [sel, List.getElem?_cons_succ, List.getElem?_cons_zero]
  repeat (go_big_quiet_step (fail))
  refine wpQuiet_nil ?_
  simp only [wpTreeQ, stepT, sel, List.getElem?_cons_succ, List.getElem?_cons_zero]
  have D1 := hid (Ext.refl none' W0).drew
  clear y0 y1 y2 z0 z1 z2 u0 u1 u2
  go_wp2_with fail
  refine (C1.out _ D1.out).mono ?_
  rintro e W1 ⟨v1, rfl, hv1, X1⟩
  have X1 := hid (D1.out.trans X1)
  have HV1 := hid hv1
  clear hv1
  go_wp2_with fail
  refine ⟨In.of X1.out, ?_⟩
  go_wp2_with fail
  refine (C2.out _ X1.out v1 HV1.out).mono ?_
  rintro e W2 ⟨v2, rfl, hv2, X2⟩
  have X2 := hid (X1.out.trans X2)
  have HV2 := hid hv2
  clear hv2
  go_wp2_with fail
  refine ⟨In.of X2.out, ?_⟩
  go_wp2_with fail
  refine (C3.out _ X2.out v2 HV2.out).mono ?_
  rintro e W3 ⟨rfl, X3⟩
  have X3 := hid (X2.out.trans X3)
  go_wp2_with fail
  refine ⟨In.of X3.out, In.of X3.out, ?_⟩
  change wpQuiet _ _ (fun w' => ∃ t : LaterF none' W0, w' = t.w) _ _ _
  have z0 := HZ.out.1
  have z1 := HZ.out.2.1
  have z2 := HZ.out.2.2
  have u0 := HU.out.1
  have u1 := HU.out.2.1
  have u2 := HU.out.2.2
  repeat (go_big_quiet_step (fail))
  refine wpQuiet_nil ?_
  clear z0 z1 z2 u0 u1 u2
  go_wp2_with fail
  refine (C4.out _ X3.out).mono ?_
  rintro e W4 ⟨rfl, X4⟩
  have X4 := hid (X3.out.trans X4)
  go_wp2_with fail
  refine ⟨In.of X4.out, In.of X4.out, ?_⟩
  change wpQuiet _ _ (fun w' => ∃ t : LaterF none' W0, w' = t.w) _ _ _
  have z0 := HY.out.1
  have z1 := HY.out.2.1
  have z2 := HY.out.2.2
  have u0 := HU.out.1
  have u1 := HU.out.2.1
  have u2 := HU.out.2.2
  repeat (go_big_quiet_step (fail))
  refine wpQuiet_nil ?_
  clear z0 z1 z2 u0 u1 u2
  go_wp2_with fail
  refine (C5.out _ X4.out).mono ?_
  rintro e W5 ⟨rfl, X5⟩
  have X5 := hid (X4.out.trans X5)
  go_wp2_with fail
  refine ⟨In.of X5.out, In.of X5.out, ?_⟩
  change wpQuiet _ _ (fun w' => ∃ t : LaterF none' W0, w' = t.w) _ _ _
  have z0 := HZ.out.1
  have z1 := HZ.out.2.1
  have z2 := HZ.out.2.2
  repeat (go_big_quiet_step (fail))
  refine wpQuiet_nil ?_
  clear z0 z1 z2
  go_wp2_with fail
  refine (C6.out _ X5.out).mono ?_
  rintro e W6 ⟨rfl, X6⟩
  have X6 := hid (X5.out.trans X6)
  go_wp2_with fail
  refine ⟨In.of X6.out, In.of X6.out, ?_⟩
  change wpQuiet _ _ (fun w' => ∃ t : LaterF none' W0, w' = t.w) _ _ _
  repeat (go_big_quiet_step (fail))
  refine wpQuiet_nil ?_
  go_wp2_with fail
  go_ret
  exact ⟨rfl, X0.out.trans X6.out⟩
end Go.Proofs.YtbhpmmofgdppdaaGreatDoor
/-
  demoticlaw10: told, bare, has.
-/
namespace Go.Proofs.YtbhpmmofgdppdaaGreatDoor
open Go.RowKit Go.Lib Go.BigFrame
mutual
def bareB : Ty → Bool
  | .mk k _ l => !(k == 4 && !l.isEmpty) && bareL l
def bareL : List Ty → Bool
  | [] => true
  | t :: r => bareB t && bareL r
end
theorem bareL_all : ∀ l : List Ty, bareL l = l.all bareB
  | [] => rfl
  | t :: r => by rw [bareL, bareL_all r, List.all_cons]
mutual
def hasB (n : List UInt8) : Ty → Bool
  | .mk k m l => (k == 4 && m == n) || hasL n l
def hasL (n : List UInt8) : List Ty → Bool
  | [] => false
  | t :: r => hasB n t || hasL n r
end
theorem hasL_any (n : List UInt8) : ∀ l : List Ty, hasL n l = l.any (hasB n)
  | [] => rfl
  | t :: r => by rw [hasL, hasL_any n r, List.any_cons]
set_option maxRecDepth 100000 in
set_option maxHeartbeats 1600000 in
theorem lbare_any (t : Ty) : t.size ≤ bigD → ∀ (v : Value) (w : World), TyV none' w t v → Calls Tryz.prog 20 #[v] w (BoolP (bareB t) w) := by
  induction t using Ty.induct with
  | h k n l ih =>
    intro hsz v w hv
    obtain ⟨p, hp⟩ : ∃ p, p = bareB (.mk k n l) := ⟨_, rfl⟩
    rw [← hp]
    rw [bareB, bareL_all] at hp
    obtain ⟨x, rfl, hx⟩ := hv
    have hx : IsSl 3 IsTy none' w x l := hx
    have HX := hid hx
    obtain ⟨a0, cap0, rfl, _⟩ := hx
    have HIH := hid ih
    have hll : l.length ≤ bigD := by have := Ty.args_len (.mk k n l); simp only [Ty.args] at this; omega
    unfold bigD at hll
    have HSZ := hid hsz
    clear ih hsz
    show Calls Tryz.prog 20 #[.agg #[.int .i64 k, .string ⟨n.toArray⟩, .slice a0 l.length cap0]] w (BoolP p w)
    by_cases hbad : (k == 4 && !l.isEmpty) = true
    · rw [hbad] at hp
      have HP := hid hp
      simp only [Bool.and_eq_true, beq_iff_eq, Bool.not_eq_true', List.isEmpty_eq_false_iff] at hbad
      obtain ⟨rfl, hne⟩ := hbad
      have hl0 : (0 : Int) < (l.length : Int) := by have := List.length_pos_iff.2 hne; omega
      have hl1 : decide ((0 : Int) < (l.length : Int)) = true := decide_eq_true hl0
      have hl2 : 0 < l.length := List.length_pos_iff.2 hne
      clear hp hne
      go_enter Tryz.func20, Tryz.ntmps20
      go_wp2_with fail
      go_ret
      exact ⟨by rw [HP.out]; rfl, (Ext.refl _ _).alloc _⟩
    · rw [Bool.eq_false_iff.2 hbad, Bool.not_false, Bool.true_and] at hp
      have HP := hid hp
      obtain ⟨B, hB⟩ : ∃ B, B = w.heap.size := ⟨_, rfl⟩
      have g0 := heap_alloc_at (w := w) hB (.cells #[.int .i64 k, .string ⟨n.toArray⟩, .slice a0 l.length cap0] 25)
      obtain ⟨W1, hW1⟩ : ∃ W1, W1 = w.alloc (.cells #[.int .i64 k, .string ⟨n.toArray⟩, .slice a0 l.length cap0] 25) := ⟨_, rfl⟩
      have X1 : Ext none' w W1 := by rw [hW1]; exact (Ext.refl _ _).alloc _
      rw [← hW1] at g0
      have HX1 := hid (HX.out.ext isTy_good X1 fun _ _ h => h.elim)
      have X1 := hid X1
      have hb2 : Hid (∀ W, Ext none' W1 W → W.cell? ⟨B, 2, none⟩ = some (.slice a0 l.length cap0)) := hid fun W X => by rw [cell_at (X.heap g0 (fun h => h))]; rfl
      have main : (k == 4) = false ∨ (k = 4 ∧ l.length = 0) := by
        by_cases h4 : k = 4
        · right
          refine ⟨h4, ?_⟩
          by_cases hl : l = []
          · rw [hl]; rfl
          · exact absurd (by simp [h4, hl]) hbad
        · left; simpa using h4
      have goal : ∀ (hk : (k == 4) = false ∨ ((k == 4) = true ∧ l.length = 0)), Calls Tryz.prog 20 #[.agg #[.int .i64 k, .string ⟨n.toArray⟩, .slice a0 l.length cap0]] w (BoolP p w) := by
        intro hk
        clear g0 hbad main hp
        rcases hk with hk | ⟨hk, hl0⟩
        · go_enter Tryz.func20, Tryz.ntmps20
          go_wp2_with fail
          rw [← hW1, ← hB]
          clear hB hW1
          go_loopw [3] (fun z wr => ∃ (i : Nat), z = .int .i64 (i : Nat) ∧ i ≤ l.length ∧ Hid (Ext none' W1 wr ∧ ∀ j (h : j < l.length), j < i → bareB l[j] = true)) (fun z _ => l.length - (RowKit.intOf z).toNat)
          case atStart => exact ⟨0, rfl, by omega, hid ⟨Ext.refl _ _, fun j _ h => by omega⟩⟩
          case round =>
            obtain ⟨i, rfl, hle, HR⟩ := hrel
            have b2 := hb2.out _ HR.out.1
            by_cases hi : i < l.length
            · obtain ⟨b, off, cs, rfl, hAb, hbw, hcc, hty⟩ := (HX1.out.ext isTy_good HR.out.1 fun _ _ h => h.elim).at i hi
              obtain ⟨x', rfl, hx'⟩ := hty.parts
              have c0 := hcc 0 _ rfl
              have c1 := hcc 1 _ rfl
              have c2 := hcc 2 _ rfl
              simp only [Nat.add_zero] at c0
              have hmem := List.getElem_mem hi
              have hts : l[i].size ≤ bigD := by have := Ty.size_arg (t := .mk k n l) hmem; have := HSZ.out; omega
              have HX2 := hid hx'
              obtain ⟨a', cap', rfl, _⟩ := hx'
              have CS := hid (HIH.out _ hmem hts (.agg #[.int .i64 l[i].kind, .string ⟨l[i].name.toArray⟩, .slice a' l[i].args.length cap']) wr ⟨_, rfl, HX2.out⟩)
              obtain ⟨q, hq⟩ : ∃ q, bareB l[i] = q := ⟨_, rfl⟩
              rw [hq] at CS
              have HQ := hid hq
              obtain ⟨t, ht⟩ : ∃ t, l[i] = t := ⟨_, rfl⟩
              rw [ht] at c0 c1 c2 CS
              have HM := hid hmem
              clear hcc hty hq ht hmem hts HX2
              go_wp2_with fail
              refine CS.out.mono ?_
              rintro e w2 ⟨rfl, X2⟩
              have X2 := hid (HR.out.1.trans X2)
              cases q with
              | true =>
                have N : Hid (Ext none' W1 w2 ∧ ∀ j (h : j < l.length), j < i + 1 → bareB l[j] = true) := hid ⟨X2.out, fun j h hj => by
                  by_cases e : j = i
                  · subst e; exact HQ.out
                  · exact HR.out.2 j h (by omega)⟩
                go_wp2_with fail
                go_roundw
                case rel => exact ⟨i + 1, by go_num, by omega, N⟩
                case measure => simp [RowKit.intOf]; omega
              | false =>
                have E : Hid (p = false) := hid (by rw [HP.out, List.all_eq_false]; exact ⟨_, HM.out, by rw [HQ.out]; simp⟩)
                go_wp2_with fail
                go_ret
                exact ⟨by rw [E.out]; rfl, X1.out.trans X2.out⟩
            · have E : Hid (p = true) := hid (by
                rw [HP.out, List.all_eq_true]
                intro y hy
                obtain ⟨j, hj, rfl⟩ := List.mem_iff_getElem.1 hy
                exact HR.out.2 j hj (by omega))
              obtain rfl : i = l.length := by omega
              go_wp2_with fail
              go_ret
              exact ⟨by rw [E.out]; rfl, X1.out.trans HR.out.1⟩
        · have hle0 : l = [] := List.eq_nil_of_length_eq_zero hl0
          subst hle0
          have E : Hid (p = true) := hid (by rw [HP.out]; rfl)
          have b2 : W1.cell? ⟨B, 2, none⟩ = some (.slice a0 0 cap0) := hb2.out W1 (Ext.refl _ _)
          have hW2 : W1 = w.alloc (.cells #[.int .i64 k, .string ⟨n.toArray⟩, .slice a0 0 cap0] 25) := hW1
          clear hW1
          go_enter Tryz.func20, Tryz.ntmps20
          go_wp2_with fail
          rw [← hW2, ← hB]
          clear hB hW2
          go_loopw [3] (fun z wr => z = .int .i64 0 ∧ wr = W1) (fun _ _ => 0)
          case atStart => exact ⟨rfl, rfl⟩
          case round =>
            obtain ⟨rfl, rfl⟩ := hrel
            go_wp2_with fail
            go_ret
            exact ⟨by rw [E.out]; rfl, X1.out⟩
      exact goal (main.imp id fun h => ⟨by simp [h.1], h.2⟩)
end Go.Proofs.YtbhpmmofgdppdaaGreatDoor
