import Derived.Test.YtmlhkgocilpobaaUnNoneP
/-
  demoticlaw12.awake.
-/
namespace Go.Proofs.Ytmlhkgocilpobaa
open Go.RowKit Go.Lib Go.BigFrame
def tRow : Ty := .mk 5 [] [tInt]
def awPs : List Ty := [.mk 6 [] [tPar [80], tPar [81]]]
def awTs : List Ty := [.mk 6 [] [tInt, tRow]]
theorem awFind : findP [] [[80], [81]] awPs awTs = some [tInt, tRow] := by kernel_rfl
theorem same_row : sameP 100 tRow tRow = true := by kernel_rfl
theorem fit0 : DefsFit [] := ⟨(fun d hd => by cases hd), Nat.zero_le _, (fun d hd => by cases hd)⟩
theorem isSl_lit {α : Type} {sz : Nat} {R : Lay α} {A : Nat → Prop} {w : World} {b cap : Nat} {cs : Array Value} {t : TypeId} {fz : Nat × Nat} (h : w.heap[b]? = some (.cells cs t fz)) (xs : List α) (hA : ¬ A b) (hc : xs.length ≤ cap)
    (hx : ∀ i (h : i < xs.length), R A w xs[i] ((cs.toList.drop (i * sz)).take sz)) : IsSl sz R A w (.slice (some ⟨b, 0, none⟩) xs.length cap) xs :=
  ⟨_, cap, rfl, hc, (fun h => by cases h), fun _ => ⟨b, 0, rfl, hA, heap_lt h, fun i hi => ⟨_, fun j v hj => by
    have hjs : j < sz := by
      have := (List.getElem?_eq_some_iff.1 hj).1
      rw [List.length_take] at this
      omega
    rw [List.getElem?_take_of_lt hjs, List.getElem?_drop] at hj
    rw [cell_at h, Nat.zero_add, ← hj]
    simp, hx i hi⟩⟩⟩
set_option maxRecDepth 100000 in
set_option maxHeartbeats 1600000 in
theorem awake_any (w : World) : Calls Try.prog 10 #[] w (TruePost w) := by
  go_enter Try.func10, Try.ntmps10
  go_wp2_with fail
  obtain ⟨B, hB⟩ : ∃ B, B = w.heap.size := ⟨_, rfl⟩
  rw [← hB]
  obtain ⟨W0, hW0⟩ : ∃ W0, W0 = ((((((((((w.alloc (.cells #[.int .i64 4, .string ⟨#[80]⟩, .slice none 0 0] 33 (0, 0))).alloc (.cells #[.int .i64 4, .string ⟨#[81]⟩, .slice none 0 0] 33 (0, 0))).alloc (.cells #[.int .i64 1, .string ⟨#[105, 110, 116]⟩, .slice none 0 0] 33 (0, 0))).alloc (.cells #[.int .i64 1, .string ⟨#[105, 110, 116]⟩, .slice none 0 0] 33 (0, 0))).alloc (.cells #[.int .i64 5, .string ⟨#[]⟩, .slice (some ⟨B + 1 + 1 + 1, 0, none⟩) 1 1] 33 (0, 0))).alloc (.cells #[.string ⟨#[80]⟩, .string ⟨#[81]⟩] 9 (0, 0))).alloc (.cells #[.int .i64 4, .string ⟨#[80]⟩, .slice none 0 0, .int .i64 4, .string ⟨#[81]⟩, .slice none 0 0] 33 (0, 0))).alloc (.cells #[.int .i64 6, .string ⟨#[]⟩, .slice (some ⟨B + 1 + 1 + 1 + 1 + 1 + 1, 0, none⟩) 2 2] 33 (0, 0))).alloc (.cells #[.int .i64 1, .string ⟨#[105, 110, 116]⟩, .slice none 0 0, .int .i64 5, .string ⟨#[]⟩, .slice (some ⟨B + 1 + 1 + 1, 0, none⟩) 1 1] 33 (0, 0))).alloc (.cells #[.int .i64 6, .string ⟨#[]⟩, .slice (some ⟨B + 1 + 1 + 1 + 1 + 1 + 1 + 1 + 1, 0, none⟩) 2 2] 33 (0, 0))) := ⟨_, rfl⟩
  rw [← hW0]
  have X0 := hid (show Ext none' w W0 by rw [hW0]; exact (((((((((((Ext.refl _ _).alloc _).alloc _).alloc _).alloc _).alloc _).alloc _).alloc _).alloc _).alloc _).alloc _))
  have g0 : W0.heap[B]? = some (.cells #[.int .i64 4, .string ⟨#[80]⟩, .slice none 0 0] 33 (0, 0)) := by rw [hW0]; exact (heap_alloc_keep (heap_alloc_keep (heap_alloc_keep (heap_alloc_keep (heap_alloc_keep (heap_alloc_keep (heap_alloc_keep (heap_alloc_keep (heap_alloc_keep (heap_alloc_at hB _) _) _) _) _) _) _) _) _) _)
  have g1 : W0.heap[B + 1]? = some (.cells #[.int .i64 4, .string ⟨#[81]⟩, .slice none 0 0] 33 (0, 0)) := by rw [hW0]; exact (heap_alloc_keep (heap_alloc_keep (heap_alloc_keep (heap_alloc_keep (heap_alloc_keep (heap_alloc_keep (heap_alloc_keep (heap_alloc_keep (heap_alloc_at (by rw [hB]; simp) _) _) _) _) _) _) _) _) _)
  have g2 : W0.heap[B + 1 + 1]? = some (.cells #[.int .i64 1, .string ⟨#[105, 110, 116]⟩, .slice none 0 0] 33 (0, 0)) := by rw [hW0]; exact (heap_alloc_keep (heap_alloc_keep (heap_alloc_keep (heap_alloc_keep (heap_alloc_keep (heap_alloc_keep (heap_alloc_keep (heap_alloc_at (by rw [hB]; simp) _) _) _) _) _) _) _) _)
  have g3 : W0.heap[B + 1 + 1 + 1]? = some (.cells #[.int .i64 1, .string ⟨#[105, 110, 116]⟩, .slice none 0 0] 33 (0, 0)) := by rw [hW0]; exact (heap_alloc_keep (heap_alloc_keep (heap_alloc_keep (heap_alloc_keep (heap_alloc_keep (heap_alloc_keep (heap_alloc_at (by rw [hB]; simp) _) _) _) _) _) _) _)
  have g4 : W0.heap[B + 1 + 1 + 1 + 1]? = some (.cells #[.int .i64 5, .string ⟨#[]⟩, .slice (some ⟨B + 1 + 1 + 1, 0, none⟩) 1 1] 33 (0, 0)) := by rw [hW0]; exact (heap_alloc_keep (heap_alloc_keep (heap_alloc_keep (heap_alloc_keep (heap_alloc_keep (heap_alloc_at (by rw [hB]; simp) _) _) _) _) _) _)
  have g5 : W0.heap[B + 1 + 1 + 1 + 1 + 1]? = some (.cells #[.string ⟨#[80]⟩, .string ⟨#[81]⟩] 9 (0, 0)) := by rw [hW0]; exact (heap_alloc_keep (heap_alloc_keep (heap_alloc_keep (heap_alloc_keep (heap_alloc_at (by rw [hB]; simp) _) _) _) _) _)
  have g6 : W0.heap[B + 1 + 1 + 1 + 1 + 1 + 1]? = some (.cells #[.int .i64 4, .string ⟨#[80]⟩, .slice none 0 0, .int .i64 4, .string ⟨#[81]⟩, .slice none 0 0] 33 (0, 0)) := by rw [hW0]; exact (heap_alloc_keep (heap_alloc_keep (heap_alloc_keep (heap_alloc_at (by rw [hB]; simp) _) _) _) _)
  have g7 : W0.heap[B + 1 + 1 + 1 + 1 + 1 + 1 + 1]? = some (.cells #[.int .i64 6, .string ⟨#[]⟩, .slice (some ⟨B + 1 + 1 + 1 + 1 + 1 + 1, 0, none⟩) 2 2] 33 (0, 0)) := by rw [hW0]; exact (heap_alloc_keep (heap_alloc_keep (heap_alloc_at (by rw [hB]; simp) _) _) _)
  have g8 : W0.heap[B + 1 + 1 + 1 + 1 + 1 + 1 + 1 + 1]? = some (.cells #[.int .i64 1, .string ⟨#[105, 110, 116]⟩, .slice none 0 0, .int .i64 5, .string ⟨#[]⟩, .slice (some ⟨B + 1 + 1 + 1, 0, none⟩) 1 1] 33 (0, 0)) := by rw [hW0]; exact (heap_alloc_keep (heap_alloc_at (by rw [hB]; simp) _) _)
  have g9 : W0.heap[B + 1 + 1 + 1 + 1 + 1 + 1 + 1 + 1 + 1]? = some (.cells #[.int .i64 6, .string ⟨#[]⟩, .slice (some ⟨B + 1 + 1 + 1 + 1 + 1 + 1 + 1 + 1, 0, none⟩) 2 2] 33 (0, 0)) := by rw [hW0]; exact (heap_alloc_at (by rw [hB]; simp) _)
  clear hW0 hB
  have eP : ∀ n : List UInt8, IsTy none' W0 (tPar n) [.int .i64 4, .string ⟨n.toArray⟩, .slice none 0 0] := fun n => IsTy.of (k := 4) (n := n) (IsSl.nil _ _ _ _)
  have eI : IsTy none' W0 tInt [.int .i64 1, .string ⟨#[105, 110, 116]⟩, .slice none 0 0] := IsTy.of (k := 1) (n := nI) (IsSl.nil _ _ _ _)
  have sR : IsSl 3 IsTy none' W0 (.slice (some ⟨B + 1 + 1 + 1, 0, none⟩) 1 1) [tInt] := isSl_lit (xs := [tInt]) g3 (fun h => h) (by simp) (fun i h => by
    have h' : i < 1 := h
    obtain rfl : i = 0 := by omega
    exact eI)
  have eR : IsTy none' W0 tRow [.int .i64 5, .string ⟨#[]⟩, .slice (some ⟨B + 1 + 1 + 1, 0, none⟩) 1 1] := IsTy.of (k := 5) (n := []) sR
  have sN : IsStrs none' W0 (.slice (some ⟨B + 1 + 1 + 1 + 1 + 1, 0, none⟩) 2 2) [[80], [81]] := isSl_lit (xs := [[80], [81]]) g5 (fun h => h) (by simp) (fun i h => by
    have h' : i < 2 := h
    have hi : i = 0 ∨ i = 1 := by omega
    rcases hi with rfl | rfl <;> rfl)
  have sPs : IsSl 3 IsTy none' W0 (.slice (some ⟨B + 1 + 1 + 1 + 1 + 1 + 1 + 1, 0, none⟩) 1 1) awPs := isSl_lit (xs := awPs) g7 (fun h => h) (by simp [awPs]) (fun i h => by
    have h' : i < 1 := h
    obtain rfl : i = 0 := by omega
    exact IsTy.of (k := 6) (n := []) (isSl_lit (xs := [tPar [80], tPar [81]]) g6 (fun h => h) (by simp) (fun j hj => by
      have h' : j < 2 := hj
      have hi : j = 0 ∨ j = 1 := by omega
      rcases hi with rfl | rfl
      · exact eP [80]
      · exact eP [81])))
  have sTs : IsSl 3 IsTy none' W0 (.slice (some ⟨B + 1 + 1 + 1 + 1 + 1 + 1 + 1 + 1 + 1, 0, none⟩) 1 1) awTs := isSl_lit (xs := awTs) g9 (fun h => h) (by simp [awTs]) (fun i h => by
    have h' : i < 1 := h
    obtain rfl : i = 0 := by omega
    exact IsTy.of (k := 6) (n := []) (isSl_lit (xs := [tInt, tRow]) g8 (fun h => h) (by simp) (fun j hj => by
      have h' : j < 2 := hj
      have hi : j = 0 ∨ j = 1 := by omega
      rcases hi with rfl | rfl
      · exact eI
      · exact eR)))
  have CF := hid (Find_any [] fit0 [[80], [81]] (by simp) awPs awTs (by simp [awPs]) (by simp [awTs]) (fun x hx => by simp [awPs] at hx; subst hx; simp [Ty.size, Ty.sizeL, tPar, bigD]) (fun x hx => by simp [awTs] at hx; subst hx; simp [Ty.size, Ty.sizeL, tInt, tRow, bigD]) (.slice none 0 0) _ _ _ W0 (IsSl.nil _ _ _ _) sN sPs sTs)
  have G2 := hid g2
  have G4 := hid g4
  have SR := hid sR
  rw [awFind] at CF
  clear g0 g1 g2 g3 g4 g5 g6 g7 g8 g9 eP eI sR eR sN sPs sTs
  refine CF.out.mono ?_
  rintro e W1 ⟨u, rfl, hu, X1⟩
  have hu : IsSl 3 IsTy none' W1 u [tInt, tRow] := hu
  have HU := hid hu
  obtain ⟨a, cap, rfl, _⟩ := hu
  obtain ⟨b0, o0, cs0, rfl, _, hw0, hc0, ht0⟩ := HU.out.at 0 (by simp)
  obtain ⟨b1, o1, cs1, e1, _, hw1, hc1, ht1⟩ := HU.out.at 1 (by simp)
  injection e1 with e1
  injection e1 with e1 e2
  subst e1 e2
  obtain ⟨x0, rfl, hx0⟩ := ht0.parts
  obtain ⟨x1, rfl, hx1⟩ := ht1.parts
  have HX0 := hid hx0
  have HX1 := hid hx1
  obtain ⟨a5, cap5, rfl, _⟩ := hx0
  obtain ⟨a6, cap6, rfl, _⟩ := hx1
  have HC0 := hid hc0
  have HC1 := hid hc1
  have GN := hid (X1.heap G2.out (fun h => h))
  have GR := hid (X1.heap G4.out (fun h => h))
  have CS0 := hid fun (W : World) (X : Ext none' W1 W) => Same_any tInt tInt (by simp [tInt, Ty.size, Ty.sizeL, bigD]) (by simp [tInt, Ty.size, Ty.sizeL, bigD]) (.agg #[.int .i64 1, .string ⟨#[105, 110, 116]⟩, .slice a5 0 cap5]) (.agg #[.int .i64 1, .string ⟨#[105, 110, 116]⟩, .slice none 0 0]) W ⟨_, rfl, HX0.out.ext isTy_good X fun _ _ h => h⟩ ⟨_, rfl, IsSl.nil _ _ _ _⟩
  have CS1 := hid fun (W : World) (X : Ext none' W1 W) => Same_any tRow tRow (by simp [tRow, tInt, Ty.size, Ty.sizeL, bigD]) (by simp [tRow, tInt, Ty.size, Ty.sizeL, bigD]) (.agg #[.int .i64 5, .string ⟨#[]⟩, .slice a6 1 cap6]) (.agg #[.int .i64 5, .string ⟨#[]⟩, .slice (some ⟨B + 1 + 1 + 1, 0, none⟩) 1 1]) W ⟨_, rfl, HX1.out.ext isTy_good X fun _ _ h => h⟩ ⟨_, rfl, SR.out.ext isTy_good (X1.trans X) fun _ _ h => h⟩
  rw [same_int] at CS0
  rw [same_row] at CS1
  have X1 := hid (X0.out.trans X1)
  have y0 := fun t' : LaterF none' W1 => (t'.x.cell (p := ⟨b0, o0, none⟩) hw0 (fun h => h)).trans (by simpa using HC0.out 0 _ rfl)
  have y1 := fun t' : LaterF none' W1 => (t'.x.cell (p := ⟨b0, o0 + 1, none⟩) hw0 (fun h => h)).trans (by simpa using HC0.out 1 _ rfl)
  have y2 := fun t' : LaterF none' W1 => (t'.x.cell (p := ⟨b0, o0 + 2, none⟩) hw0 (fun h => h)).trans (by simpa using HC0.out 2 _ rfl)
  have z0 := fun t' : LaterF none' W1 => (t'.x.cell (p := ⟨b0, o0 + 3, none⟩) hw0 (fun h => h)).trans (by simpa using HC1.out 0 _ rfl)
  have z1 := fun t' : LaterF none' W1 => (t'.x.cell (p := ⟨b0, o0 + 3 + 1, none⟩) hw0 (fun h => h)).trans (by simpa using HC1.out 1 _ rfl)
  have z2 := fun t' : LaterF none' W1 => (t'.x.cell (p := ⟨b0, o0 + 3 + 2, none⟩) hw0 (fun h => h)).trans (by simpa using HC1.out 2 _ rfl)
  have n0 := fun t' : LaterF none' W1 => cell_at (t'.x.heap GN.out (fun h => h)) 0
  have n1 := fun t' : LaterF none' W1 => cell_at (t'.x.heap GN.out (fun h => h)) 1
  have n2 := fun t' : LaterF none' W1 => cell_at (t'.x.heap GN.out (fun h => h)) 2
  have r0 := fun t' : LaterF none' W1 => cell_at (t'.x.heap GR.out (fun h => h)) 0
  have r1 := fun t' : LaterF none' W1 => cell_at (t'.x.heap GR.out (fun h => h)) 1
  have r2 := fun t' : LaterF none' W1 => cell_at (t'.x.heap GR.out (fun h => h)) 2
  simp only [List.getElem?_toArray, List.getElem?_cons_zero, List.getElem?_cons_succ] at n0 n1 n2 r0 r1 r2
  go_upto_region 5 with (fail)
  refine region_q none' W1 (.qs [0, 1, 2, 3, 4, 5, 6, 7, 8, 9, 10] (.one 11 true (.qs [12, 13, 14, 15, 16, 17] (.one 18 false (.one 19 false (.one 20 false .fin)))))) (by kernel_rfl) (by kernel_rfl) (fun dst v c a w h => by cases dst <;> exact h) ?_
  refine ⟨In.of (Ext.refl _ _).drew, ?_⟩
  change wpQuiet _ _ (fun w' => ∃ t : LaterF none' W1, w' = t.w) _ _ _
  simp only [sel, List.getElem?_cons_succ, List.getElem?_cons_zero]
  repeat (go_big_quiet_step (fail))
  refine wpQuiet_nil ?_
  simp only [wpTreeQ, stepT, sel, List.getElem?_cons_succ, List.getElem?_cons_zero]
  have D1 := hid (Ext.refl none' W1).drew
  go_wp2_with fail
  refine (CS0.out _ D1.out).mono ?_
  rintro e W2 ⟨rfl, X2⟩
  have X2 := hid (D1.out.trans X2)
  go_wp2_with fail
  refine ⟨In.of X2.out, In.of X2.out, ?_⟩
  change wpQuiet _ _ (fun w' => ∃ t : LaterF none' W1, w' = t.w) _ _ _
  repeat (go_big_quiet_step (fail))
  refine wpQuiet_nil ?_
  clear y0 y1 y2 z0 z1 z2 n0 n1 n2 r0 r1 r2
  go_wp2_with fail
  refine (CS1.out _ X2.out).mono ?_
  rintro e W3 ⟨rfl, X3⟩
  have X3 := hid (X1.out.trans (X2.out.trans X3))
  go_wp2_with fail
  go_ret
  exact ⟨rfl, X3.out⟩
end Go.Proofs.Ytmlhkgocilpobaa
