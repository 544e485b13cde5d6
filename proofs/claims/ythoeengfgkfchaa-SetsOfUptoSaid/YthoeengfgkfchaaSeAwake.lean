import Derived.Test.YthoeengfgkfchaaSeLaw
namespace Go.Proofs.Ythoeengfgkfchaa
open Go.RowKit Go.Lib Go.BigFrame
theorem isSl_lit {α : Type} {sz : Nat} {R : Lay α} {A : Nat → Prop} {w : World} {b cap : Nat} {cs : Array Value} {t : TypeId} {fz : Nat × Nat} (h : w.heap[b]? = some (.cells cs t fz)) (xs : List α) (hA : ¬ A b) (hc : xs.length ≤ cap)
    (hx : ∀ i (h : i < xs.length), R A w xs[i] ((cs.toList.drop (i * sz)).take sz)) : IsSl sz R A w (.slice (some ⟨b, 0, none⟩) xs.length cap) xs :=
  ⟨_, cap, rfl, hc, (fun h => by cases h), fun _ => ⟨b, 0, rfl, hA, heap_lt h, fun i hi => ⟨_, fun j v hj => by
    have hjs : j < sz := by
      have := (List.getElem?_eq_some_iff.1 hj).1
      rw [List.length_take] at this
      omega
    rw [List.getElem?_take_of_lt hjs, List.getElem?_drop] at hj
    rw [cell_at h, Nat.zero_add, ← hj]
    simp, hx i hi⟩⟩⟩
def awN : List UInt8 := [78]
def awS : List UInt8 := [83]
def awDs : List Df := [⟨awN, [], .mk 1 nInt [], false⟩, ⟨awS, [], .mk 1 nStr [], false⟩]
def awCn : Cn := ⟨false, false, [⟨true, nInt⟩, ⟨false, nStr⟩]⟩
theorem aw1 : letsP awDs [] awCn (.mk 1 nStr []) = true := by kernel_rfl
theorem aw2 : letsP awDs [] awCn (.mk 3 awN []) = true := by kernel_rfl
theorem aw3 : letsP awDs [] awCn (.mk 3 awS []) = false := by kernel_rfl
theorem awFit : DefsFit awDs := ⟨fun d hd => by
    simp [awDs] at hd
    rcases hd with rfl | rfl <;> simp [Ty.size, Ty.sizeL], by simp [awDs], fun d hd => by
    simp [awDs] at hd
    rcases hd with rfl | rfl <;> simp⟩
set_option maxRecDepth 100000 in
set_option maxHeartbeats 1600000 in
theorem awake_any (w : World) : Calls Try.prog 14 #[] w (TruePost w) := by
  have CL := hid fun (W : World) (t : Ty) (ht : t.size ≤ bigD) (dv sv v : Value) hd hsv hv => Lets_any awDs awFit [] (by simp) (fun b hb => by cases hb) awCn (by simp [awCn]) t ht none' dv (.slice none 0 0) sv v W hd (IsSl.nil _ _ _ _) hsv hv (fun b hb => hb.elim)
  go_enter Try.func14, Try.ntmps14
  go_wp2_with fail
  obtain ⟨B, hB⟩ : ∃ B, B = w.heap.size := ⟨_, rfl⟩
  rw [← hB]
  obtain ⟨W0, hW0⟩ : ∃ W0, W0 = ((w.alloc (.cells #[.string ⟨#[78]⟩, .slice none 0 0, .int .i64 1, .string ⟨#[105, 110, 116]⟩, .slice none 0 0, .bool false, .string ⟨#[83]⟩, .slice none 0 0, .int .i64 1, .string ⟨#[115, 116, 114, 105, 110, 103]⟩, .slice none 0 0, .bool false] 72)).alloc (.cells #[.bool true, .string ⟨#[105, 110, 116]⟩, .bool false, .string ⟨#[115, 116, 114, 105, 110, 103]⟩] 50)).alloc (.cells #[.bool false, .bool false, .slice (some ⟨B + 1, 0, none⟩) 2 2] 45) := ⟨_, rfl⟩
  rw [← hW0]
  have X0 := hid (show Ext none' w W0 by rw [hW0]; exact (((Ext.refl _ _).alloc _).alloc _).alloc _)
  have g0 : W0.heap[B]? = some (.cells #[.string ⟨#[78]⟩, .slice none 0 0, .int .i64 1, .string ⟨#[105, 110, 116]⟩, .slice none 0 0, .bool false, .string ⟨#[83]⟩, .slice none 0 0, .int .i64 1, .string ⟨#[115, 116, 114, 105, 110, 103]⟩, .slice none 0 0, .bool false] 72 (0, 0)) := by rw [hW0]; exact heap_alloc_keep (heap_alloc_keep (heap_alloc_at hB _) _) _
  have g1 : W0.heap[B + 1]? = some (.cells #[.bool true, .string ⟨#[105, 110, 116]⟩, .bool false, .string ⟨#[115, 116, 114, 105, 110, 103]⟩] 50 (0, 0)) := by rw [hW0]; exact heap_alloc_keep (heap_alloc_at (by rw [hB]; simp) _) _
  have g2 : W0.heap[B + 1 + 1]? = some (.cells #[.bool false, .bool false, .slice (some ⟨B + 1, 0, none⟩) 2 2] 45 (0, 0)) := by rw [hW0]; exact heap_alloc_at (by rw [hB]; simp) _
  have hd0 := fun W (X : Ext none' W0 W) => (show IsSl 6 IsDf none' W (.slice (some ⟨B, 0, none⟩) 2 2) awDs from isSl_lit (xs := awDs) (X.heap g0 (fun h => h)) (fun h => h) (by simp [awDs]) (fun i h => by
    have h' : i < 2 := h
    have hi : i = 0 ∨ i = 1 := by omega
    rcases hi with rfl | rfl
    · exact ⟨.slice none 0 0, .slice none 0 0, rfl, IsSl.nil _ _ _ _, IsSl.nil _ _ _ _⟩
    · exact ⟨.slice none 0 0, .slice none 0 0, rfl, IsSl.nil _ _ _ _, IsSl.nil _ _ _ _⟩))
  have hs0 := fun W (X : Ext none' W0 W) => (show CnV none' W awCn (.agg #[.bool false, .bool false, .slice (some ⟨B + 1, 0, none⟩) 2 2]) from ⟨_, rfl, isSl_lit (xs := awCn.terms) (X.heap g1 (fun h => h)) (fun h => h) (by simp [awCn]) (fun i h => by
    have h' : i < 2 := h
    have hi : i = 0 ∨ i = 1 := by omega
    rcases hi with rfl | rfl <;> rfl)⟩)
  have XR := hid (Ext.refl none' W0)
  have hd0 := hid hd0
  have hs0 := hid hs0
  have g2 := hid g2
  clear g0 g1 hW0 hB
  refine (CL.out W0 (.mk 1 nStr []) (by simp [Ty.size, Ty.sizeL, bigD]) _ _ _ (hd0.out W0 XR.out) (hs0.out W0 XR.out) ⟨.slice none 0 0, rfl, IsSl.nil _ _ _ _⟩).mono ?_
  rintro e' W1 ⟨rfl, Y⟩
  rw [aw1]
  have X1 := hid (XR.out.trans Y)
  have c0 := cell_at (X1.out.heap g2.out (fun h => h)) 0
  have c1 := cell_at (X1.out.heap g2.out (fun h => h)) 1
  have c2 := cell_at (X1.out.heap g2.out (fun h => h)) 2
  simp only [List.getElem?_toArray, List.getElem?_cons_zero, List.getElem?_cons_succ] at c0 c1 c2
  clear Y
  go_wp2_with fail
  refine (CL.out W1 (.mk 3 awN []) (by simp [Ty.size, Ty.sizeL, bigD]) _ _ _ (hd0.out W1 X1.out) (hs0.out W1 X1.out) ⟨.slice none 0 0, rfl, IsSl.nil _ _ _ _⟩).mono ?_
  rintro e' W2 ⟨rfl, Y⟩
  rw [aw2]
  have X2 := hid (X1.out.trans Y)
  have c0 := cell_at (X2.out.heap g2.out (fun h => h)) 0
  have c1 := cell_at (X2.out.heap g2.out (fun h => h)) 1
  have c2 := cell_at (X2.out.heap g2.out (fun h => h)) 2
  simp only [List.getElem?_toArray, List.getElem?_cons_zero, List.getElem?_cons_succ] at c0 c1 c2
  clear Y
  go_wp2_with fail
  refine (CL.out W2 (.mk 3 awS []) (by simp [Ty.size, Ty.sizeL, bigD]) _ _ _ (hd0.out W2 X2.out) (hs0.out W2 X2.out) ⟨.slice none 0 0, rfl, IsSl.nil _ _ _ _⟩).mono ?_
  rintro e' W3 ⟨rfl, Y⟩
  rw [aw3]
  have X3 := hid (X2.out.trans Y)
  have c0 := cell_at (X3.out.heap g2.out (fun h => h)) 0
  have c1 := cell_at (X3.out.heap g2.out (fun h => h)) 1
  have c2 := cell_at (X3.out.heap g2.out (fun h => h)) 2
  simp only [List.getElem?_toArray, List.getElem?_cons_zero, List.getElem?_cons_succ] at c0 c1 c2
  clear Y
  go_wp2_with fail
  go_ret
  exact ⟨rfl, X0.out.trans X3.out⟩
end Go.Proofs.Ythoeengfgkfchaa
