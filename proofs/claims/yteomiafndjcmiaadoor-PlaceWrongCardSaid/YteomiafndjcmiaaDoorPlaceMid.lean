import Derived.Test.YteomiafndjcmiaaDoorPlaceOf
namespace Go.Proofs.YteomiafndjcmiaaDoor
open Go.RowKit Go.Lib
def ofI (s : List UInt8) (k : Int) : Int × Int := if k < 0 ∨ (s.length : Int) < k then (0, 0) else ofP s k.toNat
def PlPost (p : Int × Int) (w : World) (e : Ending) (w' : World) : Prop := e = .returned (.agg #[.int .i64 p.1, .int .i64 p.2]) ∧ Ext none' w w'
def IntPost (z : Int) (w : World) (e : Ending) (w' : World) : Prop := e = .returned (.int .i64 z) ∧ Ext none' w w'
set_option maxHeartbeats 800000 in
theorem of_any (B : Nat) (s : List UInt8) (v : Value) (k : Int) (w : World) (hv : Bytes B w v s) (hB : B ≤ w.heap.size) (hs : s.length ≤ 1000000) :
    Calls Tryd.prog 12 #[v, .int .i64 k] w (PlPost (ofI s k) w) := by
  obtain ⟨p, hp⟩ : ∃ p, p = ofI s k := ⟨_, rfl⟩
  rw [← hp]
  unfold ofI at hp
  have HV := hid hv
  obtain ⟨aa, cap, rfl, h1, h2, h3, h4⟩ := hv
  have H4 := hid h4
  clear h3 h4
  by_cases hk : k < 0
  · rw [if_pos (.inl hk)] at hp
    subst hp
    go_enter Tryd.func12, Tryd.ntmps12
    go_wp2
    exact bodyPost_ret (v := .agg #[.int .i64 0, .int .i64 0]) (by simp [results, Tryd.results12, go_sem]) rfl ⟨rfl, (((Ext.refl _ _).alloc _).alloc _).alloc _⟩
  by_cases hk2 : (s.length : Int) < k
  · rw [if_pos (.inr hk2)] at hp
    subst hp
    go_enter Tryd.func12, Tryd.ntmps12
    go_wp2
    exact bodyPost_ret (v := .agg #[.int .i64 0, .int .i64 0]) (by simp [results, Tryd.results12, go_sem]) rfl ⟨rfl, (((Ext.refl _ _).alloc _).alloc _).alloc _⟩
  · rw [if_neg (by omega)] at hp
    obtain ⟨n, rfl⟩ : ∃ n : Nat, k = n := ⟨k.toNat, by omega⟩
    rw [Int.toNat_natCast] at hp
    have HP := hid hp
    clear hp
    have E : Ext none' w (((w.alloc (.cells #[.int .i64 (n : Int)] 3)).alloc (.cells (pcells 0 0) 32)).alloc (.cells (pcells 0 0) 32)) := (((Ext.refl _ _).alloc _).alloc _).alloc _
    have C := starts_of (w.heap.size + 1 + 1) w.heap.size s (.slice aa s.length cap) n 0 0 _ B (HV.out.keep E) (by omega) (by omega) (heap_alloc_at (by simp) _) (heap_alloc_keep (heap_alloc_keep (heap_alloc_at rfl _) _) _) (by omega) hs
    have HC := hid C
    unfold pcells at HC
    clear C
    go_enter Tryd.func12, Tryd.ntmps12
    go_wp2_with fail
    refine HC.out.mono ?_
    rintro e w1 ⟨rfl, ho1, hx1⟩
    have hr : w1.heap[w.heap.size + 1]? = some (.cells (pcells 0 0) 32 (0, 0)) := hx1.heap (heap_alloc_keep (heap_alloc_at (by simp) _) _) (by unfold one; omega)
    have E2 := E.trans' hx1 (fun i hi e => by unfold one at e; omega)
    have X := hid E2
    have HO1 := hid ho1
    have HR := hid hr
    have p0 := cell_at ho1 0
    have p1 := cell_at ho1 1
    have r0 := cell_at hr 0
    have r1 := cell_at hr 1
    have rf := free_at hr
    simp only [pcells, List.getElem?_toArray, List.getElem?_cons_zero, List.getElem?_cons_succ] at p0 p1 r0 r1
    clear hr ho1 E2 hx1
    go_wp2
    have hfin : (((w1.setCell ⟨w.heap.size + 1, 0, none⟩ (.int .i64 (ofP s n).1)).setCell ⟨w.heap.size + 1, 1, none⟩ (.int .i64 (ofP s n).2))).heap[w.heap.size + 1]? = some (.cells (pcells (ofP s n).1 (ofP s n).2) 32 (0, 0)) :=
      heap_setCell_same (heap_setCell_same HR.out 0 _) 1 _
    have q0 := cell_at hfin 0
    have q1 := cell_at hfin 1
    simp only [pcells, List.getElem?_toArray, List.getElem?_cons_zero, List.getElem?_cons_succ] at q0 q1
    refine bodyPost_ret (v := .agg #[.int .i64 (ofP s n).1, .int .i64 (ofP s n).2]) (by simp [results, Tryd.results12, go_sem, q0, q1]) rfl ?_
    rw [HP.out]
    exact ⟨rfl, (X.out.setNew (by omega) 0 _).setNew (by omega) 1 _⟩

end Go.Proofs.YteomiafndjcmiaaDoor
