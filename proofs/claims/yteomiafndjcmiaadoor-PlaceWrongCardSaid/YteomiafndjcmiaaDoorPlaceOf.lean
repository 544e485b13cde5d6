import Derived.Test.YteomiafndjcmiaaDoorProg
import Derived.Test.YteomiafndjcmiaaDoorKit
import Derived.Test.YteomiafndjcmiaaDoorPlacePlain
namespace Go.Proofs.YteomiafndjcmiaaDoor
open Go.RowKit Go.Lib
/-- The two cells of a place. -/
def pcells (l c : Int) : Array Value := #[.int .i64 l, .int .i64 c]
def Of1Post (o : Nat) (b : Bool) (l c : Int) (w : World) (e : Ending) (w' : World) : Prop :=
  e = .returned (.bool b) ∧ w'.heap[o]? = some (.cells (pcells l c) 32 (0, 0)) ∧ Ext (one o) w w'
theorem of1_any (o a : Nat) (i k : Int) (l c x y : Int) (w : World) (ho : w.heap[o]? = some (.cells (pcells x y) 32 (0, 0))) (ha : w.heap[a]? = some (.cells #[.int .i64 k] 3 (0, 0))) (hne : a ≠ o) :
    Calls Tryd.prog 18 #[.int .i64 i, .agg #[.int .i64 l, .int .i64 c], .pointer (some ⟨o, 0, none⟩), .pointer (some ⟨a, 0, none⟩)] w (Of1Post o (decide (k ≤ i)) l c w) := by
  have hx : w.cell? ⟨o, 0, none⟩ = some (.int .i64 x) := cell_at ho 0
  have hy : w.cell? ⟨o, 1, none⟩ = some (.int .i64 y) := cell_at ho 1
  have hk : w.cell? ⟨a, 0, none⟩ = some (.int .i64 k) := cell_at ha 0
  have hf : ∀ j, w.frozen? ⟨o, j, none⟩ = false := free_at ho
  have hlo : o < w.heap.size := heap_lt ho
  have hla : a < w.heap.size := heap_lt ha
  have HO := hid ho
  clear ho ha
  go_enter Tryd.func18, Tryd.ntmps18
  go_wp2
  go_ret
  exact ⟨rfl, heap_alloc_keep (heap_setCell_same (heap_setCell_same HO.out 0 _) 1 _) _, (((Ext.refl (one o) w).set 0 _).set 1 _).alloc _⟩

def StartsPost (o : Nat) (l c : Int) (w : World) (e : Ending) (w' : World) : Prop :=
  e = .returned (.tuple #[]) ∧ w'.heap[o]? = some (.cells (pcells l c) 32 (0, 0)) ∧ Ext (one o) w w'
/-- What the loop of 'starts' keeps: p's cells (block B), the iterator (block B + 1), out and at. -/
structure OfRel (o a B : Nat) (s : List UInt8) (k : Nat) (w wr : World) (pos : Nat) (l c x y : Int) : Prop where
  le : pos ≤ s.length
  bd : 1 ≤ l ∧ 1 ≤ c ∧ l ≤ pos + 1 ∧ c ≤ pos + 1
  hp : wr.heap[B]? = some (.cells (pcells l c) 32 (0, 0))
  hit : wr.heap[B + 1]? = some (.stringIter ⟨s.toArray⟩ pos)
  ho : wr.heap[o]? = some (.cells (pcells x y) 32 (0, 0))
  ha : wr.heap[a]? = some (.cells #[.int .i64 k] 3 (0, 0))
  hx : Ext (one o) w wr
  hf : ofP s k = (((rest (s.drop pos) pos l c).find? fun x => decide (k ≤ x.1)).map (·.2)).getD (0, 0)

theorem decode_drop (s : List UInt8) (pos : Nat) : Utf8.decode ⟨s.toArray⟩ pos = decodeL (s.drop pos) := (decodeL_drop ⟨s.toArray⟩ pos).symm
/-- p's cells and the rest, behind the call of the function value. -/
structure OfMid (o a B : Nat) (s : List UInt8) (k : Nat) (w w1 : World) (pos : Nat) (l c : Int) (d : Nat × Nat) : Prop where
  lt : pos < s.length
  hd : decodeL (s.drop pos) = d
  bd : 1 ≤ l ∧ 1 ≤ c ∧ l ≤ pos + 1 ∧ c ≤ pos + 1
  hp : w1.heap[B]? = some (.cells (pcells l c) 32 (0, 0))
  hit : w1.heap[B + 1]? = some (.stringIter ⟨s.toArray⟩ (pos + d.2))
  ho : w1.heap[o]? = some (.cells (pcells l c) 32 (0, 0))
  ha : w1.heap[a]? = some (.cells #[.int .i64 k] 3 (0, 0))
  hx : Ext (one o) w w1
  hf : ofP s k = (((rest (s.drop pos) pos l c).find? fun x => decide (k ≤ x.1)).map (·.2)).getD (0, 0)
theorem OfRel.mid {o a B : Nat} {s : List UInt8} {k : Nat} {w wr w1 : World} {pos : Nat} {l c x y : Int} (R : OfRel o a B s k w wr pos l c x y) (lt : pos < s.length) (hB : w.heap.size ≤ B)
    (d : Nat × Nat) (hd : decodeL (s.drop pos) = d) (hne : a ≠ o) (hoB : o < B) (haB : a < B) (ho : w1.heap[o]? = some (.cells (pcells l c) 32 (0, 0)))
    (hx : Ext (one o) (wr.iterAt (B + 1) ⟨s.toArray⟩ (pos + d.2)) w1) : OfMid o a B s k w w1 pos l c d :=
  { lt := lt, hd := hd, bd := R.bd, ho := ho, hf := R.hf
    hp := hx.heap ((iterAt_other _ _ _ _ _ (by omega)).trans R.hp) (by unfold one; omega)
    hit := hx.heap (iterAt_heap _ _ _ _ _ R.hit) (by unfold one; omega)
    ha := hx.heap ((iterAt_other _ _ _ _ _ (by omega)).trans R.ha) hne
    hx := (R.hx.iterAt (.inr (by omega)) _ _).trans hx }
theorem OfMid.found {o a B : Nat} {s : List UInt8} {k : Nat} {w w1 : World} {pos : Nat} {l c : Int} {d : Nat × Nat} (R : OfMid o a B s k w w1 pos l c d) (h : k ≤ pos) : ofP s k = (l, c) := by
  rw [R.hf]
  obtain ⟨t, ht⟩ := rest_head (s.drop pos) pos l c
  rw [ht]
  simp [h]
theorem drop_ne {s : List UInt8} {pos : Nat} (h : pos < s.length) : s.drop pos ≠ [] := by
  intro e
  have := congrArg List.length e
  rw [List.length_drop] at this
  simp at this
  omega
theorem OfMid.next {o a B : Nat} {s : List UInt8} {k : Nat} {w w1 : World} {pos : Nat} {l c : Int} {d : Nat × Nat} (R : OfMid o a B s k w w1 pos l c d) (hB : w.heap.size ≤ B) (hoB : o < B) (haB : a < B) (h : pos < k) (w2 : World) (l' c' : Int)
    (hw : Ext (one B) w1 w2) (hp : w2.heap[B]? = some (.cells (pcells l' c') 32 (0, 0))) (hlc : (d.1 = 10 ∧ l' = l + 1 ∧ c' = 1) ∨ (d.1 ≠ 10 ∧ l' = l ∧ c' = c + 1)) :
    OfRel o a B s k w w2 (pos + d.2) l' c' l c := by
  have h1 := dw1 (s.drop pos)
  have h2 := dwle (s.drop pos) (drop_ne R.lt)
  have hb := R.bd
  have hlt := R.lt
  rw [R.hd, List.length_drop] at h2
  rw [R.hd] at h1
  refine { le := by omega, bd := by omega, hp := hp, hit := hw.heap R.hit (by unfold one; omega), ho := hw.heap R.ho (by unfold one; omega), ha := hw.heap R.ha (by unfold one; omega)
           hx := R.hx.trans' hw (fun i hi e => by unfold one at e; omega), hf := ?_ }
  rw [R.hf, rest_step _ _ _ _ (drop_ne R.lt), R.hd, List.find?_cons_of_neg (by simp; omega), List.drop_drop]
  rcases hlc with ⟨e, rfl, rfl⟩ | ⟨e, rfl, rfl⟩
  · rw [if_pos e]
  · rw [if_neg e]

set_option maxHeartbeats 1600000 in
theorem starts_of (o a : Nat) (s : List UInt8) (v : Value) (k : Nat) (x y : Int) (w : World) (B : Nat) (hv : Bytes B w v s) (hov : B ≤ o) (hk : k ≤ s.length)
    (ho : w.heap[o]? = some (.cells (pcells x y) 32 (0, 0))) (ha : w.heap[a]? = some (.cells #[.int .i64 k] 3 (0, 0))) (hne : a ≠ o) (hs : s.length ≤ 1000000) :
    Calls Tryd.prog 17 #[v, .func (.func 18) #[] #[.pointer (some ⟨o, 0, none⟩), .pointer (some ⟨a, 0, none⟩)]] w (StartsPost o (ofP s k).1 (ofP s k).2 w) := by
  have HV := hv
  have hcv : ∀ w', Ext (one o) w w' → (convert 22 9 v).run Tryd.prog w' = .ok (.string ⟨s.toArray⟩) w' := fun w' hx => conv_bytes (hv.keep1 hx hov) 22 5 Tryd.underlying22 Tryd.underlying5 9 Tryd.underlying9
  have hcv1 := hcv (w.alloc (.cells (pcells 1 1) 32)) ((Ext.refl _ _).alloc _)
  unfold pcells at hcv1
  obtain ⟨aa, cap, rfl, h1, h2, _, _⟩ := hv
  have HO := hid ho
  have HA := hid ha
  have hlo := heap_lt ho
  have hla := heap_lt ha
  clear hcv ho ha
  go_enter Tryd.func17, Tryd.ntmps17
  go_wp2_with fail
  go_loopw [] (fun wr => ∃ pos l c x y, OfRel o a w.heap.size s k w wr pos l c x y) (fun wr => s.length - wr.iterPos (w.heap.size + 1))
  case atStart =>
    refine ⟨0, 1, 1, x, y, ⟨by omega, by omega, ?_, ?_, ?_, ?_, ?_, rfl⟩⟩
    · exact heap_alloc_keep (heap_alloc_new w _) _
    · exact heap_alloc_at (by simp) _
    · exact heap_alloc_keep (heap_alloc_keep HO.out _) _
    · exact heap_alloc_keep (heap_alloc_keep HA.out _) _
    · exact ((Ext.refl _ _).alloc _).alloc _
  case round =>
    obtain ⟨pos, l, c, x, y, R⟩ := hrel
    have hle := R.le
    by_cases hp : pos < s.length
    · obtain ⟨d, hd⟩ : ∃ d, Utf8.decode ⟨s.toArray⟩ pos = d := ⟨_, rfl⟩
      have hnx : ∀ ty, (Instr.next (.pointer (some ⟨w.heap.size + 1, 0, none⟩)) true ty).run Tryd.prog wr = .ok (.tuple #[.bool true, .int .i64 pos, .int .i32 d.1]) (wr.iterAt (w.heap.size + 1) ⟨s.toArray⟩ (pos + d.2)) :=
        fun ty => by rw [← hd]; exact run_next_any_at wr (w.heap.size + 1) ⟨s.toArray⟩ pos ty R.hit (by rw [bsize]; exact hp)
      have Hd := hid ((decode_drop s pos).symm.trans hd)
      clear hd
      have Hp := hid ((iterAt_other wr (w.heap.size + 1) w.heap.size ⟨s.toArray⟩ (pos + d.2) (by omega)).trans R.hp)
      have Ho := hid ((iterAt_other wr (w.heap.size + 1) o ⟨s.toArray⟩ (pos + d.2) (by omega)).trans R.ho)
      have Ha := hid ((iterAt_other wr (w.heap.size + 1) a ⟨s.toArray⟩ (pos + d.2) (by omega)).trans R.ha)
      have p0 := cell_at Hp.out 0
      have p1 := cell_at Hp.out 1
      simp only [pcells, List.getElem?_toArray, List.getElem?_cons_zero, List.getElem?_cons_succ] at p0 p1
      have hit := hid (iterPos_of R.hit)
      have RR := hid R
      have hbd := R.bd
      clear R
      go_wp2_with (go_at_call 18; refine (of1_any o a _ _ _ _ x y _ Ho.out Ha.out hne).mono ?_; rintro e w1 ⟨rfl, ho1, hx1⟩; have M := hid (RR.out.mid hp (Nat.le_refl _) d Hd.out hne hlo hla ho1 hx1); clear ho1 hx1 p0 p1; have p0 := cell_at M.out.hp 0; have p1 := cell_at M.out.hp 1; have pf := free_at M.out.hp; simp only [pcells, List.getElem?_toArray, List.getElem?_cons_zero, List.getElem?_cons_succ] at p0 p1)
      · refine bodyPost_ret (results_none rfl _ _ _) rfl ?_
        have hkp : k ≤ pos := by assumption
        have e := M.out.found hkp
        exact ⟨rfl, by rw [e]; exact M.out.ho, M.out.hx⟩
      · have hkp : ¬ k ≤ pos := by assumption
        have h10 : ((d.1 : Int) == 10) = true := by assumption
        have N := M.out.next (Nat.le_refl _) hlo hla (by omega) _ (l + 1) 1 ((((Ext.refl (one w.heap.size) w1).set 1 _).set 0 _).set 1 _) (heap_setCell_same (heap_setCell_same (heap_setCell_same M.out.hp 1 (.int .i64 (c + 1))) 0 (.int .i64 (l + 1))) 1 (.int .i64 1)) (.inl ⟨by simp at h10; omega, rfl, rfl⟩)
        refine ⟨⟨_, _, _, _, _, N⟩, ?_⟩
        have hw := dw1 (s.drop pos)
        rw [Hd.out] at hw
        rw [iterPos_of N.hit, hit.out]
        omega
      · have hkp : ¬ k ≤ pos := by assumption
        have h10 : ((d.1 : Int) == 10) = false := by assumption
        have N := M.out.next (Nat.le_refl _) hlo hla (by omega) _ l (c + 1) ((Ext.refl (one w.heap.size) w1).set 1 _) (heap_setCell_same M.out.hp 1 (.int .i64 (c + 1))) (.inr ⟨by simp at h10; omega, rfl, rfl⟩)
        refine ⟨⟨_, _, _, _, _, N⟩, ?_⟩
        have hw := dw1 (s.drop pos)
        rw [Hd.out] at hw
        rw [iterPos_of N.hit, hit.out]
        omega
    · have hnx : ∀ ty, (Instr.next (.pointer (some ⟨w.heap.size + 1, 0, none⟩)) true ty).run Tryd.prog wr = _ := fun ty => run_next_end_at wr (w.heap.size + 1) ⟨s.toArray⟩ pos ty R.hit (by rw [bsize]; exact hp)
      have p0 := cell_at R.hp 0
      have p1 := cell_at R.hp 1
      simp only [pcells, List.getElem?_toArray, List.getElem?_cons_zero, List.getElem?_cons_succ] at p0 p1
      have RR := hid R
      clear R
      go_wp2_with (go_at_call 18; refine (of1_any o a _ _ _ _ x y _ RR.out.ho RR.out.ha hne).mono ?_; rintro e w1 ⟨rfl, ho1, hx1⟩)
      have hpl : pos = s.length := by omega
      have e : ofP s k = (l, c) := by
        rw [RR.out.hf, hpl, List.drop_length, rest_nil]
        simp [hk]
      go_end0
      exact ⟨rfl, by rw [e]; exact ho1, RR.out.hx.trans hx1⟩
end Go.Proofs.YteomiafndjcmiaaDoor
