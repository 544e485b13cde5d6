import Derived.Test.YthoeengfgkfchaaSeFn
namespace Go.Proofs.Ythoeengfgkfchaa
open Go.RowKit Go.Lib Go.BigFrame
def cnt (b0 b1 b2 : Bool) : Nat → Nat
  | 0 => 0
  | 1 => b0.toNat
  | 2 => b0.toNat + b1.toNat
  | _ => b0.toNat + b1.toNat + b2.toNat
theorem idx0 (a b c : Value) (W : World) : (Instr.index 94 (.agg #[a, b, c]) (.int .i64 0)).run Try.prog W = .ok a W := by kernel_rfl
theorem idx1 (a b c : Value) (W : World) : (Instr.index 94 (.agg #[a, b, c]) (.int .i64 1)).run Try.prog W = .ok b W := by kernel_rfl
theorem idx2 (a b c : Value) (W : World) : (Instr.index 94 (.agg #[a, b, c]) (.int .i64 2)).run Try.prog W = .ok c W := by kernel_rfl
theorem many_cnt (s : Cn) : manyP s = cnt s.all s.cmp (decide (s.terms.length ≠ 0)) 3 := by
  unfold manyP cnt
  cases s.all <;> cases s.cmp <;> by_cases h : s.terms.length = 0 <;> simp [h]
set_option maxRecDepth 100000 in
set_option maxHeartbeats 1600000 in
theorem Right_any (s : Cn) (hl : s.terms.length ≤ 1000000000) (A : Nat → Prop) (v : Value) (w : World) (hv : CnV A w s v) : Calls Try.prog 24 #[v] w (BoolP (rightP s) w) := by
  obtain ⟨p, hp⟩ : ∃ p, p = rightP s := ⟨_, rfl⟩
  rw [← hp]
  unfold rightP at hp
  rw [many_cnt] at hp
  obtain ⟨x, rfl, hx⟩ := hv
  have HX := hid hx
  obtain ⟨a, c, rfl, _⟩ := hx
  have CT := hid fun (W : World) (X : Ext none' w W) => cterm_any 38 #[] (fun t => !basicB t.name) A s.terms _ W hl (HX.out.ext isTm_good X fun _ _ h => h.elim) (fun i hi w' x' => right1_any s.terms[i] w') enter_right1
  obtain ⟨q, hq⟩ : ∃ q, anyI (fun t : Tm => !basicB t.name) s.terms = q := ⟨_, rfl⟩
  rw [hq] at CT hp
  obtain ⟨sa, sc, st⟩ := s
  simp only at CT HX hp ⊢
  by_cases hz : st.length = 0
  · have hb2 : decide (st.length ≠ 0) = false := by simp [hz]
    rw [hb2] at hp
    obtain rfl : st = [] := List.eq_nil_of_length_eq_zero hz
    clear hz hb2
    have g0 : (w.alloc (.cells #[.bool sa, .bool sc, .slice a ([] : List Tm).length c] 45)).heap[w.heap.size]? = some (.cells #[.bool sa, .bool sc, .slice a ([] : List Tm).length c] 45 (0, 0)) := heap_alloc_at rfl _
    have G0 := hid g0
    have HP := hid hp
    have i0 := idx0
    have i1 := idx1
    have i2 := idx2
    clear hp hq hl g0
    go_enter Try.func24, Try.ntmps24
    go_wp2_with fail
    go_loopw [3, 15] (fun m z wr => ∃ (i : Nat), z = .int .i64 (i : Nat) ∧ i ≤ 3 ∧ m = .int .i64 (cnt sa sc false i : Nat) ∧ Hid (wr = w.alloc (.cells #[.bool sa, .bool sc, .slice a ([] : List Tm).length c] 45))) (fun _ z _ => 3 - (RowKit.intOf z).toNat)
    case atStart => exact ⟨0, rfl, by omega, rfl, hid rfl⟩
    case round =>
      obtain ⟨i, rfl, hle, rfl, HWR⟩ := hrel
      obtain rfl := HWR.out
      clear HWR
      have hi : i = 0 ∨ i = 1 ∨ i = 2 ∨ i = 3 := by omega
      rcases hi with rfl | rfl | rfl | rfl
      · cases sa <;> cases sc
        all_goals
          go_wp2_with fail
          go_roundw
          case rel => exact ⟨1, by go_num, by omega, by first | rfl | kernel_rfl | simp [cnt], by first | exact hid rfl | trivial | exact hid trivial⟩
          case measure => simp [RowKit.intOf]
      · cases sa <;> cases sc
        all_goals
          go_wp2_with fail
          go_roundw
          case rel => exact ⟨2, by go_num, by omega, by first | rfl | kernel_rfl | simp [cnt], by first | exact hid rfl | trivial | exact hid trivial⟩
          case measure => simp [RowKit.intOf]
      · cases sa <;> cases sc
        all_goals
          go_wp2_with fail
          first
            | (go_roundw
               case rel => exact ⟨3, by go_num, by omega, by first | rfl | kernel_rfl | simp [cnt], by first | exact hid rfl | trivial | exact hid trivial⟩
               case measure => simp [RowKit.intOf])
            | exact ⟨⟨3, rfl, by omega, by first | rfl | kernel_rfl | simp [cnt], by first | exact hid rfl | trivial | exact hid trivial⟩, by simp [RowKit.intOf]⟩
      · have c2 := cell_at G0.out 2
        simp only [List.getElem?_toArray, List.getElem?_cons_zero, List.getElem?_cons_succ] at c2
        obtain ⟨k, hk⟩ : ∃ k, cnt sa sc false 3 = k := ⟨_, rfl⟩
        have HP2 : Hid (p = (decide (k = 1) && !q)) := hid (by rw [HP.out, hk])
        rw [hk]
        clear hk HP
        by_cases h1 : k = 1
        · have e : Hid (p = !q) := hid (by rw [HP2.out, h1]; rfl)
          subst h1
          go_wp2_with fail
          refine (CT.out _ ((Ext.refl _ _).alloc _)).mono ?_
          rintro e' w1 ⟨rfl, X1⟩
          have X1 := hid (((Ext.refl none' w).alloc _).trans X1)
          go_wp2_with fail
          go_ret
          exact ⟨by rw [e.out]; rfl, X1.out⟩
        · have q2 : ((k : Int) == 1) = false := beq_false_of_ne (by omega)
          have e : Hid (p = false) := hid (by rw [HP2.out]; simp [h1])
          go_wp2_with fail
          go_ret
          exact ⟨by rw [e.out]; rfl, (Ext.refl _ _).alloc _⟩
  · have hb2 : decide (st.length ≠ 0) = true := by simp [hz]
    rw [hb2] at hp
    have z1 : 0 < st.length := by omega
    have z2 : (0 : Int) < (st.length : Int) := by omega
    have z3 : decide (0 < (st.length : Int)) = true := decide_eq_true z2
    clear hz hb2
    have g0 : (w.alloc (.cells #[.bool sa, .bool sc, .slice a st.length c] 45)).heap[w.heap.size]? = some (.cells #[.bool sa, .bool sc, .slice a st.length c] 45 (0, 0)) := heap_alloc_at rfl _
    have G0 := hid g0
    have HP := hid hp
    have i0 := idx0
    have i1 := idx1
    have i2 := idx2
    clear hp hq hl g0
    go_enter Try.func24, Try.ntmps24
    go_wp2_with fail
    go_loopw [3, 15] (fun m z wr => ∃ (i : Nat), z = .int .i64 (i : Nat) ∧ i ≤ 3 ∧ m = .int .i64 (cnt sa sc true i : Nat) ∧ Hid (wr = w.alloc (.cells #[.bool sa, .bool sc, .slice a st.length c] 45))) (fun _ z _ => 3 - (RowKit.intOf z).toNat)
    case atStart => exact ⟨0, rfl, by omega, rfl, hid rfl⟩
    case round =>
      obtain ⟨i, rfl, hle, rfl, HWR⟩ := hrel
      obtain rfl := HWR.out
      clear HWR
      have hi : i = 0 ∨ i = 1 ∨ i = 2 ∨ i = 3 := by omega
      rcases hi with rfl | rfl | rfl | rfl
      · cases sa <;> cases sc
        all_goals
          go_wp2_with fail
          go_roundw
          case rel => exact ⟨1, by go_num, by omega, by first | rfl | kernel_rfl | simp [cnt], by first | exact hid rfl | trivial | exact hid trivial⟩
          case measure => simp [RowKit.intOf]
      · cases sa <;> cases sc
        all_goals
          go_wp2_with fail
          go_roundw
          case rel => exact ⟨2, by go_num, by omega, by first | rfl | kernel_rfl | simp [cnt], by first | exact hid rfl | trivial | exact hid trivial⟩
          case measure => simp [RowKit.intOf]
      · cases sa <;> cases sc
        all_goals
          go_wp2_with fail
          first
            | (go_roundw
               case rel => exact ⟨3, by go_num, by omega, by first | rfl | kernel_rfl | simp [cnt], by first | exact hid rfl | trivial | exact hid trivial⟩
               case measure => simp [RowKit.intOf])
            | exact ⟨⟨3, rfl, by omega, by first | rfl | kernel_rfl | simp [cnt], by first | exact hid rfl | trivial | exact hid trivial⟩, by simp [RowKit.intOf]⟩
      · have c2 := cell_at G0.out 2
        simp only [List.getElem?_toArray, List.getElem?_cons_zero, List.getElem?_cons_succ] at c2
        obtain ⟨k, hk⟩ : ∃ k, cnt sa sc true 3 = k := ⟨_, rfl⟩
        have HP2 : Hid (p = (decide (k = 1) && !q)) := hid (by rw [HP.out, hk])
        rw [hk]
        clear hk HP
        by_cases h1 : k = 1
        · have e : Hid (p = !q) := hid (by rw [HP2.out, h1]; rfl)
          subst h1
          go_wp2_with fail
          refine (CT.out _ ((Ext.refl _ _).alloc _)).mono ?_
          rintro e' w1 ⟨rfl, X1⟩
          have X1 := hid (((Ext.refl none' w).alloc _).trans X1)
          go_wp2_with fail
          go_ret
          exact ⟨by rw [e.out]; rfl, X1.out⟩
        · have q2 : ((k : Int) == 1) = false := beq_false_of_ne (by omega)
          have e : Hid (p = false) := hid (by rw [HP2.out]; simp [h1])
          go_wp2_with fail
          go_ret
          exact ⟨by rw [e.out]; rfl, (Ext.refl _ _).alloc _⟩
end Go.Proofs.Ythoeengfgkfchaa
