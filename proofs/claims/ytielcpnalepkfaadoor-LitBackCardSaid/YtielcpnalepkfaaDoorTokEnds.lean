import Derived.Test.YtielcpnalepkfaaDoorTokState
import Derived.Test.YtielcpnalepkfaaDoorMaxL
namespace Go.Proofs.YtielcpnalepkfaaDoor
open Go.RowKit Go.Lib Go.BigFrame
/-- What a token's text may be where it is a sign. -/
def Good (t : Tok) : Prop := t.kind ≤ 6 ∧ (t.kind = 6 → t.text ∈ [10] :: (signs3 ++ signs2 ++ signs1)) ∧ 1 ≤ t.kind
def hayE : List UInt8 := [32, 43, 43, 32, 45, 45, 32, 41, 32, 93, 32, 125, 32]
theorem shut_eq : ∀ t ∈ [10] :: (signs3 ++ signs2 ++ signs1), Lib.contains hayE (32 :: (t ++ [32])) = decide (t ∈ shuts) := by decide
theorem tokVals_len (l : List Tok) : (tokVals l).length = l.length * 3 := by
  unfold tokVals
  rw [List.length_flatMap]
  induction l with
  | nil => rfl
  | cons a l ih => simp [tokCells] at ih ⊢; omega
/-- The last token's three cells. -/
theorem last_cells {w : World} {base : Nat} {l : List Tok} {t : Tok} {a : Option Addr} {c : Nat} (h : w.ownsRow base 38 3 (.slice a (l.length + 1) c) (l.length + 1) (tokVals (l ++ [t]))) :
    ∃ g, a = some ⟨g, 0, none⟩ ∧ g < w.heap.size ∧ w.cell? ⟨g, l.length * 3, none⟩ = some (.int .i64 t.kind) ∧ w.cell? ⟨g, l.length * 3 + 1, none⟩ = some (.string ⟨t.text.toArray⟩) ∧ w.cell? ⟨g, l.length * 3 + 2, none⟩ = some (.int .i64 t.pos) := by
  have hb : ∃ g, a = some ⟨g, 0, none⟩ := by
    rcases h.2 with ⟨h1, h2⟩ | ⟨g, cap, cur, h1, _⟩
    · omega
    · injection h1 with h1; exact ⟨g, h1⟩
  obtain ⟨g, rfl⟩ := hb
  have hc := h.cells (g := g) rfl
  have hlt := (h.lt g rfl).2
  have e : ∀ j, (⟨g, 0, none⟩ : Addr).add j = ⟨g, j, none⟩ := fun j => by simp [Addr.add]; omega
  refine ⟨g, rfl, hlt, ?_, ?_, ?_⟩
  all_goals rw [← e]; apply hc; rw [tokVals_snoc, List.getElem?_append_right (by rw [tokVals_len]; omega), tokVals_len]
  · simp [tokCells]
  · rw [Nat.add_sub_cancel_left]; rfl
  · rw [Nat.add_sub_cancel_left]; rfl
theorem cat_eq (tx : List UInt8) : ((⟨#[32]⟩ : ByteArray) ++ ⟨tx.toArray⟩ ++ ⟨#[32]⟩ : ByteArray) = ⟨(32 :: (tx ++ [32])).toArray⟩ := by
  apply ByteArray.ext
  simp [ByteArray.data_append]
def BoolPost (b : Bool) (w : World) (e : Ending) (w' : World) : Prop := e = .returned (.bool b) ∧ Ext none' w w'
set_option maxHeartbeats 3200000 in
theorem ends_any (base sb k : Nat) (s : List UInt8) (l n : List Tok) (w : World) (st : St base sb w s k l n) (hl : l.length ≤ 1000000) (hm : MaxL w) (hg : ∀ t ∈ l, Good t) (hx : ∀ t ∈ l, t.text.length ≤ 1000000) :
    Calls Tryd.prog 68 #[.pointer (some ⟨sb, 0, none⟩)] w (BoolPost (endsP l) w) := by
  obtain ⟨vl, vn, hh, rl, rn, hne, hb⟩ := st
  obtain ⟨a, c, rfl⟩ := own_slice rl
  have p2 := cell_at hh 2
  simp only [List.getElem?_toArray, List.getElem?_cons_zero, List.getElem?_cons_succ] at p2
  have HH := hid hh
  clear hh rn hne
  rcases List.eq_nil_or_concat l with rfl | ⟨l', t, rfl⟩
  · clear rl
    go_enter Tryd.func68, Tryd.ntmps68
    go_wp2
    go_ret
    exact ⟨rfl, Ext.refl _ _⟩
  · rw [List.concat_eq_append] at *
    have hgt := hg t (by simp)
    have hxt := hx t (by simp)
    rw [List.length_append] at rl p2 hl
    simp only [List.length_singleton] at rl p2 hl
    obtain ⟨g, rfl, hgs, c0, c1, c2⟩ := last_cells rl
    have q0 : ∀ t' : LaterF none' w, t'.w.cell? ⟨g, l'.length * 3, none⟩ = some (.int .i64 t.kind) := fun t' => by rw [t'.x.cell (p := ⟨g, l'.length * 3, none⟩) hgs (fun h => h)]; exact c0
    have q1 : ∀ t' : LaterF none' w, t'.w.cell? ⟨g, l'.length * 3 + 1, none⟩ = some (.string ⟨t.text.toArray⟩) := fun t' => by rw [t'.x.cell (p := ⟨g, l'.length * 3 + 1, none⟩) hgs (fun h => h)]; exact c1
    have q2 : ∀ t' : LaterF none' w, t'.w.cell? ⟨g, l'.length * 3 + 2, none⟩ = some (.int .i64 t.pos) := fun t' => by rw [t'.x.cell (p := ⟨g, l'.length * 3 + 2, none⟩) hgs (fun h => h)]; exact c2
    have q3 : ∀ t' : LaterF none' w, t'.w.cell? ⟨sb, 2, none⟩ = some (.slice (some ⟨g, 0, none⟩) (l'.length + 1) c) := fun t' => by rw [t'.x.cell (p := ⟨sb, 2, none⟩) (heap_lt HH.out) (fun h => h)]; exact p2
    have RL := hid rl
    clear rl c0 c1 c2
    obtain ⟨kd, tx, ps⟩ := t
    have hk6 : kd = 1 ∨ kd = 4 ∨ kd = 5 ∨ kd = 2 ∨ kd = 3 ∨ kd = 6 := by have := hgt.1; have := hgt.2.2; simp only at *; omega
    have hE : endsP (l' ++ [⟨kd, tx, ps⟩]) = endsT ⟨kd, tx, ps⟩ := by simp [endsP]
    rw [hE]
    have HG := hid hgt.2.1
    simp only at hxt q0 q1 q2
    clear hgt hg hx hE
    have CC := fun w' (h : MaxL w') => (let ⟨m, hm⟩ := h.2; Tryd.strings_Contains ⟨hayE.toArray⟩ ⟨(32 :: (tx ++ [32])).toArray⟩ m w' (by decide) hm)
    have HC := hid CC
    have HM := hid hm
    clear CC hm
    go_enter Tryd.func68, Tryd.ntmps68
    go_wp2_with fail
    refine region_in none' w [0, 1, 2, 3, 4, 5, 6, 7, 8, 9, 10, 11] [(12, true), (13, false)] (by kernel_rfl) (by kernel_rfl) (fun dst v c a w h => by cases dst <;> exact h) (Ext.refl _ _) ?_
    simp only [sel, List.getElem?_cons_succ, List.getElem?_cons_zero]
    repeat (go_big_quiet_step (fail))
    refine wpQuiet_nil ?_
    simp only [wpChain, sel, List.getElem?_cons_succ, List.getElem?_cons_zero]
    go_wp2_with fail
    refine ⟨In.of ((Ext.refl _ _).alloc _).drew, ?_⟩
    rcases hk6 with rfl | rfl | rfl | rfl | rfl | rfl
    · go_wp2_with fail
      go_ret
      exact ⟨rfl, ((Ext.refl _ _).alloc _).drew⟩
    · go_wp2_with fail
      go_ret
      exact ⟨rfl, ((Ext.refl _ _).alloc _).drew⟩
    · go_wp2_with fail
      go_ret
      exact ⟨rfl, ((Ext.refl _ _).alloc _).drew⟩
    · by_cases hkp : tx ∈ keeps
      · simp only [keeps, List.mem_cons, List.mem_nil_iff, or_false] at  hkp
        rcases hkp with rfl | rfl | rfl | rfl
        all_goals
          go_wp2_with fail
          go_ret
          exact ⟨rfl, ((Ext.refl _ _).alloc _).drew⟩
      · have HV : Hid (endsT ⟨2, tx, ps⟩ = false) := hid (by simp [endsT, hkp])
        simp only [keeps, List.mem_cons, List.mem_nil_iff, or_false, not_or] at hkp
        obtain ⟨k0, k1, k2, k3⟩ := hkp
        have e0 : (tx == [98, 114, 101, 97, 107]) = false := by simpa using k0
        have e1 : (tx == [99, 111, 110, 116, 105, 110, 117, 101]) = false := by simpa using k1
        have e2 : (tx == [114, 101, 116, 117, 114, 110]) = false := by simpa using k2
        have e3 : (tx == [102, 97, 108, 108, 116, 104, 114, 111, 117, 103, 104]) = false := by simpa using k3
        clear k0 k1 k2 k3
        go_wp2_with fail
        go_ret
        exact ⟨by rw [HV.out]; rfl, ((Ext.refl _ _).alloc _).drew⟩
    · by_cases hkp : tx ∈ keeps
      · simp only [keeps, List.mem_cons, List.mem_nil_iff, or_false] at  hkp
        rcases hkp with rfl | rfl | rfl | rfl
        all_goals
          go_wp2_with fail
          go_ret
          exact ⟨rfl, ((Ext.refl _ _).alloc _).drew⟩
      · have HV : Hid (endsT ⟨3, tx, ps⟩ = false) := hid (by simp [endsT, hkp])
        simp only [keeps, List.mem_cons, List.mem_nil_iff, or_false, not_or] at hkp
        obtain ⟨k0, k1, k2, k3⟩ := hkp
        have e0 : (tx == [98, 114, 101, 97, 107]) = false := by simpa using k0
        have e1 : (tx == [99, 111, 110, 116, 105, 110, 117, 101]) = false := by simpa using k1
        have e2 : (tx == [114, 101, 116, 117, 114, 110]) = false := by simpa using k2
        have e3 : (tx == [102, 97, 108, 108, 116, 104, 114, 111, 117, 103, 104]) = false := by simpa using k3
        clear k0 k1 k2 k3
        go_wp2_with fail
        go_ret
        exact ⟨by rw [HV.out]; rfl, ((Ext.refl _ _).alloc _).drew⟩
    · go_wp2_with fail
      rw [cat_eq]
      have HV : Hid (endsT ⟨6, tx, ps⟩ = Lib.contains hayE (32 :: (tx ++ [32]))) := hid (by rw [shut_eq _ (HG.out trivial)]; simp [endsT])
      refine (HC.out _ (HM.out.ext (((Ext.refl none' _).alloc _).drew) (fun h => h))).mono ?_
      rintro e w1 ⟨rfl, rfl⟩
      go_wp2_with fail
      go_ret
      exact ⟨by rw [HV.out]; rfl, ((Ext.refl _ _).alloc _).drew⟩
end Go.Proofs.YtielcpnalepkfaaDoor
