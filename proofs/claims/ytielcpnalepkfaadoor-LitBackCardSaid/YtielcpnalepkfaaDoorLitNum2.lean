import Derived.Test.YtielcpnalepkfaaDoorLitNum
namespace Go.Proofs.YtielcpnalepkfaaDoor
open Go.RowKit Go.Lib Go.BigFrame
theorem drop_str (s : List UInt8) (i : Nat) : (⟨s.toArray⟩ : ByteArray).extract i s.length = ⟨(s.drop i).toArray⟩ := by
  rw [extract_eq, List.take_of_length_le (by rw [List.length_drop]; exact Nat.le_refl _)]
def BasePost (p : Nat × List UInt8) (w : World) (e : Ending) (w' : World) : Prop := e = .returned (.tuple #[.int .i64 p.1, .string ⟨p.2.toArray⟩]) ∧ Ext none' w w'
set_option maxRecDepth 100000 in
set_option maxHeartbeats 1600000 in
theorem base_any (s : List UInt8) (w : World) (hs : s.length ≤ 1000000) : Calls Tryd.prog 20 #[.string ⟨s.toArray⟩] w (BasePost (baseP s) w) := by
  obtain ⟨p, hp⟩ : ∃ p, p = baseP s := ⟨_, rfl⟩
  rw [← hp]
  have HP := hid hp
  clear hp
  by_cases h2 : s.length < 2
  · have e : Hid (p = (10, s)) := hid (by rw [HP.out]; unfold baseP; rw [if_pos (.inl h2)])
    go_enter Tryd.func20, Tryd.ntmps20
    go_wp2_with fail
    go_ret2
    rw [e.out]
    exact ⟨rfl, Ext.refl _ _⟩
  · have hl : 2 ≤ s.length := by omega
    have hix := byte_at s 0 (by omega)
    have hiy := byte_at s 1 (by omega)
    have hh : s.head? = some (s[0]'(by omega)) := by rw [List.head?_eq_getElem?, List.getElem?_eq_getElem (by omega)]
    have hg : s.getD 1 0 = s[1]'(by omega) := by rw [List.getD_eq_getElem?_getD, List.getElem?_eq_getElem (by omega)]; rfl
    have HD2 := hid (drop_str s 2)
    have HD1 := hid (drop_str s 1)
    obtain ⟨c, hc⟩ : ∃ c, s[0]'(by omega) = c := ⟨_, rfl⟩
    obtain ⟨d, hd⟩ : ∃ d, s[1]'(by omega) = d := ⟨_, rfl⟩
    rw [hc] at hix hh
    rw [hd] at hiy hg
    have HH := hid hh
    have HG := hid hg
    clear hc hd hh hg
    by_cases h48 : c = 48
    · subst h48
      have HP1 : Hid (p = if d = 120 ∨ d = 88 then (16, s.drop 2) else if d = 98 ∨ d = 66 then (2, s.drop 2) else if d = 111 ∨ d = 79 then (8, s.drop 2) else (8, s.drop 1)) := hid (by
        rw [HP.out]; unfold baseP; rw [if_neg (by rw [HH.out]; simp; omega), HG.out])
      have hz : Hid (((⟨s.toArray⟩ : ByteArray)[0]'(by rw [bsize]; omega)).toNat = 48) := hid (by rw [hix]; rfl)
      have hz0 : ((((⟨s.toArray⟩ : ByteArray)[0]'(by rw [bsize]; omega)).toNat : Int) == 48) = true := by rw [hz.out]; rfl
      by_cases m1 : d = 120
      · have e : Hid (p = (16, s.drop 2)) := hid (by rw [HP1.out, if_pos (.inl m1)])
        subst m1
        go_enter Tryd.func20, Tryd.ntmps20
        go_wp2_with fail
        refine region_in none' w [0, 1, 2, 3] [] (by kernel_rfl) (by kernel_rfl) (fun dst v c a w h => by cases dst <;> exact h) (Ext.refl _ _) ?_
        simp only [sel, List.getElem?_cons_succ, List.getElem?_cons_zero]
        repeat (go_big_quiet_step (fail))
        refine wpQuiet_nil ?_
        simp only [wpChain]
        rw [HD2.out]
        go_wp2_with fail
        go_ret2
        rw [e.out]
        exact ⟨rfl, (Ext.refl _ _).drew⟩
      · have n1 : ((d.toNat : Int) == 120) = false := by have := u8n m1; simp at this ⊢; omega
        by_cases m2 : d = 88
        · have e : Hid (p = (16, s.drop 2)) := hid (by rw [HP1.out, if_pos (.inr m2)])
          subst m2
          clear m1
          go_enter Tryd.func20, Tryd.ntmps20
          go_wp2_with fail
          refine region_in none' w [0, 1, 2, 3] [] (by kernel_rfl) (by kernel_rfl) (fun dst v c a w h => by cases dst <;> exact h) (Ext.refl _ _) ?_
          simp only [sel, List.getElem?_cons_succ, List.getElem?_cons_zero]
          repeat (go_big_quiet_step (fail))
          refine wpQuiet_nil ?_
          simp only [wpChain]
          rw [HD2.out]
          go_wp2_with fail
          go_ret2
          rw [e.out]
          exact ⟨rfl, (Ext.refl _ _).drew⟩
        · have n2 : ((d.toNat : Int) == 88) = false := by have := u8n m2; simp at this ⊢; omega
          by_cases m3 : d = 98
          · have e : Hid (p = (2, s.drop 2)) := hid (by rw [HP1.out, if_neg (by simp [m1, m2]), if_pos (.inl m3)])
            subst m3
            clear m1 m2
            go_enter Tryd.func20, Tryd.ntmps20
            go_wp2_with fail
            refine region_in none' w [0, 1, 2, 3] [] (by kernel_rfl) (by kernel_rfl) (fun dst v c a w h => by cases dst <;> exact h) (Ext.refl _ _) ?_
            simp only [sel, List.getElem?_cons_succ, List.getElem?_cons_zero]
            repeat (go_big_quiet_step (fail))
            refine wpQuiet_nil ?_
            simp only [wpChain]
            rw [HD2.out]
            go_wp2_with fail
            go_ret2
            rw [e.out]
            exact ⟨rfl, (Ext.refl _ _).drew⟩
          · have n3 : ((d.toNat : Int) == 98) = false := by have := u8n m3; simp at this ⊢; omega
            by_cases m4 : d = 66
            · have e : Hid (p = (2, s.drop 2)) := hid (by rw [HP1.out, if_neg (by simp [m1, m2]), if_pos (.inr m4)])
              subst m4
              clear m1 m2 m3
              go_enter Tryd.func20, Tryd.ntmps20
              go_wp2_with fail
              refine region_in none' w [0, 1, 2, 3] [] (by kernel_rfl) (by kernel_rfl) (fun dst v c a w h => by cases dst <;> exact h) (Ext.refl _ _) ?_
              simp only [sel, List.getElem?_cons_succ, List.getElem?_cons_zero]
              repeat (go_big_quiet_step (fail))
              refine wpQuiet_nil ?_
              simp only [wpChain]
              rw [HD2.out]
              go_wp2_with fail
              go_ret2
              rw [e.out]
              exact ⟨rfl, (Ext.refl _ _).drew⟩
            · have n4 : ((d.toNat : Int) == 66) = false := by have := u8n m4; simp at this ⊢; omega
              by_cases m5 : d = 111
              · have e : Hid (p = (8, s.drop 2)) := hid (by rw [HP1.out, if_neg (by simp [m1, m2]), if_neg (by simp [m3, m4]), if_pos (.inl m5)])
                subst m5
                clear m1 m2 m3 m4
                go_enter Tryd.func20, Tryd.ntmps20
                go_wp2_with fail
                refine region_in none' w [0, 1, 2, 3] [] (by kernel_rfl) (by kernel_rfl) (fun dst v c a w h => by cases dst <;> exact h) (Ext.refl _ _) ?_
                simp only [sel, List.getElem?_cons_succ, List.getElem?_cons_zero]
                repeat (go_big_quiet_step (fail))
                refine wpQuiet_nil ?_
                simp only [wpChain]
                rw [HD2.out]
                go_wp2_with fail
                go_ret2
                rw [e.out]
                exact ⟨rfl, (Ext.refl _ _).drew⟩
              · have n5 : ((d.toNat : Int) == 111) = false := by have := u8n m5; simp at this ⊢; omega
                by_cases m6 : d = 79
                · have e : Hid (p = (8, s.drop 2)) := hid (by rw [HP1.out, if_neg (by simp [m1, m2]), if_neg (by simp [m3, m4]), if_pos (.inr m6)])
                  subst m6
                  clear m1 m2 m3 m4 m5
                  go_enter Tryd.func20, Tryd.ntmps20
                  go_wp2_with fail
                  refine region_in none' w [0, 1, 2, 3] [] (by kernel_rfl) (by kernel_rfl) (fun dst v c a w h => by cases dst <;> exact h) (Ext.refl _ _) ?_
                  simp only [sel, List.getElem?_cons_succ, List.getElem?_cons_zero]
                  repeat (go_big_quiet_step (fail))
                  refine wpQuiet_nil ?_
                  simp only [wpChain]
                  rw [HD2.out]
                  go_wp2_with fail
                  go_ret2
                  rw [e.out]
                  exact ⟨rfl, (Ext.refl _ _).drew⟩
                · have n6 : ((d.toNat : Int) == 79) = false := by have := u8n m6; simp at this ⊢; omega
                  have e : Hid (p = (8, s.drop 1)) := hid (by rw [HP1.out, if_neg (by simp [m1, m2]), if_neg (by simp [m3, m4]), if_neg (by simp [m5, m6])])
                  clear m1 m2 m3 m4 m5 m6
                  go_enter Tryd.func20, Tryd.ntmps20
                  go_wp2_with fail
                  refine region_in none' w [0, 1, 2, 3] [] (by kernel_rfl) (by kernel_rfl) (fun dst v c a w h => by cases dst <;> exact h) (Ext.refl _ _) ?_
                  simp only [sel, List.getElem?_cons_succ, List.getElem?_cons_zero]
                  repeat (go_big_quiet_step (fail))
                  refine wpQuiet_nil ?_
                  simp only [wpChain]
                  rw [HD1.out]
                  go_wp2_with fail
                  go_ret2
                  rw [e.out]
                  exact ⟨rfl, (Ext.refl _ _).drew⟩
    · have e : Hid (p = (10, s)) := hid (by rw [HP.out]; unfold baseP; rw [if_pos (.inr (by rw [HH.out]; simpa using h48))])
      have n0 : ((c.toNat : Int) != 48) = true := by have := u8n h48; simp at this ⊢; omega
      clear h48
      go_enter Tryd.func20, Tryd.ntmps20
      go_wp2_with fail
      go_ret2
      rw [e.out]
      exact ⟨rfl, Ext.refl _ _⟩
theorem foldl_len (r : Nat) (hr : r ≤ 16) : ∀ (ds v : List Nat), (∀ d ∈ ds, d ≤ 15) → (∀ x ∈ v, x ≤ 9) → (ds.foldl (fun v d => timesP v r d) v).length ≤ v.length + 2 * ds.length ∧ ∀ x ∈ ds.foldl (fun v d => timesP v r d) v, x ≤ 9
  | [], v, _, h => by simpa using h
  | d :: ds, v, hd, h => by
    have h1 := timesP_len hr (hd d (by simp)) h
    have h2 := foldl_len r hr ds (timesP v r d) (fun x hx => hd x (by simp [hx])) timesP_dig
    simp only [List.foldl_cons, List.length_cons]
    exact ⟨by omega, h2.2⟩
/-- What the loop over the digits keeps. -/
structure NumRel (it : Nat) (s : List UInt8) (r : Nat) (p : List UInt8 × Nat) (w wr : World) (v : Value) (pos : Nat) (line : Bool) (many : Nat) (l : List Nat) : Prop where
  le : pos ≤ s.length
  hit : wr.heap[it]? = some (.stringIter ⟨s.toArray⟩ pos)
  hx : Ext none' w wr
  row : DigRel w.heap.size wr v l
  dig : ∀ x ∈ l, x ≤ 9
  len : l.length ≤ 2 * pos
  mny : many ≤ pos
  res : p = goP r many l (digsP r line (s.drop pos))
end Go.Proofs.YtielcpnalepkfaaDoor
