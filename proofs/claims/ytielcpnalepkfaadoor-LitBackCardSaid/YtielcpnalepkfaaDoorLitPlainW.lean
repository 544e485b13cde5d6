import Derived.Test.YtielcpnalepkfaaDoorLitPart
namespace Go.Proofs.YtielcpnalepkfaaDoor
open Go.RowKit Go.Lib Go.BigFrame
theorem dec_high (c : UInt8) (t : List UInt8) (h : 128 ≤ c.toNat) : 128 ≤ (decodeL (c :: t)).1 := by
  rw [decodeL_N]
  show 128 ≤ (decodeN _ c.toNat _ _ _).1
  unfold decodeN
  rw [if_neg (by omega)]
  repeat' split
  all_goals simp only <;> omega
def allF (s : List UInt8) : Bool := s.all (fun c => decide (48 ≤ c.toNat) && decide (c.toNat ≤ 57))
structure PwRel (it : Nat) (q : List UInt8) (p : Bool) (w wr : World) (pos : Nat) : Prop where
  le : pos ≤ q.length
  hit : wr.heap[it]? = some (.stringIter ⟨q.toArray⟩ pos)
  hx : Ext none' w wr
  res : p = allF (q.drop pos)
set_option maxRecDepth 100000 in
set_option maxHeartbeats 3200000 in
theorem plain_any (s : List UInt8) (w : World) (hs : s.length ≤ 1000000) : Calls Tryd.prog 14 #[.string ⟨s.toArray⟩] w (fun e w' => e = .returned (.bool (plainP s)) ∧ Ext none' w w') := by
  obtain ⟨r, hr⟩ : ∃ r, r = plainP s := ⟨_, rfl⟩
  rw [← hr]
  obtain ⟨p, hp⟩ : ∃ p, p = allF s := ⟨_, rfl⟩
  have HR : Hid (r = (p && (s == [48] || (!s.isEmpty && decide (s.length ≤ 200) && s.head? != some 48)))) := hid (by rw [hr, hp]; rfl)
  clear hr
  go_enter Tryd.func14, Tryd.ntmps14
  go_wp2_with fail
  have R0 : Hid (PwRel w.heap.size s p w (w.alloc (.stringIter ⟨s.toArray⟩ 0)) 0) := hid ⟨by omega, heap_alloc_at rfl _, (Ext.refl _ _).alloc _, by rw [List.drop_zero]; exact hp⟩
  clear hp
  obtain ⟨it, hit0⟩ : ∃ it, it = w.heap.size := ⟨_, rfl⟩
  have HIT := hid hit0
  rw [← hit0] at R0
  rw [← hit0]
  clear hit0
  go_loopw [] (fun wr => ∃ pos : Nat, Hid (PwRel it s p w wr pos)) (fun wr => s.length - wr.iterPos it)
  case atStart => exact ⟨0, R0⟩
  case round =>
    obtain ⟨pos, R⟩ := hrel
    have hle := R.out.le
    have hpi := hid (iterPos_of R.out.hit)
    by_cases hpl : pos < s.length
    · obtain ⟨d, hd⟩ : ∃ d, Utf8.decode ⟨s.toArray⟩ pos = d := ⟨_, rfl⟩
      have hnx : ∀ ty, (Instr.next (.pointer (some ⟨it, 0, none⟩)) true ty).run Tryd.prog wr = .ok (.tuple #[.bool true, .int .i64 pos, .int .i32 d.1]) (wr.iterAt it ⟨s.toArray⟩ (pos + d.2)) :=
        fun ty => by rw [← hd]; exact run_next_any_at wr it ⟨s.toArray⟩ pos ty R.out.hit (by rw [bsize]; exact hpl)
      have Hd := (decode_drop s pos).symm.trans hd
      have hdr : s.drop pos = s[pos] :: s.drop (pos + 1) := List.drop_eq_getElem_cons hpl
      obtain ⟨c, hc⟩ : ∃ c, s[pos]'hpl = c := ⟨_, rfl⟩
      rw [hc] at hdr
      have hdh := dec_head c (s.drop (pos + 1))
      rw [← hdr, Hd] at hdh
      obtain ⟨d1, d2⟩ := d
      simp only at hdh hnx
      have hd1 : d1 ≤ 1114111 := by
        have := rune_le ⟨s.toArray⟩ pos
        rw [hd] at this; exact this
      have X1 : Ext none' w (wr.iterAt it ⟨s.toArray⟩ (pos + d2)) := R.out.hx.iterAt (.inr (by rw [HIT.out]; exact Nat.le_refl _)) _ _
      have hit2 : Hid ((wr.iterAt it ⟨s.toArray⟩ (pos + d2)).heap[it]? = some (.stringIter ⟨s.toArray⟩ (pos + d2))) := hid (iterAt_heap _ _ _ _ _ R.out.hit)
      have HX1 := hid X1
      have hres := R.out.res
      rw [hdr] at hres
      have hhi := dec_high c (s.drop (pos + 1))
      rw [← hdr, Hd] at hhi
      have HCW := hid hdh.2.2
      by_cases hf : 48 ≤ c.toNat ∧ c.toNat ≤ 57
      · have ecw := HCW.out (by omega)
        injection ecw with ecw1 ecw2
        subst ecw2
        have f1 : decide ((d1 : Int) < 48) = false := by simp; omega
        have f2 : decide (57 < (d1 : Int)) = false := by simp; omega
        have N : Hid (PwRel it s p w (wr.iterAt it ⟨s.toArray⟩ (pos + 1)) (pos + 1)) := hid ⟨by omega, hit2.out, HX1.out, by rw [hres]; unfold allF; rw [List.all_cons]; simp [hf]⟩
        have M := hid (iterPos_of hit2.out)
        clear hd Hd hdr hc X1 hdh R hres hhi ecw1 hf
        go_wp2_with fail
        go_roundw
        case rel => exact ⟨_, N⟩
        case measure => rw [M.out, hpi.out]; omega
      · have e : Hid (r = false) := hid (by
          rw [HR.out, hres]; unfold allF; rw [List.all_cons]
          have : (decide (48 ≤ c.toNat) && decide (c.toNat ≤ 57)) = false := by simp; omega
          rw [this]; rfl)
        have hff : (d1 : Int) < 48 ∨ (¬ (d1 : Int) < 48 ∧ 57 < (d1 : Int)) := by
          by_cases hc1 : c.toNat < 128
          · have ecw := HCW.out hc1
            injection ecw with ecw1 ecw2
            omega
          · have := hhi (by omega)
            simp only at this
            omega
        clear hd Hd hdr hc X1 hdh R hres hhi hf
        rcases hff with f1 | ⟨f1, f2⟩
        · have f1 : decide ((d1 : Int) < 48) = true := by simpa using f1
          go_wp2_with fail
          go_ret
          rw [e.out]
          exact ⟨rfl, HX1.out⟩
        · have f1 : decide ((d1 : Int) < 48) = false := by simpa using f1
          have f2 : decide (57 < (d1 : Int)) = true := by simpa using f2
          go_wp2_with fail
          go_ret
          rw [e.out]
          exact ⟨rfl, HX1.out⟩
    · obtain rfl : pos = s.length := by omega
      have hnx : ∀ ty, (Instr.next (.pointer (some ⟨it, 0, none⟩)) true ty).run Tryd.prog wr = _ := fun ty => run_next_end_at wr it ⟨s.toArray⟩ s.length ty R.out.hit (by rw [bsize]; omega)
      have e : p = true := by rw [R.out.res, List.drop_length]; rfl
      have HX := hid R.out.hx
      clear R
      by_cases h0 : s = []
      · have er : Hid (r = false) := hid (by rw [HR.out, e, h0]; rfl)
        subst h0
        clear HR e
        go_wp2_with fail
        go_ret
        rw [er.out]
        exact ⟨rfl, HX.out⟩
      · by_cases h48 : s = [48]
        · have er : Hid (r = true) := hid (by rw [HR.out, e, h48]; rfl)
          subst h48
          clear HR e h0
          go_wp2_with fail
          go_ret
          rw [er.out]
          exact ⟨rfl, HX.out⟩
        · have q1 : (s == [48]) = false := by simpa using h48
          have q2 : s.isEmpty = false := by cases s <;> simp_all
          have hl0 : 0 < s.length := by cases s <;> simp_all
          obtain ⟨c, hc⟩ : ∃ c, s[0]'hl0 = c := ⟨_, rfl⟩
          have hh : s.head? = some c := by rw [List.head?_eq_getElem?, List.getElem?_eq_getElem hl0, hc]
          by_cases hl : s.length ≤ 200
          · have q3 : decide ((s.length : Int) ≤ 200) = true := by simp; omega
            have hix : ∀ W, (Instr.index 9 (.string ⟨s.toArray⟩) (.int .i64 0)).run Tryd.prog W = .ok (.int .u8 (c.toNat : Nat)) W := fun W => by
              have := idx_run s 0 hl0 W
              rw [hc] at this
              exact this
            have er : Hid (r = ((c.toNat : Int) != 48)) := hid (by
              rw [HR.out, e, q1, q2, hh]
              have : decide (s.length ≤ 200) = true := by simpa using hl
              rw [this]
              by_cases h : c = 48
              · subst h; rfl
              · have h1 : ((c.toNat : Int) != 48) = true := by
                  have := u8n h
                  simp at this ⊢; omega
                have h2 : (some c != some (48 : UInt8)) = true := by simpa using h
                rw [h1, h2]; rfl)
            clear HR e hc hh h0 h48 hl
            go_wp2_with fail
            go_ret
            rw [er.out]
            exact ⟨rfl, HX.out⟩
          · have q3 : decide ((s.length : Int) ≤ 200) = false := by simp; omega
            have er : Hid (r = false) := hid (by
              rw [HR.out, e, q1, q2]
              have : decide (s.length ≤ 200) = false := by simpa using hl
              rw [this]; rfl)
            clear HR e hc hh h0 h48 hl
            go_wp2_with fail
            go_ret
            rw [er.out]
            exact ⟨rfl, HX.out⟩
end Go.Proofs.YtielcpnalepkfaaDoor
