import Derived.Test.YtokjnalmjdighaaDoorTokSign
import Derived.Deep.Cut
namespace Go.Proofs.YtokjnalmjdighaaDoor
open Go.RowKit Go.Lib Go.BigFrame
/-- A piece of a slice of bytes. -/
theorem Bytes.sub {B b off n cap : Nat} {w : World} {s : List UInt8} (h : Bytes B w (.slice (some ⟨b, off, none⟩) n cap) s) (i j : Nat) (hij : i ≤ j) (hj : j ≤ s.length) (cap' : Nat) (hc : j - i ≤ cap') (hc2 : cap' ≤ 9223372036854775807) :
    Bytes B w (.slice (some ⟨b, off + i, none⟩) (j - i) cap') ((s.drop i).take (j - i)) := by
  obtain ⟨a, c, e, h1, h2, h3, h4⟩ := h
  injection e with e1 e2 e3
  subst e1
  have hl : ((s.drop i).take (j - i)).length = j - i := by rw [List.length_take, List.length_drop]; omega
  refine ⟨_, cap', by rw [hl], by rw [hl]; exact hc, hc2, (fun h => by cases h), fun hne => ?_⟩
  have hs : s ≠ [] := by intro e; subst e; simp at hne
  obtain ⟨b', off', e', hB, hb, hcell⟩ := h4 hs
  injection e' with e'
  injection e' with e4 e5
  subst e4 e5
  refine ⟨b, off + i, rfl, hB, hb, fun k hk => ?_⟩
  rw [hl] at hk
  rw [Nat.add_assoc, hcell (i + k) (by omega)]
  simp
set_option maxHeartbeats 1600000 in
theorem rsign_any (B : Nat) (s : List UInt8) (v : Value) (k : Nat) (w : World) (hv : Bytes B w v s) (hk : k < s.length) (hs : s.length ≤ 1000000) :
    Calls Tryd.prog 26 #[v, .int .i64 k] w fun e w' => e = .returned (.int .i64 (signP (s.drop k) : Nat)) ∧ Ext none' w w' := by
  obtain ⟨r, hr⟩ : ∃ r, r = s.drop k := ⟨_, rfl⟩
  have hrl : r.length = s.length - k := by rw [hr, List.length_drop]
  rw [← hr]
  obtain ⟨p, hp⟩ : ∃ p, p = signP r := ⟨_, rfl⟩
  rw [← hp]
  have HV := hid hv
  obtain ⟨aa, cap, rfl, h1, h2, h3, h4⟩ := hv
  have hne : s ≠ [] := by intro e; subst e; simp at hk
  obtain ⟨b, off, rfl, hbB, hbw, hcell⟩ := h4 hne
  have hcv : ∀ (m c' : Nat) w', Hid (Ext none' w w') → m ≤ c' → c' ≤ 9223372036854775807 → k + m ≤ s.length → (convert 22 9 (.slice (some ⟨b, off + k, none⟩) m c')).run Tryd.prog w' = .ok (.string ⟨(r.take m).toArray⟩) w' := fun m c' w' x hm hc' hkm => by
    have hsub := (HV.out.keep x.out).sub k (k + m) (by omega) hkm c' (by omega) hc'
    rw [Nat.add_sub_cancel_left, ← hr] at hsub
    exact conv_bytes hsub _ _ Tryd.underlying22 Tryd.underlying5 _ Tryd.underlying9
  have HCV := hid hcv
  have HRL := hid hrl
  have HP := hid hp
  have C3 : ∀ t w2 b2 cap, Hid (Texts w2 b2 signs3) → Calls Tryd.prog 29 #[.string ⟨t.toArray⟩, .slice (some ⟨b2, 0, none⟩) 4 cap] w2 (RetBool (decide (t ∈ signs3)) w2) := fun t w2 b2 cap h => in_any t b2 signs3 cap w2 h.out (by decide)
  have C2 : ∀ t w2 b2 cap, Hid (Texts w2 b2 signs2) → Calls Tryd.prog 29 #[.string ⟨t.toArray⟩, .slice (some ⟨b2, 0, none⟩) 21 cap] w2 (RetBool (decide (t ∈ signs2)) w2) := fun t w2 b2 cap h => in_any t b2 signs2 cap w2 h.out (by decide)
  have C1 : ∀ t w2 b2 cap, Hid (Texts w2 b2 signs1) → Calls Tryd.prog 29 #[.string ⟨t.toArray⟩, .slice (some ⟨b2, 0, none⟩) 23 cap] w2 (RetBool (decide (t ∈ signs1)) w2) := fun t w2 b2 cap h => in_any t b2 signs1 cap w2 h.out (by decide)
  have H3 := hid C3
  have H2 := hid C2
  have H1 := hid C1
  clear hcv hrl hr hp C1 C2 C3 hcell h3 h4 hne HV
  go_enter Tryd.func26, Tryd.ntmps26
  go_upto_region 4 with (fail)
  obtain ⟨W3, hW3⟩ : ∃ W3, W3 = ((w.alloc (.cells (signs3.map strV).toArray 9)).alloc (.cells (signs2.map strV).toArray 9)).alloc (.cells (signs1.map strV).toArray 9) := ⟨_, rfl⟩
  change Code.wp _ _ _ _ (((w.alloc (.cells (signs3.map strV).toArray 9)).alloc (.cells (signs2.map strV).toArray 9)).alloc (.cells (signs1.map strV).toArray 9))
  rw [← hW3]
  have X3 : Ext none' w W3 := by rw [hW3]; exact (((Ext.refl _ _).alloc _).alloc _).alloc _
  have T3 : Texts W3 w.heap.size signs3 := texts_of (cs := (signs3.map strV).toArray) (by rw [hW3]; exact heap_alloc_keep (heap_alloc_keep (heap_alloc_at rfl _) _) _) rfl
  have T2 : Texts W3 (w.heap.size + 1) signs2 := texts_of (cs := (signs2.map strV).toArray) (by rw [hW3]; exact heap_alloc_keep (heap_alloc_at (by simp) _) _) rfl
  have T1 : Texts W3 (w.heap.size + 1 + 1) signs1 := texts_of (cs := (signs1.map strV).toArray) (by rw [hW3]; exact heap_alloc_at (by simp) _) rfl
  have HT3 := hid T3
  have HT2 := hid T2
  have HT1 := hid T1
  have HX := hid X3
  have hcap : s.length ≤ cap := h1
  clear T3 T2 T1 X3 hW3
  have v1 := HCV.out 1 (cap - k) W3 HX (by omega) (by omega) (by omega)
  by_cases l3 : k + 3 ≤ s.length
  · have v3 := HCV.out 3 (cap - k) W3 HX (by omega) (by omega) l3
    have v2 := HCV.out 2 (cap - k) W3 HX (by omega) (by omega) (by omega)
    go_wp2_with fail
    refine (H3.out _ _ _ _ HT3).mono ?_
    rintro e w1 ⟨rfl, rfl⟩
    by_cases m3 : r.take 3 ∈ signs3
    · have e3 : decide (r.take 3 ∈ signs3) = true := by simpa using m3
      rw [e3]
      have HPP : Hid (p = 3) := hid (by rw [HP.out]; unfold signP; rw [if_pos ⟨by have := HRL.out; omega, m3⟩])
      clear m3 e3
      go_wp2_with fail
      go_ret
      exact ⟨by rw [HPP.out]; rfl, HX.out⟩
    · have e3 : decide (r.take 3 ∈ signs3) = false := by simpa using m3
      rw [e3]
      have HP3 := hid (HP.out.trans (by unfold signP; rw [if_neg (fun h => m3 h.2)]))
      clear m3 e3
      go_wp2_with fail
      refine (H2.out _ _ _ _ HT2).mono ?_
      rintro e w1 ⟨rfl, rfl⟩
      by_cases m2 : r.take 2 ∈ signs2
      · have e2 : decide (r.take 2 ∈ signs2) = true := by simpa using m2
        rw [e2]
        have HPP := hid (HP3.out.trans (if_pos ⟨by have := HRL.out; omega, m2⟩))
        clear m2 e2
        go_wp2_with fail
        go_ret
        exact ⟨by rw [HPP.out]; rfl, HX.out⟩
      · have e2 : decide (r.take 2 ∈ signs2) = false := by simpa using m2
        rw [e2]
        have HP2 := hid (HP3.out.trans (if_neg (fun h => m2 h.2)))
        clear m2 e2
        go_wp2_with fail
        refine (H1.out _ _ _ _ HT1).mono ?_
        rintro e w1 ⟨rfl, rfl⟩
        by_cases m1 : r.take 1 ∈ signs1
        · have e1 : decide (r.take 1 ∈ signs1) = true := by simpa using m1
          rw [e1]
          have HPP := hid (HP2.out.trans (if_pos m1))
          clear m1 e1
          go_wp2_with fail
          go_ret
          exact ⟨by rw [HPP.out]; rfl, HX.out⟩
        · have e1 : decide (r.take 1 ∈ signs1) = false := by simpa using m1
          rw [e1]
          have HPP := hid (HP2.out.trans (if_neg m1))
          clear m1 e1
          go_wp2_with fail
          go_ret
          exact ⟨by rw [HPP.out]; rfl, HX.out⟩
  · by_cases l2 : k + 2 ≤ s.length
    · have v2 := HCV.out 2 (cap - k) W3 HX (by omega) (by omega) l2
      have HP3 := hid (HP.out.trans (by unfold signP; rw [if_neg (fun h => by have := HRL.out; omega)]))
      go_wp2_with fail
      refine (H2.out _ _ _ _ HT2).mono ?_
      rintro e w1 ⟨rfl, rfl⟩
      by_cases m2 : r.take 2 ∈ signs2
      · have e2 : decide (r.take 2 ∈ signs2) = true := by simpa using m2
        rw [e2]
        have HPP := hid (HP3.out.trans (if_pos ⟨by have := HRL.out; omega, m2⟩))
        clear m2 e2
        go_wp2_with fail
        go_ret
        exact ⟨by rw [HPP.out]; rfl, HX.out⟩
      · have e2 : decide (r.take 2 ∈ signs2) = false := by simpa using m2
        rw [e2]
        have HP2 := hid (HP3.out.trans (if_neg (fun h => m2 h.2)))
        clear m2 e2
        go_wp2_with fail
        refine (H1.out _ _ _ _ HT1).mono ?_
        rintro e w1 ⟨rfl, rfl⟩
        by_cases m1 : r.take 1 ∈ signs1
        · have e1 : decide (r.take 1 ∈ signs1) = true := by simpa using m1
          rw [e1]
          have HPP := hid (HP2.out.trans (if_pos m1))
          clear m1 e1
          go_wp2_with fail
          go_ret
          exact ⟨by rw [HPP.out]; rfl, HX.out⟩
        · have e1 : decide (r.take 1 ∈ signs1) = false := by simpa using m1
          rw [e1]
          have HPP := hid (HP2.out.trans (if_neg m1))
          clear m1 e1
          go_wp2_with fail
          go_ret
          exact ⟨by rw [HPP.out]; rfl, HX.out⟩
    · have HP3 := hid (HP.out.trans (by unfold signP; rw [if_neg (fun h => by have := HRL.out; omega)]))
      have HP2 := hid (HP3.out.trans (if_neg (fun h => by have := HRL.out; omega)))
      go_wp2_with fail
      refine (H1.out _ _ _ _ HT1).mono ?_
      rintro e w1 ⟨rfl, rfl⟩
      by_cases m1 : r.take 1 ∈ signs1
      · have e1 : decide (r.take 1 ∈ signs1) = true := by simpa using m1
        rw [e1]
        have HPP := hid (HP2.out.trans (if_pos m1))
        clear m1 e1
        go_wp2_with fail
        go_ret
        exact ⟨by rw [HPP.out]; rfl, HX.out⟩
      · have e1 : decide (r.take 1 ∈ signs1) = false := by simpa using m1
        rw [e1]
        have HPP := hid (HP2.out.trans (if_neg m1))
        clear m1 e1
        go_wp2_with fail
        go_ret
        exact ⟨by rw [HPP.out]; rfl, HX.out⟩
end Go.Proofs.YtokjnalmjdighaaDoor
