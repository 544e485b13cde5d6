import Derived.Test.YtielcpnalepkfaaDoorLitAwake
import Derived.Test.YtielcpnalepkfaaDoorLitLawQuotes
import Derived.Test.YtielcpnalepkfaaDoorLitPlainW
import Derived.Test.YtielcpnalepkfaaDoorLitValP
namespace Go.Proofs.YtielcpnalepkfaaDoor
open Go.RowKit Go.Lib Go.BigFrame
set_option maxRecDepth 100000 in
theorem law_values_long (s : List UInt8) (w : World) (hs : s.length ≤ 9223372036854775807) (h : 199 < s.length) : Calls Tryd.prog 5 #[.string ⟨s.toArray⟩] w (TruePost w) := by
  go_enter Tryd.func5, Tryd.ntmps5
  go_wp2
  go_ret
  exact ⟨rfl, Ext.refl _ _⟩
theorem three_cases : ∀ (s : List UInt8), ¬ s.length ≤ 2 → ∃ c0 p t, s = c0 :: p :: t
  | c0 :: p :: t, _ => ⟨c0, p, t, rfl⟩
  | [c0], h => absurd (by simp) h
  | [], h => absurd (by simp) h
theorem u8eq {c k : UInt8} (h : c = k) : ((c.toNat : Int) == (k.toNat : Int)) = true := by rw [h]; simp
theorem u8ne {c k : UInt8} (h : c ≠ k) : ((c.toNat : Int) == (k.toNat : Int)) = false := by have := u8n h; simp; omega
set_option maxRecDepth 100000 in
set_option maxHeartbeats 3200000 in
theorem law_values (s : List UInt8) (w : World) (hT : Tabs w) (hm : MaxL w) (hs : s.length ≤ 199) : Calls Tryd.prog 5 #[.string ⟨s.toArray⟩] w (TruePost w) := by
  have AW := hid fun w' (x : Ext none' w w') => lawake_any w' (hT.ext x) (hm.ext x (fun h => h))
  have NS := hid fun W => number_any s W (by omega)
  have HV := hid (num_value (s := s))
  have HB := hid (num_bad (s := s))
  have HL := hid (num_len s)
  have HZ := hid (fun p t (e : s = 48 :: p :: t) (q : p = 120 ∨ p = 98 ∨ p = 111) (h : (numP s).2 = 0) => show numP (48 :: p :: 48 :: t) = numP s by
    subst e; exact num_nought q (by simp only [List.length_cons] at hs; omega) h)
  obtain ⟨v, hv⟩ : ∃ v, numP s = v := ⟨_, rfl⟩
  rw [hv] at NS HV HB HL HZ
  obtain ⟨n, c⟩ := v
  clear hv hT hm
  simp only at HV HB HL HZ
  go_enter Tryd.func5, Tryd.ntmps5
  go_wp2_with fail
  refine (NS.out _).mono ?_
  rintro e w1 ⟨rfl, X1⟩
  have X1 := hid X1
  by_cases hc : c = 0
  · subst hc
    have PL := hid (plain_any n w1 (by have := HL.out; omega))
    have HV1 := hid (HV.out rfl)
    have HZ1 := hid fun p t e q => HZ.out p t e q rfl
    clear HB HV HZ
    go_wp2_with fail
    refine PL.out.mono ?_
    rintro e w2 ⟨rfl, X2⟩
    have X2 := hid (X1.out.trans X2)
    clear PL
    obtain ⟨b, hb⟩ : ∃ b, plainP n = b := ⟨_, rfl⟩
    rw [hb] at HV1
    rw [hb]
    have HV2 : b = true ∨ (b = false ∧ decide ((n.length : Int) ≤ 200) = false) := by
      rcases HV1.out with h | h
      · exact .inl h
      · cases b
        · exact .inr ⟨rfl, by simp; omega⟩
        · exact .inl rfl
    clear hb HV1
    rcases HV2 with rfl | ⟨rfl, hnl⟩
    all_goals
      by_cases h2 : s.length ≤ 2
      · have d2 : decide (2 < (s.length : Int)) = false := by simp; omega
        go_wp2_with fail
        refine (AW.out _ X2.out).mono ?_
        rintro e w3 ⟨rfl, X3⟩
        have X3 := hid (X2.out.trans X3)
        go_wp2_with fail
        go_ret
        exact ⟨rfl, X3.out⟩
      · have d2 : decide (2 < (s.length : Int)) = true := by simp; omega
        obtain ⟨c0, p, t, hst⟩ := three_cases s h2
        have hi0 : ∀ W, (Instr.index 9 (.string ⟨s.toArray⟩) (.int .i64 0)).run Tryd.prog W = .ok (.int .u8 (c0.toNat : Nat)) W := fun W => by
          have := idx_run s 0 (by omega) W
          subst hst; exact this
        have hi1 : ∀ W, (Instr.index 9 (.string ⟨s.toArray⟩) (.int .i64 1)).run Tryd.prog W = .ok (.int .u8 (p.toNat : Nat)) W := fun W => by
          have := idx_run s 1 (by omega) W
          subst hst; exact this
        by_cases q0 : c0 = 48
        · have n0 : ((c0.toNat : Int) == 48) = true := u8eq q0
          by_cases q1 : p = 120 ∨ p = 98 ∨ p = 111
          · subst q0
            have HN := HZ1.out p t hst q1
            have NR := hid fun W => number_any (48 :: p :: 48 :: t) W (by rw [hst] at hs; simp only [List.length_cons] at hs ⊢; omega)
            rw [HN] at NR
            obtain ⟨r, hr⟩ : ∃ r, r = 48 :: p :: 48 :: t := ⟨_, rfl⟩
            have hsx : ∀ W, (Instr.slice 9 (.string ⟨s.toArray⟩) none (some (.int .i64 2)) none).run Tryd.prog W = .ok (.string ⟨([48, p] : List UInt8).toArray⟩) W := fun W => by
              rw [run_slice_string_h W _ _ Tryd.underlying9 _ _ (by omega) (by rw [bsize]; omega), show (2 : Int).toNat = 2 from rfl, extract_eq]
              subst hst; rfl
            have hsy : ∀ W, (Instr.slice 9 (.string ⟨s.toArray⟩) (some (.int .i64 2)) none none).run Tryd.prog W = .ok (.string ⟨t.toArray⟩) W := fun W => by
              rw [run_slice_string_l W _ _ Tryd.underlying9 _ _ (by omega) (by rw [bsize]; omega)]
              have := drop_str s 2
              rw [bsize]
              show Result.ok (Value.string ((⟨s.toArray⟩ : ByteArray).extract 2 s.length)) W = _
              rw [this]
              subst hst; rfl
            have hc1 := str_cat [48, p] [48]
            have hc2 := str_cat [48, p, 48] t
            rw [show [48, p] ++ [48] = [48, p, 48] from rfl] at hc1
            rw [show [48, p, 48] ++ t = r by rw [hr]; rfl] at hc2
            rw [← hr] at NR
            have htl : t.length ≤ 199 := by rw [hst] at hs; simp only [List.length_cons] at hs; omega
            obtain ⟨x, hx⟩ : ∃ x : List UInt8, x = [48, p] := ⟨_, rfl⟩
            obtain ⟨y, hy⟩ : ∃ y : List UInt8, y = [48, p, 48] := ⟨_, rfl⟩
            have hxl : x.length = 2 := by rw [hx]; rfl
            have hyl : y.length = 3 := by rw [hy]; rfl
            rw [← hx] at hc1
            simp only [← hx] at hsx
            rw [← hy] at hc1 hc2
            have hq : ((p.toNat : Int) == 120) = true ∨ (((p.toNat : Int) == 120) = false ∧ ((p.toNat : Int) == 98) = true) ∨ (((p.toNat : Int) == 120) = false ∧ ((p.toNat : Int) == 98) = false ∧ ((p.toNat : Int) == 111) = true) := by
              rcases q1 with rfl | rfl | rfl
              · left; decide
              · right; left; decide
              · right; right; decide
            clear hx hy hr HN q1 hst h2
            rcases hq with k1 | ⟨k1, k2⟩ | ⟨k1, k2, k3⟩
            all_goals
              go_wp2_with fail
              refine region_in3 none' w2 [0, 1, 2, 3, 4, 5] [6] [7, 8, 9, 10, 11] (by kernel_rfl) (by kernel_rfl) (fun dst v c a w h => by cases dst <;> exact h) (Ext.refl _ _) ?_
              simp only [sel, List.getElem?_cons_succ, List.getElem?_cons_zero]
              repeat (go_big_quiet_step (fail))
              refine wpQuiet_nil ?_
              simp only [wpChainK, sel, List.getElem?_cons_succ, List.getElem?_cons_zero]
              have XD := hid X2.out.drew
              have XE := hid (Ext.refl none' w2).drew
              go_wp2_with fail
              refine (NR.out _).mono ?_
              rintro e w3 ⟨rfl, X3⟩
              have XE := hid (XE.out.trans X3)
              have X3 := hid (XD.out.trans X3)
              go_wp2_with fail
              refine ⟨In.of XE.out, ?_⟩
              repeat (go_big_quiet_step (fail))
              refine wpQuiet_nil ?_
              go_wp2_with fail
              refine (AW.out _ X3.out).mono ?_
              rintro e w4 ⟨rfl, X4⟩
              have X4 := hid (X3.out.trans X4)
              go_wp2_with fail
              go_ret
              exact ⟨rfl, X4.out⟩
          · have n1 : ((p.toNat : Int) == 120) = false := u8ne fun e => q1 (.inl e)
            have n2 : ((p.toNat : Int) == 98) = false := u8ne fun e => q1 (.inr (.inl e))
            have n3 : ((p.toNat : Int) == 111) = false := u8ne fun e => q1 (.inr (.inr e))
            clear q1 q0 hst h2
            go_wp2_with fail
            refine (AW.out _ X2.out).mono ?_
            rintro e w3 ⟨rfl, X3⟩
            have X3 := hid (X2.out.trans X3)
            go_wp2_with fail
            go_ret
            exact ⟨rfl, X3.out⟩
        · have n0 : ((c0.toNat : Int) == 48) = false := u8ne q0
          clear q0 hst h2
          go_wp2_with fail
          refine (AW.out _ X2.out).mono ?_
          rintro e w3 ⟨rfl, X3⟩
          have X3 := hid (X2.out.trans X3)
          go_wp2_with fail
          go_ret
          exact ⟨rfl, X3.out⟩
  · have hn : n = [] := HB.out hc
    subst hn
    have hc2 : ((c : Int) != 0) = true := by simp; omega
    clear HB HV HL HZ
    go_wp2_with fail
    refine (AW.out _ X1.out).mono ?_
    rintro e w3 ⟨rfl, X3⟩
    have X3 := hid (X1.out.trans X3)
    go_wp2_with fail
    go_ret
    exact ⟨rfl, X3.out⟩
end Go.Proofs.YtielcpnalepkfaaDoor
