import Derived.Test.YtielcpnalepkfaaDoorLitAwake
import Derived.Test.YtielcpnalepkfaaDoorLitTokP
import Derived.Test.YtielcpnalepkfaaDoorTokTop
namespace Go.Proofs.YtielcpnalepkfaaDoor
open Go.RowKit Go.Lib Go.BigFrame
set_option maxRecDepth 100000 in
theorem law_tokens_long (s : List UInt8) (w : World) (hs : s.length ≤ 9223372036854775807) (h : 300 < s.length) : Calls Tryd.prog 8 #[.string ⟨s.toArray⟩] w (TruePost w) := by
  go_enter Tryd.func8, Tryd.ntmps8
  go_wp2
  go_ret
  exact ⟨rfl, Ext.refl _ _⟩
theorem not_both {s : List UInt8} (h1 : (numP s).2 = 0) (h2 : (textP s).2 = 0) (hl : s.length ≤ 65536) : False := by
  have a := num_scan h1 hl
  have b := text_scan h2
  rw [a] at b
  injection b with b _
  simp at b
set_option maxRecDepth 100000 in
set_option maxHeartbeats 3200000 in
theorem law_tokens (s : List UInt8) (w : World) (hT : Tabs w) (hm : MaxL w) (hs : s.length ≤ 300) : Calls Tryd.prog 8 #[.string ⟨s.toArray⟩] w (TruePost w) := by
  have AW := hid fun w' (x : Ext none' w w') => lawake_any w' (hT.ext x) (hm.ext x (fun h => h))
  have NS := hid fun W => number_any s W (by omega)
  have TX := hid fun w' (x : Ext none' w w') => text_any s w' (hT.ext x) (hm.ext x (fun h => h)) (by omega)
  have SC := hid fun w' (x : Ext none' w w') B v (hv : Bytes B w' v s) => Scan_any B s v w' hv (hT.ext x) (hm.ext x (fun h => h)) (by omega)
  have CV := hid fun W => conv_str W s (by omega)
  have P1 : Hid ((numP s).2 = 0 → scanR s = .good [⟨4, s, 0⟩, ⟨6, [10], s.length⟩] []) := hid fun h => num_scan h (by omega)
  have P2 : Hid ((textP s).2 = 0 → scanR s = .good [⟨5, s, 0⟩, ⟨6, [10], s.length⟩] []) := hid fun h => text_scan h
  have P3 : Hid ((numP s).2 = 0 → (textP s).2 = 0 → False) := hid fun h h' => not_both h h' (by omega)
  obtain ⟨nv, hnv⟩ : ∃ v, numP s = v := ⟨_, rfl⟩
  obtain ⟨tv, htv⟩ : ∃ v, textP s = v := ⟨_, rfl⟩
  rw [hnv] at NS P1 P3
  rw [htv] at TX P2 P3
  obtain ⟨n, e⟩ := nv
  obtain ⟨t, f⟩ := tv
  simp only at P1 P2 P3
  clear hnv htv hT hm
  go_enter Tryd.func8, Tryd.ntmps8
  go_wp2_with fail
  refine (NS.out _).mono ?_
  rintro e' w1 ⟨rfl, X1⟩
  have X1 := hid X1
  go_wp2_with fail
  refine (TX.out _ X1.out).mono ?_
  rintro e' w2 ⟨rfl, X2⟩
  have X2 := hid (X1.out.trans X2)
  obtain ⟨W3, cap, hcv, hby, hxc⟩ := CV.out w2
  have X3 := hid (X2.out.trans hxc)
  have SS := hid (SC.out W3 X3.out _ _ hby)
  clear hby hxc
  go_wp2_with fail
  clear hcv
  by_cases he : e = 0
  · have hf : f ≠ 0 := fun h => P3.out he h
    have n1 : ((f : Int) == 0) = false := by simp; omega
    have n2 : ((f : Int) != 0) = true := by simp; omega
    subst he
    rw [P1.out rfl] at SS
    refine SS.out.mono ?_
    rintro e' w4 ⟨v, rfl, T, X4⟩
    have X4 := hid (X3.out.trans X4)
    obtain ⟨a, cc, rfl, hT⟩ := T
    obtain ⟨g, rfl, _, _, hc⟩ := hT (by intro e; cases e)
    obtain ⟨c0, c1, _⟩ := hc 0 (by show 0 < 2; omega)
    simp only [ScR.toks, List.getElem_cons_zero, Nat.zero_mul, Nat.zero_add] at c0 c1
    simp only [ScR.toks, ScR.err, ScR.pos, List.length_cons, List.length_nil]
    clear hc hT
    go_wp2_with fail
    refine (AW.out _ X4.out).mono ?_
    rintro e5 w5 ⟨rfl, X5⟩
    have X5 := hid (X4.out.trans X5)
    go_wp2_with fail
    go_ret
    exact ⟨rfl, X5.out⟩
  · have n3 : ((e : Int) == 0) = false := by simp; omega
    by_cases hf : f = 0
    · subst hf
      rw [P2.out rfl] at SS
      refine SS.out.mono ?_
      rintro e' w4 ⟨v, rfl, T, X4⟩
      have X4 := hid (X3.out.trans X4)
      obtain ⟨a, cc, rfl, hT⟩ := T
      obtain ⟨g, rfl, _, _, hc⟩ := hT (by intro e; cases e)
      obtain ⟨c0, c1, _⟩ := hc 0 (by show 0 < 2; omega)
      simp only [ScR.toks, List.getElem_cons_zero, Nat.zero_mul, Nat.zero_add] at c0 c1
      simp only [ScR.toks, ScR.err, ScR.pos, List.length_cons, List.length_nil]
      clear hc hT
      go_wp2_with fail
      refine (AW.out _ X4.out).mono ?_
      rintro e5 w5 ⟨rfl, X5⟩
      have X5 := hid (X4.out.trans X5)
      go_wp2_with fail
      go_ret
      exact ⟨rfl, X5.out⟩
    · have n1 : ((f : Int) == 0) = false := by simp; omega
      have n2 : ((f : Int) != 0) = true := by simp; omega
      obtain ⟨r, hr⟩ : ∃ r, scanR s = r := ⟨_, rfl⟩
      rw [hr] at SS
      clear hr P1 P2 P3
      refine SS.out.mono ?_
      rintro e' w4 ⟨v, rfl, T, X4⟩
      have X4 := hid (X3.out.trans X4)
      clear T
      go_wp2_with fail
      refine (AW.out _ X4.out).mono ?_
      rintro e5 w5 ⟨rfl, X5⟩
      have X5 := hid (X4.out.trans X5)
      go_wp2_with fail
      go_ret
      exact ⟨rfl, X5.out⟩
end Go.Proofs.YtielcpnalepkfaaDoor
