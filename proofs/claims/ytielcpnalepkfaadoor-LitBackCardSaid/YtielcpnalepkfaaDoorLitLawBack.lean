import Derived.Test.YtielcpnalepkfaaDoorLitLawTokens
import Derived.Test.YtielcpnalepkfaaDoorLitPlainW
import Derived.Test.YtielcpnalepkfaaDoorLitRep
namespace Go.Proofs.YtielcpnalepkfaaDoor
open Go.RowKit Go.Lib Go.BigFrame
set_option maxRecDepth 100000 in
theorem law_back_long (s d : List UInt8) (w : World) (hs : s.length ≤ 9223372036854775807) (hd : d.length ≤ 9223372036854775807) (h : 500 < s.length ∨ 300 < d.length) : Calls Tryd.prog 9 #[.string ⟨s.toArray⟩, .string ⟨d.toArray⟩] w (TruePost w) := by
  have hh : 500 < s.length ∨ (s.length ≤ 500 ∧ 300 < d.length) := by omega
  rcases hh with h1 | ⟨h1, h2⟩
  · go_enter Tryd.func9, Tryd.ntmps9
    go_wp2
    go_ret
    exact ⟨rfl, Ext.refl _ _⟩
  · go_enter Tryd.func9, Tryd.ntmps9
    go_wp2
    go_ret
    exact ⟨rfl, Ext.refl _ _⟩
theorem plain_num {d : List UInt8} (h : plainP d = true) : numP d = (d, 0) := by
  unfold plainP at h
  simp only [Bool.and_eq_true, Bool.or_eq_true, List.all_eq_true, decide_eq_true_eq, Bool.not_eq_true', bne_iff_ne, ne_eq] at h
  obtain ⟨hf, h⟩ := h
  have hF : Figs d := fun c hc => hf c hc
  rcases h with h | ⟨⟨h1, h2⟩, h3⟩
  · have e : d = [48] := by simpa using h
    exact num_plain d hF (by rw [e]; decide) (by rw [e]; simp) (.inl e)
  · have hne : d ≠ [] := by intro e; rw [e] at h1; cases h1
    exact num_plain d hF h2 hne (.inr h3)
set_option maxRecDepth 100000 in
set_option maxHeartbeats 3200000 in
theorem law_back (s d : List UInt8) (w : World) (hT : Tabs w) (hm : MaxL w) (hs : s.length ≤ 500) (hd : d.length ≤ 300) : Calls Tryd.prog 9 #[.string ⟨s.toArray⟩, .string ⟨d.toArray⟩] w (TruePost w) := by
  have AW := hid fun w' (x : Ext none' w w') => lawake_any w' (hT.ext x) (hm.ext x (fun h => h))
  have QL := quoteP_len s
  have QS := hid fun W => quote_any s W (by omega)
  have TX := hid fun w' (x : Ext none' w w') => text_any (quoteP s) w' (hT.ext x) (hm.ext x (fun h => h)) (by omega)
  have SC := hid fun w' (x : Ext none' w w') B v (hv : Bytes B w' v (quoteP s)) => Scan_any B (quoteP s) v w' hv (hT.ext x) (hm.ext x (fun h => h)) (by omega)
  have CV := hid fun W => conv_str W (quoteP s) (by omega)
  have TQ := text_quote s (by omega)
  have P2 : Hid (scanR (quoteP s) = .good [⟨5, quoteP s, 0⟩, ⟨6, [10], (quoteP s).length⟩] []) := hid (text_scan (by rw [TQ]))
  have PL := hid fun W => plain_any d W (by omega)
  have NS := hid fun W => number_any d W (by omega)
  have P3 : Hid (plainP d = true → numP d = (d, 0)) := hid fun h => plain_num h
  rw [TQ] at TX
  obtain ⟨q, hq⟩ : ∃ q, quoteP s = q := ⟨_, rfl⟩
  rw [hq] at QS TX SC CV P2 QL
  obtain ⟨b, hb⟩ : ∃ b, plainP d = b := ⟨_, rfl⟩
  rw [hb] at PL P3
  obtain ⟨nv, hnv⟩ : ∃ v, numP d = v := ⟨_, rfl⟩
  rw [hnv] at NS P3
  clear hq hb hnv hT hm TQ
  go_enter Tryd.func9, Tryd.ntmps9
  go_wp2_with fail
  refine (QS.out _).mono ?_
  rintro e' w1 ⟨rfl, X1⟩
  have X1 := hid X1
  go_wp2_with fail
  refine (TX.out _ X1.out).mono ?_
  rintro e' w2 ⟨rfl, X2⟩
  have X2 := hid (X1.out.trans X2)
  obtain ⟨W3, cap, hcv, hby, hxc⟩ := CV.out w2
  have X3 := hid (X2.out.trans hxc)
  have SS := hid (SC.out W3 X3.out _ _ hby)
  clear hby hxc
  rw [P2.out] at SS
  go_wp2_with fail
  refine SS.out.mono ?_
  rintro e' w4 ⟨v, rfl, T, X4⟩
  have X4 := hid (X3.out.trans X4)
  obtain ⟨a, cc, rfl, hT⟩ := T
  obtain ⟨g, rfl, _, _, hc⟩ := hT (by intro e; cases e)
  obtain ⟨c0, c1, _⟩ := hc 0 (by show 0 < 2; omega)
  simp only [ScR.toks, List.getElem_cons_zero, Nat.zero_mul, Nat.zero_add] at c0 c1
  simp only [ScR.toks, ScR.err, ScR.pos, List.length_cons, List.length_nil]
  clear hc hT hcv
  go_wp2_with fail
  refine (PL.out _).mono ?_
  rintro e' w5 ⟨rfl, X5⟩
  have X5 := hid (X4.out.trans X5)
  cases b with
  | false =>
    go_wp2_with fail
    refine (AW.out _ X5.out).mono ?_
    rintro e5 w7 ⟨rfl, X7⟩
    have X7 := hid (X5.out.trans X7)
    go_wp2_with fail
    go_ret
    exact ⟨rfl, X7.out⟩
  | true =>
    obtain rfl := P3.out rfl
    go_wp2_with fail
    refine (NS.out _).mono ?_
    rintro e' w6 ⟨rfl, X6⟩
    have X6 := hid (X5.out.trans X6)
    go_wp2_with fail
    refine (AW.out _ X6.out).mono ?_
    rintro e5 w7 ⟨rfl, X7⟩
    have X7 := hid (X6.out.trans X7)
    go_wp2_with fail
    go_ret
    exact ⟨rfl, X7.out⟩
end Go.Proofs.YtielcpnalepkfaaDoor
