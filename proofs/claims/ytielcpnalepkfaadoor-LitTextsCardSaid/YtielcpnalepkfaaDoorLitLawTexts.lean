import Derived.Test.YtielcpnalepkfaaDoorLitAwake
import Derived.Test.YtielcpnalepkfaaDoorLitRText
namespace Go.Proofs.YtielcpnalepkfaaDoor
open Go.RowKit Go.Lib Go.BigFrame
set_option maxRecDepth 100000 in
theorem law_texts_long (s : List UInt8) (w : World) (hs : s.length ≤ 9223372036854775807) (h : 500 < s.length) : Calls Tryd.prog 6 #[.string ⟨s.toArray⟩] w (TruePost w) := by
  go_enter Tryd.func6, Tryd.ntmps6
  go_wp2
  go_ret
  exact ⟨rfl, Ext.refl _ _⟩
set_option maxRecDepth 100000 in
set_option maxHeartbeats 3200000 in
theorem law_texts (s : List UInt8) (w : World) (hT : Tabs w) (hm : MaxL w) (hs : s.length ≤ 500) : Calls Tryd.prog 6 #[.string ⟨s.toArray⟩] w (TruePost w) := by
  have AW := hid fun w' (x : Ext none' w w') => lawake_any w' (hT.ext x) (hm.ext x (fun h => h))
  have NS := text_any s w hT hm (by omega)
  have RS := hid fun W => rtext_any s W (by omega)
  have PL := hid fun W => quote_any s W (by omega)
  have RP := hid fun W => rquote_any s W (by omega)
  have NS := hid NS
  obtain ⟨v, hv⟩ : ∃ v, textP s = v := ⟨_, rfl⟩
  obtain ⟨b, hb⟩ : ∃ b, quoteP s = b := ⟨_, rfl⟩
  rw [hv] at NS RS
  rw [hb] at PL RP
  obtain ⟨n, c⟩ := v
  clear hv hb hT hm
  go_enter Tryd.func6, Tryd.ntmps6
  go_wp2_with fail
  refine NS.out.mono ?_
  rintro e w1 ⟨rfl, X1⟩
  have X1 := hid X1
  go_wp2_with fail
  refine (RS.out _).mono ?_
  rintro e w2 ⟨rfl, X2⟩
  have X2 := hid (X1.out.trans X2)
  go_wp2_with fail
  refine (PL.out _).mono ?_
  rintro e w3 ⟨rfl, X3⟩
  have X3 := hid (X2.out.trans X3)
  go_wp2_with fail
  refine (RP.out _).mono ?_
  rintro e w4 ⟨rfl, X4⟩
  have X4 := hid (X3.out.trans X4)
  go_wp2_with fail
  refine (AW.out _ X4.out).mono ?_
  rintro e w5 ⟨rfl, X5⟩
  have X5 := hid (X4.out.trans X5)
  go_wp2_with fail
  go_ret
  exact ⟨rfl, X5.out⟩
end Go.Proofs.YtielcpnalepkfaaDoor
