import Derived.Test.YtokjnalmjdighaaDoorTokAwake
import Derived.Test.YtokjnalmjdighaaDoorTokRName
namespace Go.Proofs.YtokjnalmjdighaaDoor
open Go.RowKit Go.Lib Go.BigFrame
theorem law_names_long (s : List UInt8) (w : World) (h : 100 < s.length) (hm : s.length ≤ 9223372036854775807) : Calls Tryd.prog 8 #[.string ⟨s.toArray⟩] w (TruePost w) := by
  go_enter Tryd.func8, Tryd.ntmps8
  go_wp2
  go_ret
  exact ⟨rfl, Ext.refl _ _⟩
set_option maxHeartbeats 1600000 in
theorem law_names (s : List UInt8) (w : World) (hT : Tabs w) (hm : MaxL w) (hs : s.length ≤ 100) : Calls Tryd.prog 8 #[.string ⟨s.toArray⟩] w (TruePost w) := by
  have AW := hid fun w' (x : Ext none' w w') => awake_any w' (hT.ext x) (hm.ext x (fun h => h))
  have C1 := hid (name_any s w (by omega))
  have C2 := hid fun w' => rname_any s w' (by omega)
  have C3 := hid fun w' => word_any s w'
  have C4 := hid fun w' => rword_any s w'
  obtain ⟨b, hb⟩ : ∃ b, nameB s = b := ⟨_, rfl⟩
  obtain ⟨k, hk⟩ : ∃ k, wordK s = k := ⟨_, rfl⟩
  rw [hb] at C1 C2
  rw [hk] at C3 C4
  clear hb hk hT hm
  go_enter Tryd.func8, Tryd.ntmps8
  go_wp2_with fail
  refine C1.out.mono ?_
  rintro e w1 ⟨rfl, X1⟩
  have X1 := hid X1
  go_wp2_with fail
  refine (C2.out _).mono ?_
  rintro e w2 ⟨rfl, X2⟩
  have X2 := hid (X1.out.trans X2)
  cases b
  all_goals
    go_wp2_with (go_at_call 17; refine (C3.out _).mono ?_; rintro e w1 ⟨rfl, rfl⟩)
    refine (C4.out _).mono ?_
    rintro e w3 ⟨rfl, X3⟩
    have X3 := hid (X2.out.trans X3)
    go_wp2_with fail
    refine (AW.out _ X3.out).mono ?_
    rintro e w4 ⟨rfl, X4⟩
    have X4 := hid (X3.out.trans X4)
    go_wp2_with fail
    go_ret
    exact ⟨rfl, X4.out⟩
end Go.Proofs.YtokjnalmjdighaaDoor
