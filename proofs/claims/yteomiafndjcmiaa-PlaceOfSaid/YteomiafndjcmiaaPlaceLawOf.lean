import Derived.Test.YteomiafndjcmiaaPlaceAwake
import Derived.Test.YteomiafndjcmiaaPlaceFacts
namespace Go.Proofs.Yteomiafndjcmiaa
open Go.RowKit Go.Lib
set_option maxHeartbeats 800000 in
theorem law_of_long (aa : Option Addr) (len cap : Nat) (k : Int) (w : World) (h : 1000 < len) (hm : len ≤ 9223372036854775807) : Calls Try.prog 3 #[.slice aa len cap, .int .i64 k] w (TruePost w) := by
  go_enter Try.func3, Try.ntmps3
  go_wp2
  go_ret
  exact ⟨rfl, Ext.refl _ _⟩
set_option maxHeartbeats 800000 in
theorem law_of (s : List UInt8) (v : Value) (k : Int) (w : World) (hv : Bytes w.heap.size w v s) (hs : s.length ≤ 1000) : Calls Try.prog 3 #[v, .int .i64 k] w (TruePost w) := by
  have HV := hid hv
  obtain ⟨aa, cap, rfl, h1, h2, _, _⟩ := hv
  go_enter Try.func3, Try.ntmps3
  go_wp2_with fail
  refine (ref_of_any _ s _ k w HV.out (by omega)).mono ?_
  rintro e w1 ⟨rfl, rfl⟩
  go_wp2_with fail
  refine (of_any _ s _ k w HV.out (Nat.le_refl _) (by omega)).mono ?_
  rintro e w1 ⟨rfl, X1⟩
  have X1 := hid X1
  go_wp2_with fail
  refine (awake_any w1).mono ?_
  rintro e w2 ⟨rfl, X2⟩
  have X2 := hid (X1.out.trans X2)
  go_wp2_with fail
  go_ret
  exact ⟨rfl, X2.out⟩
end Go.Proofs.Yteomiafndjcmiaa
