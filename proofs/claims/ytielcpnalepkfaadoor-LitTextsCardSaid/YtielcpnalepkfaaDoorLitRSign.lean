import Derived.Test.YtielcpnalepkfaaDoorLitRVal
import Derived.Test.YtielcpnalepkfaaDoorLitQuote
namespace Go.Proofs.YtielcpnalepkfaaDoor
open Go.RowKit Go.Lib Go.BigFrame
/-- A row of bytes, fresh or none. -/
def BytesPost (bs : List UInt8) (w : World) (e : Ending) (w' : World) : Prop := ∃ v, e = .returned v ∧ Bytes w'.heap.size w' v bs ∧ Ext none' w w'
theorem bytes_lit (w : World) (bs : List UInt8) (h : bs.length ≤ 1000) : Bytes (w.alloc (.cells (byteVals bs).toArray 5)).heap.size (w.alloc (.cells (byteVals bs).toArray 5)) (.slice (some ⟨w.heap.size, 0, none⟩) bs.length bs.length) bs := by
  have own := World.ownsRow_lit (base := w.heap.size) (e := 5) (size := 1) w (byteVals bs).toArray bs.length (Nat.le_refl _) (by unfold maxLen; omega) (by simp [byteVals])
  exact Bytes.of_owns (base := w.heap.size) (e := 5) own
theorem u8of (n : Nat) (h : n < 256) : (n : Int) = ((UInt8.ofNat n).toNat : Nat) := by rw [UInt8.toNat_ofNat']; omega
set_option maxRecDepth 100000 in
set_option maxHeartbeats 1600000 in
theorem rsign_bad (z : Int) (w : World) (hz1 : -1 ≤ z) (hz2 : z ≤ 4294967296) (h : z < 0 ∨ 1114111 < z ∨ (55296 ≤ z ∧ z ≤ 57343)) : Calls Tryd.prog 43 #[.int .i64 z] w (fun e w' => e = .returned (.slice none 0 0) ∧ w' = w) := by
  rcases h with h | h | ⟨h, h2⟩
  · go_enter Tryd.func43, Tryd.ntmps43
    go_wp2_with fail
    go_ret
    exact ⟨rfl, rfl⟩
  · go_enter Tryd.func43, Tryd.ntmps43
    go_wp2_with fail
    go_ret
    exact ⟨rfl, rfl⟩
  · go_enter Tryd.func43, Tryd.ntmps43
    go_wp2_with fail
    go_ret
    exact ⟨rfl, rfl⟩
set_option maxRecDepth 100000 in
set_option maxHeartbeats 1600000 in
theorem rsign_good (v : Nat) (w : World) (h1 : v ≤ 1114111) (h2 : v < 55296 ∨ 57343 < v) : Calls Tryd.prog 43 #[.int .i64 (v : Nat)] w (BytesPost (runeB v) w) := by
  obtain ⟨z, hz⟩ : ∃ z : Int, z = (v : Nat) := ⟨_, rfl⟩
  rw [← hz]
  have hzz := hid hz
  have z1 : z ≤ 1114111 := by omega
  have z2 : z < 55296 ∨ 57343 < z := by omega
  have z0 : 0 ≤ z := by omega
  have HBL := hid fun bs (h : bs.length ≤ 1000) => bytes_lit w bs h
  by_cases c1 : v < 128
  · have hr : Hid (runeB v = [UInt8.ofNat (v)]) := hid (by unfold runeB; rw [if_pos c1])
    have hb := hid (HBL.out [UInt8.ofNat (v)] (by simp))
    have e1 : Hid (z = ((UInt8.ofNat (v)).toNat : Nat)) := hid (by rw [← u8of _ (by omega)]; omega)
    have y1 : z < 128 := by omega
    clear hz h1 h2 c1 z2
    go_enter Tryd.func43, Tryd.ntmps43
    go_wp2_with fail
    go_ret
    rw [hr.out]
    refine ⟨_, rfl, ?_, (Ext.refl _ _).alloc _⟩
    rw [e1.out]
    exact hb.out
  · by_cases c2 : v < 2048
    · have hr : Hid (runeB v = [UInt8.ofNat (192 + v / 64), UInt8.ofNat (128 + v % 64)]) := hid (by unfold runeB; rw [if_neg c1, if_pos c2])
      have hb := hid (HBL.out [UInt8.ofNat (192 + v / 64), UInt8.ofNat (128 + v % 64)] (by simp))
      have e1 : Hid (192 + z / 64 = ((UInt8.ofNat (192 + v / 64)).toNat : Nat)) := hid (by rw [← u8of _ (by omega)]; omega)
      have e2 : Hid (128 + z % 64 = ((UInt8.ofNat (128 + v % 64)).toNat : Nat)) := hid (by rw [← u8of _ (by omega)]; omega)
      have y1 : 128 ≤ z := by omega
      have y2 : z < 2048 := by omega
      clear hz h1 h2 c1 c2 z2
      go_enter Tryd.func43, Tryd.ntmps43
      go_wp2_with fail
      go_ret
      rw [hr.out]
      refine ⟨_, rfl, ?_, (Ext.refl _ _).alloc _⟩
      rw [e1.out, e2.out]
      exact hb.out
    · by_cases c3 : v < 65536
      · have hr : Hid (runeB v = [UInt8.ofNat (224 + v / 4096), UInt8.ofNat (128 + v / 64 % 64), UInt8.ofNat (128 + v % 64)]) := hid (by unfold runeB; rw [if_neg c1, if_neg c2, if_pos c3])
        have hb := hid (HBL.out [UInt8.ofNat (224 + v / 4096), UInt8.ofNat (128 + v / 64 % 64), UInt8.ofNat (128 + v % 64)] (by simp))
        have e1 : Hid (224 + z / 4096 = ((UInt8.ofNat (224 + v / 4096)).toNat : Nat)) := hid (by rw [← u8of _ (by omega)]; omega)
        have e2 : Hid (128 + z / 64 % 64 = ((UInt8.ofNat (128 + v / 64 % 64)).toNat : Nat)) := hid (by rw [← u8of _ (by omega)]; omega)
        have e3 : Hid (128 + z % 64 = ((UInt8.ofNat (128 + v % 64)).toNat : Nat)) := hid (by rw [← u8of _ (by omega)]; omega)
        have y1 : 2048 ≤ z := by omega
        have y2 : z < 65536 := by omega
        clear hz h1 h2 c1 c2 c3
        rcases z2 with z2 | z2
        all_goals
          go_enter Tryd.func43, Tryd.ntmps43
          go_wp2_with fail
          go_ret
          rw [hr.out]
          refine ⟨_, rfl, ?_, (Ext.refl _ _).alloc _⟩
          rw [e1.out, e2.out, e3.out]
          exact hb.out
      · have hr : Hid (runeB v = [UInt8.ofNat (240 + v / 262144), UInt8.ofNat (128 + v / 4096 % 64), UInt8.ofNat (128 + v / 64 % 64), UInt8.ofNat (128 + v % 64)]) := hid (by unfold runeB; rw [if_neg c1, if_neg c2, if_neg c3])
        have hb := hid (HBL.out [UInt8.ofNat (240 + v / 262144), UInt8.ofNat (128 + v / 4096 % 64), UInt8.ofNat (128 + v / 64 % 64), UInt8.ofNat (128 + v % 64)] (by simp))
        have e1 : Hid (240 + z / 262144 = ((UInt8.ofNat (240 + v / 262144)).toNat : Nat)) := hid (by rw [← u8of _ (by omega)]; omega)
        have e2 : Hid (128 + z / 4096 % 64 = ((UInt8.ofNat (128 + v / 4096 % 64)).toNat : Nat)) := hid (by rw [← u8of _ (by omega)]; omega)
        have e3 : Hid (128 + z / 64 % 64 = ((UInt8.ofNat (128 + v / 64 % 64)).toNat : Nat)) := hid (by rw [← u8of _ (by omega)]; omega)
        have e4 : Hid (128 + z % 64 = ((UInt8.ofNat (128 + v % 64)).toNat : Nat)) := hid (by rw [← u8of _ (by omega)]; omega)
        have y1 : 65536 ≤ z := by omega
        clear hz h1 h2 c1 c2 c3 z2
        go_enter Tryd.func43, Tryd.ntmps43
        go_wp2_with fail
        go_ret
        rw [hr.out]
        refine ⟨_, rfl, ?_, (Ext.refl _ _).alloc _⟩
        rw [e1.out, e2.out, e3.out, e4.out]
        exact hb.out
end Go.Proofs.YtielcpnalepkfaaDoor
