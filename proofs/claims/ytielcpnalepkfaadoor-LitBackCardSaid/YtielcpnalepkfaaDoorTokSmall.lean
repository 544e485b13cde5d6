import Derived.Test.YtielcpnalepkfaaDoorTokPlain
import Derived.Test.YtielcpnalepkfaaDoorKit
import Derived.Test.YtielcpnalepkfaaDoorProg
namespace Go.Proofs.YtielcpnalepkfaaDoor
open Go.RowKit Go.Lib
def RetBool (b : Bool) (w : World) (e : Ending) (w' : World) : Prop := e = .returned (.bool b) ∧ w = w'
theorem letter_any (c : Nat) (w : World) : Calls Tryd.prog 59 #[.int .i32 c] w (RetBool (letterB c) w) := by
  obtain ⟨b, hb⟩ : ∃ b, b = letterB c := ⟨_, rfl⟩
  rw [← hb]
  have HB := hid hb
  clear hb
  go_enter Tryd.func59, Tryd.ntmps59
  go_wp2
  all_goals go_ret
  all_goals refine ⟨?_, rfl⟩
  all_goals congr 2
  all_goals rw [HB.out]; simp [letterB]
  all_goals first | omega | (rw [Bool.eq_iff_iff]; simp; omega)
theorem figure_any (c : Nat) (w : World) : Calls Tryd.prog 62 #[.int .i32 c] w (RetBool (figB c) w) := by
  obtain ⟨b, hb⟩ : ∃ b, b = figB c := ⟨_, rfl⟩
  rw [← hb]
  have HB := hid hb
  clear hb
  go_enter Tryd.func62, Tryd.ntmps62
  go_wp2
  all_goals go_ret
  all_goals refine ⟨?_, rfl⟩
  all_goals congr 2
  all_goals rw [HB.out]; simp [figB]
  all_goals first | omega | (rw [Bool.eq_iff_iff]; simp; omega)
theorem word_none (s : List UInt8) (w : World) (h1 : s ∉ words1) (h2 : s ∉ words2) : Calls Tryd.prog 64 #[.string ⟨s.toArray⟩] w fun e w' => e = .returned (.int .i64 0) ∧ w = w' := by
  simp only [words1, words2, List.mem_cons, List.mem_nil_iff, or_false, not_or] at h1 h2
  obtain ⟨a0, a1, a2, a3, a4, a5, a6, a7, a8, a9, a10, a11, a12, a13⟩ := h1
  obtain ⟨b0, b1, b2, b3, b4, b5, b6, b7, b8, b9, b10⟩ := h2
  have c0 : (s == [98, 114, 101, 97, 107]) = false := by simpa using a0
  have c1 : (s == [99, 111, 110, 116, 105, 110, 117, 101]) = false := by simpa using a1
  have c2 : (s == [101, 108, 115, 101]) = false := by simpa using a2
  have c3 : (s == [102, 111, 114]) = false := by simpa using a3
  have c4 : (s == [102, 117, 110, 99]) = false := by simpa using a4
  have c5 : (s == [105, 102]) = false := by simpa using a5
  have c6 : (s == [105, 109, 112, 111, 114, 116]) = false := by simpa using a6
  have c7 : (s == [105, 110, 116, 101, 114, 102, 97, 99, 101]) = false := by simpa using a7
  have c8 : (s == [112, 97, 99, 107, 97, 103, 101]) = false := by simpa using a8
  have c9 : (s == [114, 97, 110, 103, 101]) = false := by simpa using a9
  have c10 : (s == [114, 101, 116, 117, 114, 110]) = false := by simpa using a10
  have c11 : (s == [115, 116, 114, 117, 99, 116]) = false := by simpa using a11
  have c12 : (s == [116, 121, 112, 101]) = false := by simpa using a12
  have c13 : (s == [118, 97, 114]) = false := by simpa using a13
  have d0 : (s == [99, 97, 115, 101]) = false := by simpa using b0
  have d1 : (s == [99, 104, 97, 110]) = false := by simpa using b1
  have d2 : (s == [99, 111, 110, 115, 116]) = false := by simpa using b2
  have d3 : (s == [100, 101, 102, 97, 117, 108, 116]) = false := by simpa using b3
  have d4 : (s == [100, 101, 102, 101, 114]) = false := by simpa using b4
  have d5 : (s == [102, 97, 108, 108, 116, 104, 114, 111, 117, 103, 104]) = false := by simpa using b5
  have d6 : (s == [103, 111]) = false := by simpa using b6
  have d7 : (s == [103, 111, 116, 111]) = false := by simpa using b7
  have d8 : (s == [109, 97, 112]) = false := by simpa using b8
  have d9 : (s == [115, 101, 108, 101, 99, 116]) = false := by simpa using b9
  have d10 : (s == [115, 119, 105, 116, 99, 104]) = false := by simpa using b10
  clear a0 a1 a2 a3 a4 a5 a6 a7 a8 a9 a10 a11 a12 a13 b0 b1 b2 b3 b4 b5 b6 b7 b8 b9 b10
  go_enter Tryd.func64, Tryd.ntmps64
  go_wp2
  go_ret
  exact ⟨rfl, rfl⟩
set_option maxHeartbeats 1600000 in
theorem word_one (s : List UInt8) (w : World) (h1 : s ∈ words1) : Calls Tryd.prog 64 #[.string ⟨s.toArray⟩] w fun e w' => e = .returned (.int .i64 1) ∧ w = w' := by
  simp only [words1, List.mem_cons, List.mem_nil_iff, or_false] at h1
  rcases h1 with rfl | rfl | rfl | rfl | rfl | rfl | rfl | rfl | rfl | rfl | rfl | rfl | rfl | rfl
  all_goals
    go_enter Tryd.func64, Tryd.ntmps64
    go_wp2
    go_ret
    exact ⟨rfl, rfl⟩
set_option maxHeartbeats 1600000 in
theorem word_two (s : List UInt8) (w : World) (h1 : s ∈ words2) : Calls Tryd.prog 64 #[.string ⟨s.toArray⟩] w fun e w' => e = .returned (.int .i64 2) ∧ w = w' := by
  simp only [words2, List.mem_cons, List.mem_nil_iff, or_false] at h1
  rcases h1 with rfl | rfl | rfl | rfl | rfl | rfl | rfl | rfl | rfl | rfl | rfl
  all_goals
    go_enter Tryd.func64, Tryd.ntmps64
    go_wp2
    go_ret
    exact ⟨rfl, rfl⟩
def RetNat (z : Nat) (w : World) (e : Ending) (w' : World) : Prop := e = .returned (.int .i64 z) ∧ w = w'
theorem word_any (s : List UInt8) (w : World) : Calls Tryd.prog 64 #[.string ⟨s.toArray⟩] w (RetNat (wordK s) w) := by
  unfold wordK
  split
  · exact word_one s w (by assumption)
  · split
    · exact word_two s w (by assumption)
    · exact word_none s w (by assumption) (by assumption)
end Go.Proofs.YtielcpnalepkfaaDoor
