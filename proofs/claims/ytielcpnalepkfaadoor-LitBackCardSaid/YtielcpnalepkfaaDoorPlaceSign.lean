import Derived.Test.YtielcpnalepkfaaDoorProg
import Derived.Test.YtielcpnalepkfaaDoorPlacePlain
import Derived.WalkKit
import Derived.ProofKit
import Derived.WalkLawsBesides
namespace Go.Proofs.YtielcpnalepkfaaDoor
open Go.RowKit Go.Lib

theorem ret_pair {a b x y : Int} (h : a = x) (k : b = y) : Ending.returned (.tuple #[.int .i64 a, .int .i64 b]) = .returned (.tuple #[.int .i64 x, .int .i64 y]) := by rw [h, k]

/-- demoticref01.Sign, at its bytes. -/
def bad (b : Nat) : Prop := b < 128 ∨ 191 < b
instance (b : Nat) : Decidable (bad b) := inferInstanceAs (Decidable (_ ∨ _))
def sgn (n b0 b1 b2 b3 : Nat) : Int × Int :=
  if b0 < 128 then (1, b0)
  else if 194 ≤ b0 ∧ b0 ≤ 223 then
    (if n < 2 ∨ bad b1 then (1, -1) else (2, 64 * ((b0 : Int) - 192) + b1 - 128))
  else if 224 ≤ b0 ∧ b0 ≤ 239 then
    (if n < 3 ∨ bad b1 ∨ bad b2 ∨ 64 * (64 * ((b0 : Int) - 224) + b1 - 128) + b2 - 128 < 2048 ∨ (55296 ≤ 64 * (64 * ((b0 : Int) - 224) + b1 - 128) + b2 - 128 ∧ 64 * (64 * ((b0 : Int) - 224) + b1 - 128) + b2 - 128 ≤ 57343) then (1, -1)
     else (3, 64 * (64 * ((b0 : Int) - 224) + b1 - 128) + b2 - 128))
  else if 240 ≤ b0 ∧ b0 ≤ 244 then
    (if n < 4 ∨ bad b1 ∨ bad b2 ∨ bad b3 ∨ 64 * (64 * (64 * ((b0 : Int) - 240) + b1 - 128) + b2 - 128) + b3 - 128 < 65536 ∨ 1114111 < 64 * (64 * (64 * ((b0 : Int) - 240) + b1 - 128) + b2 - 128) + b3 - 128 then (1, -1)
     else (4, 64 * (64 * (64 * ((b0 : Int) - 240) + b1 - 128) + b2 - 128) + b3 - 128))
  else (1, -1)
def signN (n b0 b1 b2 b3 : Nat) : Int × Int :=
  if decodeN n b0 b1 b2 b3 = (65533, 1) then (1, -1) else (((decodeN n b0 b1 b2 b3).2 : Int), ((decodeN n b0 b1 b2 b3).1 : Int))
theorem signN_bad {n b0 b1 b2 b3 : Nat} (h : decodeN n b0 b1 b2 b3 = (65533, 1)) : signN n b0 b1 b2 b3 = (1, -1) := by unfold signN; rw [if_pos h]
theorem signN_good {n b0 b1 b2 b3 k v : Nat} (h : decodeN n b0 b1 b2 b3 = (v, k)) (hk : k ≠ 1 ∨ v ≠ 65533) : signN n b0 b1 b2 b3 = ((k : Int), (v : Int)) := by
  unfold signN; rw [h, if_neg (by simp only [Prod.mk.injEq]; omega)]
theorem pair_eq {a b x y : Int} (h : a = x) (k : b = y) : (a, b) = (x, y) := by rw [h, k]
set_option maxHeartbeats 4000000 in
theorem sgn_eq (n b0 b1 b2 b3 : Nat) (h1 : b1 < 256) (h2 : b2 < 256) (h3 : b3 < 256) (_hn : 1 ≤ n) (h0 : b0 < 256) : sgn n b0 b1 b2 b3 = signN n b0 b1 b2 b3 := by
  unfold sgn bad
  by_cases a0 : b0 < 128
  · rw [if_pos a0, signN_good (k := 1) (v := b0) (by unfold decodeN; rw [if_pos a0]) (by omega)]; rfl
  rw [if_neg a0]
  by_cases a1 : 194 ≤ b0 ∧ b0 ≤ 223
  · rw [if_pos a1]
    by_cases c : n < 2 ∨ (b1 < 128 ∨ 191 < b1)
    · rw [if_pos c, signN_bad]
      unfold decodeN; repeat' split
      all_goals first | (exfalso; omega) | rfl
    · rw [if_neg c, signN_good (k := 2) (v := b0 % 32 * 64 + b1 % 64) ?_ (by omega)]
      · exact pair_eq rfl (by omega)
      · unfold decodeN; repeat' split
        all_goals first | (exfalso; omega) | rfl
  rw [if_neg a1]
  by_cases a2 : 224 ≤ b0 ∧ b0 ≤ 239
  · rw [if_pos a2]
    by_cases c : n < 3 ∨ (b1 < 128 ∨ 191 < b1) ∨ (b2 < 128 ∨ 191 < b2) ∨ b0 % 16 * 4096 + b1 % 64 * 64 + b2 % 64 < 2048 ∨ (55296 ≤ b0 % 16 * 4096 + b1 % 64 * 64 + b2 % 64 ∧ b0 % 16 * 4096 + b1 % 64 * 64 + b2 % 64 ≤ 57343)
    · rw [if_pos (by omega), signN_bad]
      unfold decodeN; repeat' split
      all_goals first | (exfalso; omega) | rfl
    · rw [if_neg (by omega), signN_good (k := 3) (v := b0 % 16 * 4096 + b1 % 64 * 64 + b2 % 64) ?_ (by omega)]
      · exact pair_eq rfl (by omega)
      · unfold decodeN; repeat' split
        all_goals first | (exfalso; omega) | rfl
  rw [if_neg a2]
  by_cases a3 : 240 ≤ b0 ∧ b0 ≤ 244
  · rw [if_pos a3]
    by_cases c : n < 4 ∨ (b1 < 128 ∨ 191 < b1) ∨ (b2 < 128 ∨ 191 < b2) ∨ (b3 < 128 ∨ 191 < b3) ∨ b0 % 8 * 262144 + b1 % 64 * 4096 + b2 % 64 * 64 + b3 % 64 < 65536 ∨ 1114111 < b0 % 8 * 262144 + b1 % 64 * 4096 + b2 % 64 * 64 + b3 % 64
    · rw [if_pos (by omega), signN_bad]
      unfold decodeN; repeat' split
      all_goals first | (exfalso; omega) | rfl
    · rw [if_neg (by omega), signN_good (k := 4) (v := b0 % 8 * 262144 + b1 % 64 * 4096 + b2 % 64 * 64 + b3 % 64) ?_ (by omega)]
      · exact pair_eq rfl (by omega)
      · unfold decodeN; repeat' split
        all_goals first | (exfalso; omega) | rfl
  · rw [if_neg a3, signN_bad]
    unfold decodeN; repeat' split
    all_goals first | (exfalso; omega) | rfl

theorem sgn_2 {n b0 b1 b2 b3 : Nat} (a1 : 194 ≤ b0 ∧ b0 ≤ 223) : sgn n b0 b1 b2 b3 = (if n < 2 ∨ bad b1 then (1, -1) else (2, 64 * ((b0 : Int) - 192) + b1 - 128)) := by
  unfold sgn; rw [if_neg (by omega), if_pos a1]
theorem sgn_3 {n b0 b1 b2 b3 : Nat} (a1 : 224 ≤ b0 ∧ b0 ≤ 239) : sgn n b0 b1 b2 b3 = (if n < 3 ∨ bad b1 ∨ bad b2 ∨ 64 * (64 * ((b0 : Int) - 224) + b1 - 128) + b2 - 128 < 2048 ∨ (55296 ≤ 64 * (64 * ((b0 : Int) - 224) + b1 - 128) + b2 - 128 ∧ 64 * (64 * ((b0 : Int) - 224) + b1 - 128) + b2 - 128 ≤ 57343) then (1, -1)
     else (3, 64 * (64 * ((b0 : Int) - 224) + b1 - 128) + b2 - 128)) := by
  unfold sgn; rw [if_neg (by omega), if_neg (by omega), if_pos a1]
theorem sgn_4 {n b0 b1 b2 b3 : Nat} (a1 : 240 ≤ b0 ∧ b0 ≤ 244) : sgn n b0 b1 b2 b3 = (if n < 4 ∨ bad b1 ∨ bad b2 ∨ bad b3 ∨ 64 * (64 * (64 * ((b0 : Int) - 240) + b1 - 128) + b2 - 128) + b3 - 128 < 65536 ∨ 1114111 < 64 * (64 * (64 * ((b0 : Int) - 240) + b1 - 128) + b2 - 128) + b3 - 128 then (1, -1)
     else (4, 64 * (64 * (64 * ((b0 : Int) - 240) + b1 - 128) + b2 - 128) + b3 - 128)) := by
  unfold sgn; rw [if_neg (by omega), if_neg (by omega), if_neg (by omega), if_pos a1]
theorem sgn_0 {n b0 b1 b2 b3 : Nat} (a1 : 128 ≤ b0) (a2 : ¬ (194 ≤ b0 ∧ b0 ≤ 223)) (a3 : ¬ (224 ≤ b0 ∧ b0 ≤ 239)) (a4 : ¬ (240 ≤ b0 ∧ b0 ≤ 244)) : sgn n b0 b1 b2 b3 = (1, -1) := by
  unfold sgn; rw [if_neg (by omega), if_neg a2, if_neg a3, if_neg a4]
theorem ret_sgn {p : Int × Int} {a b : Int} (h : p = (a, b)) : Ending.returned (.tuple #[.int .i64 a, .int .i64 b]) = .returned (.tuple #[.int .i64 p.1, .int .i64 p.2]) := by rw [h]

def RetPair (p : Int × Int) (w : World) (e : Ending) (w' : World) : Prop := e = .returned (.tuple #[.int .i64 p.1, .int .i64 p.2]) ∧ w = w'
theorem RetPair.intro {p : Int × Int} {w : World} {a b : Int} (h : p = (a, b)) : RetPair p w (.returned (.tuple #[.int .i64 a, .int .i64 b])) w := ⟨ret_sgn h, rfl⟩

set_option maxRecDepth 100000 in
set_option maxHeartbeats 1600000 in
theorem sign_core (b off len cap : Nat) (i : Nat) (b0 b1 b2 b3 : Nat) (w : World) (p : Int × Int) (hp : Hid (p = sgn (len - i) b0 b1 b2 b3)) (_hl : len ≤ 140737488351232) (hi : i < len) (h0 : b0 < 256) (h1 : b1 < 256) (h2 : b2 < 256) (h3 : b3 < 256)
    (c0 : w.cell? ⟨b, off + i, none⟩ = some (.int .u8 (b0 : Int))) (c1 : i + 1 < len → w.cell? ⟨b, off + (i + 1), none⟩ = some (.int .u8 (b1 : Int)))
    (c2 : i + 2 < len → w.cell? ⟨b, off + (i + 2), none⟩ = some (.int .u8 (b2 : Int))) (c3 : i + 3 < len → w.cell? ⟨b, off + (i + 3), none⟩ = some (.int .u8 (b3 : Int))) :
    Calls Tryd.prog 41 #[.slice (some ⟨b, off, none⟩) len cap, .int .i64 i] w (RetPair p w) := by
  by_cases a0 : b0 < 128
  · go_enter Tryd.func41, Tryd.ntmps41
    go_wp2
    go_ret2
    exact RetPair.intro (by rw [hp.out]; unfold sgn; rw [if_pos a0])
  by_cases a2 : 194 ≤ b0 ∧ b0 ≤ 223
  · obtain ⟨a2, a2'⟩ := a2
    by_cases hs : i + 1 < len
    · have c1 := c1 hs
      clear c2
      clear c3
      go_enter Tryd.func41, Tryd.ntmps41
      go_wp2
      refine wp_loop_rounds 2 ?_
      all_goals (try rw [rounds_succ])
      all_goals (try go_wp2)
      all_goals (try rw [rounds_succ])
      all_goals (try go_wp2)
      all_goals go_ret2
      all_goals refine RetPair.intro ?_
      all_goals rw [hp.out, sgn_2 ⟨a2, a2'⟩]
      all_goals unfold bad
      all_goals first | (rw [if_neg (by omega)]; done) | (rw [if_pos (by omega)]; done)
    · clear c1 c2 c3
      go_enter Tryd.func41, Tryd.ntmps41
      go_wp2
      go_ret2
      exact RetPair.intro (by rw [hp.out, sgn_2 ⟨a2, a2'⟩]; unfold bad; rw [if_pos (by omega)])
  by_cases a3 : 224 ≤ b0 ∧ b0 ≤ 239
  · obtain ⟨a3, a3'⟩ := a3
    by_cases hs : i + 2 < len
    · have c2 := c2 hs
      have c1 := c1 (by omega)
      clear c3
      go_enter Tryd.func41, Tryd.ntmps41
      go_wp2
      refine wp_loop_rounds 3 ?_
      all_goals (try rw [rounds_succ])
      all_goals (try go_wp2)
      all_goals (try rw [rounds_succ])
      all_goals (try go_wp2)
      all_goals (try rw [rounds_succ])
      all_goals (try go_wp2)
      all_goals go_ret2
      all_goals refine RetPair.intro ?_
      all_goals rw [hp.out, sgn_3 ⟨a3, a3'⟩]
      all_goals unfold bad
      all_goals first | (rw [if_neg (by omega)]; done) | (rw [if_pos (by omega)]; done)
    · clear c1 c2 c3
      go_enter Tryd.func41, Tryd.ntmps41
      go_wp2
      go_ret2
      exact RetPair.intro (by rw [hp.out, sgn_3 ⟨a3, a3'⟩]; unfold bad; rw [if_pos (by omega)])
  by_cases a4 : 240 ≤ b0 ∧ b0 ≤ 244
  · obtain ⟨a4, a4'⟩ := a4
    by_cases hs : i + 3 < len
    · have c3 := c3 hs
      have c1 := c1 (by omega)
      have c2 := c2 (by omega)
      go_enter Tryd.func41, Tryd.ntmps41
      go_wp2
      refine wp_loop_rounds 4 ?_
      all_goals (try rw [rounds_succ])
      all_goals (try go_wp2)
      all_goals (try rw [rounds_succ])
      all_goals (try go_wp2)
      all_goals (try rw [rounds_succ])
      all_goals (try go_wp2)
      all_goals (try rw [rounds_succ])
      all_goals (try go_wp2)
      all_goals go_ret2
      all_goals refine RetPair.intro ?_
      all_goals rw [hp.out, sgn_4 ⟨a4, a4'⟩]
      all_goals unfold bad
      all_goals first | (rw [if_neg (by omega)]; done) | (rw [if_pos (by omega)]; done)
    · clear c1 c2 c3
      go_enter Tryd.func41, Tryd.ntmps41
      go_wp2
      go_ret2
      exact RetPair.intro (by rw [hp.out, sgn_4 ⟨a4, a4'⟩]; unfold bad; rw [if_pos (by omega)])
  · clear c1 c2 c3
    go_enter Tryd.func41, Tryd.ntmps41
    go_wp2
    all_goals go_ret2
    all_goals exact RetPair.intro (by rw [hp.out]; exact sgn_0 (by omega) a2 a3 a4)
end Go.Proofs.YtielcpnalepkfaaDoor
