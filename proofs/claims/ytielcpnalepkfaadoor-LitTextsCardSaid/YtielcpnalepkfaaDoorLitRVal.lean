import Derived.Test.YtielcpnalepkfaaDoorLitRDig
import Derived.Test.YtielcpnalepkfaaDoorLitDigits
namespace Go.Proofs.YtielcpnalepkfaaDoor
open Go.RowKit Go.Lib Go.BigFrame
def optV (o : Option Nat) : Int := match o with
  | none => -1
  | some v => v
theorem valL_fig {r v : Nat} {c : UInt8} {t : List UInt8} : valL r v (c :: t) = if r ≤ digR (digN c.toNat) ∨ digN c.toNat = none then none else valL r (v * r + digR (digN c.toNat)) t := by
  conv => lhs; unfold valL
  cases hd : digN c.toNat with
  | none => simp
  | some d => simp [digR]
set_option maxRecDepth 100000 in
set_option maxHeartbeats 3200000 in
theorem rvalue_any (s : List UInt8) (a n r : Nat) (w : World) (ha : a ≤ s.length) (hn : n ≤ 8) (hr : r ≤ 16) (hs : s.length ≤ 1000000) : Calls Tryd.prog 42 #[.string ⟨s.toArray⟩, .int .i64 (a : Nat), .int .i64 (n : Nat), .int .i64 (r : Nat)] w (IntPost' (optV (digitsP r n (s.drop a))) w) := by
  obtain ⟨p, hp⟩ : ∃ p, p = digitsP r n (s.drop a) := ⟨_, rfl⟩
  rw [← hp]
  unfold digitsP at hp
  rw [List.length_drop] at hp
  have HP := hid hp
  clear hp
  by_cases hns : n ≤ s.length - a
  · obtain ⟨q, hq⟩ : ∃ q, (s.drop a).take n = q := ⟨_, rfl⟩
    have hql : q.length = n := by rw [← hq, List.length_take, List.length_drop]; omega
    have hat : ∀ i (h : i < q.length), ∃ h2 : a + i < s.length, s[a + i]'h2 = q[i]'h := fun i h => ⟨by omega, by subst hq; rw [List.getElem_take, List.getElem_drop]⟩
    have HAT := hid hat
    have HP1 : Hid (p = valL r 0 (q.drop 0)) := hid (by rw [HP.out, if_pos hns, hq]; rfl)
    clear hq hat HP
    subst hql
    go_enter Tryd.func42, Tryd.ntmps42
    go_wp2_with fail
    go_loopw [9, 10] (fun o z wr => ∃ (i v : Nat), z = .int .i64 (i : Nat) ∧ o = .int .i64 (v : Nat) ∧ i ≤ q.length ∧ v < 16 ^ i ∧ Hid (p = valL r v (q.drop i)) ∧ wr = w) (fun _ z _ => q.length - (RowKit.intOf z).toNat)
    case atStart => exact ⟨0, 0, rfl, rfl, by omega, by simp, HP1, rfl⟩
    case round =>
      obtain ⟨i, v, rfl, rfl, hle, hlt, HR, rfl⟩ := hrel
      by_cases hil : i < q.length
      · obtain ⟨hai, hsi⟩ := HAT.out i hil
        have hi1 : ∀ W, (Instr.index 9 (.string ⟨s.toArray⟩) (.int .i64 ((a : Int) + (i : Int)))).run Tryd.prog W = .ok (.int .u8 ((s[a + i]'hai).toNat : Nat)) W := fun W => by
          have := idx_run s (a + i) hai W
          rw [show ((a + i : Nat) : Int) = (a : Int) + (i : Int) by omega] at this
          exact this
        have hdr : q.drop i = q[i] :: q.drop (i + 1) := List.drop_eq_getElem_cons hil
        simp only [hsi] at hi1
        obtain ⟨d, hd⟩ : ∃ d, q[i]'hil = d := ⟨_, rfl⟩
        simp only [hd] at hi1
        rw [hd] at hdr
        have hres := HR.out
        rw [hdr, valL_fig] at hres
        have CD := fun W => rdigit_any d W
        obtain ⟨D, hD⟩ : ∃ D, digR (digN d.toNat) = D := ⟨_, rfl⟩
        simp only [hD] at CD
        rw [hD] at hres
        have HCD := hid CD
        by_cases hbig : r ≤ D
        · have e : Hid (p = none) := hid (by rw [hres, if_pos (.inl hbig)])
          clear hd hdr hres HR hD CD hsi
          go_wp2_with fail
          refine (HCD.out _).mono ?_
          rintro e' w2 ⟨rfl, rfl⟩
          go_wp2_with fail
          go_ret
          rw [e.out]
          exact ⟨rfl, rfl⟩
        · have hne : digN d.toNat ≠ none := fun e => by rw [e] at hD; simp only [digR] at hD; omega
          rw [if_neg (by rintro (h | h); exact hbig h; exact hne h)] at hres
          have hD15 : D ≤ 15 := by omega
          have hDr : ¬ ((r : Int) ≤ (D : Int)) := by omega
          have hp7 : 16 ^ i ≤ 16 ^ 7 := Nat.pow_le_pow_right (by omega) (by omega)
          have hv7 : v < 268435456 := Nat.lt_of_lt_of_le hlt hp7
          have hvr : v * r ≤ 268435455 * 16 := Nat.mul_le_mul (by omega) hr
          have hvi : (v : Int) * r = ((v * r : Nat) : Int) := by push_cast; rfl
          have hm0 : (0 : Int) ≤ (v : Int) * r := by rw [hvi]; omega
          have hm1 : (v : Int) * r ≤ 4294967280 := by rw [hvi]; omega
          have hlt2 : v * r + D < 16 ^ (i + 1) := by
            have : v * r ≤ v * 16 := Nat.mul_le_mul_left _ hr
            rw [Nat.pow_succ]; omega
          have HVI : Hid ((v : Int) * r + D = ((v * r + D : Nat) : Int)) := hid (by push_cast; rfl)
          have HLT := hid hlt2
          have N := hid hres
          clear hd hdr hres HR hD CD hsi hbig hne hp7 hvi hlt2 hvr
          go_wp2_with fail
          refine (HCD.out _).mono ?_
          rintro e' w2 ⟨rfl, rfl⟩
          go_wp2_with fail
          rw [HVI.out]
          go_roundw
          case rel => exact ⟨i + 1, v * r + D, by go_num, rfl, by omega, HLT.out, N, by trivial⟩
          case measure => simp [RowKit.intOf]; omega
      · obtain rfl : i = q.length := by omega
        have e : Hid (p = some v) := hid (by rw [HR.out, List.drop_length]; rfl)
        clear HR hlt
        go_wp2_with fail
        go_ret
        rw [e.out]
        exact ⟨rfl, rfl⟩
  · have e : Hid (p = none) := hid (by rw [HP.out, if_neg hns])
    have hc : (s.length : Int) - (a : Int) < (n : Int) := by omega
    clear HP hns
    go_enter Tryd.func42, Tryd.ntmps42
    go_wp2_with fail
    go_ret
    rw [e.out]
    exact ⟨rfl, rfl⟩
end Go.Proofs.YtielcpnalepkfaaDoor
