import Derived.Test.YtielcpnalepkfaaDoorLitPlainW
namespace Go.Proofs.YtielcpnalepkfaaDoor
open Go.RowKit Go.Lib Go.BigFrame
def digR (o : Option Nat) : Nat := match o with
  | none => 99
  | some d => d
set_option maxRecDepth 100000 in
set_option maxHeartbeats 800000 in
theorem rdigit_any (b : UInt8) (w : World) : Calls Tryd.prog 29 #[.int .u8 (b.toNat : Nat)] w (IntPost' (digR (digN b.toNat)) w) := by
  obtain ⟨c, hc⟩ : ∃ c, c = b.toNat := ⟨_, rfl⟩
  have hc255 : c ≤ 255 := by have := b.toNat_lt; omega
  rw [← hc]
  clear hc
  obtain ⟨p, hp⟩ : ∃ p : Int, p = digR (digN c) := ⟨_, rfl⟩
  rw [← hp]
  have HP := hid hp
  clear hp
  by_cases h1 : 48 ≤ c ∧ c ≤ 57
  · have hp : Hid (p = ((c : Int) - 48)) := hid (by rw [HP.out]; unfold digN; rw [if_pos h1]; simp only [digR]; omega)
    obtain ⟨a1, a2⟩ := h1
    go_enter Tryd.func29, Tryd.ntmps29
    go_wp2
    go_ret
    exact ⟨by rw [hp.out]; rfl, rfl⟩
  · have h1' : c < 48 ∨ 57 < c := by omega
    by_cases h2 : 97 ≤ c ∧ c ≤ 102
    · have hp : Hid (p = ((c : Int) - 97 + 10)) := hid (by rw [HP.out]; unfold digN; rw [if_neg h1, if_pos h2]; simp only [digR]; omega)
      obtain ⟨a1, a2⟩ := h2
      clear h1 h1'
      go_enter Tryd.func29, Tryd.ntmps29
      go_wp2
      go_ret
      exact ⟨by rw [hp.out]; rfl, rfl⟩
    · have h2' : c < 97 ∨ 102 < c := by omega
      by_cases h3 : 65 ≤ c ∧ c ≤ 70
      · have hp : Hid (p = ((c : Int) - 65 + 10)) := hid (by rw [HP.out]; unfold digN; rw [if_neg h1, if_neg h2, if_pos h3]; simp only [digR]; omega)
        obtain ⟨a1, a2⟩ := h3
        clear h1 h1' h2 h2'
        go_enter Tryd.func29, Tryd.ntmps29
        go_wp2
        go_ret
        exact ⟨by rw [hp.out]; rfl, rfl⟩
      · have hp : Hid (p = 99) := hid (by rw [HP.out]; unfold digN; rw [if_neg h1, if_neg h2, if_neg h3]; rfl)
        have h3' : c < 65 ∨ 70 < c := by omega
        clear h1 h2 h3
        rcases h1' with a1 | a1
        · clear h2' h3'
          go_enter Tryd.func29, Tryd.ntmps29
          go_wp2
          go_ret
          exact ⟨by rw [hp.out]; rfl, rfl⟩
        · rcases h2' with a2 | a2
          · rcases h3' with a3 | a3
            all_goals
              go_enter Tryd.func29, Tryd.ntmps29
              go_wp2
              go_ret
              exact ⟨by rw [hp.out]; rfl, rfl⟩
          · clear h3'
            go_enter Tryd.func29, Tryd.ntmps29
            go_wp2
            go_ret
            exact ⟨by rw [hp.out]; rfl, rfl⟩
/-- The reference's plain test. -/
theorem plainP_alt (s : List UInt8) : plainP s = (!(decide (s.length = 0) || decide (200 < s.length) || (decide (1 < s.length) && s.head? == some 48)) && allF s) := by
  unfold plainP allF
  match s with
  | [] => rfl
  | [c] =>
    by_cases h : c = 48
    · subst h; decide
    · simp [h]
  | c :: d :: t =>
    have e : (c :: d :: t == [48]) = false := by simp
    rw [e]
    by_cases h : c = 48
    · subst h; simp
    · by_cases h2 : (c :: d :: t).length ≤ 200
      · have h3 : ¬ 200 < (c :: d :: t).length := by omega
        simp only [h2, h3]
        have hb : (some c != some (48 : UInt8)) = !(c == 48) := rfl
        simp [hb, Bool.and_comm]
      · have h3 : 200 < (c :: d :: t).length := by omega
        simp only [h2, h3]
        simp
set_option maxRecDepth 100000 in
set_option maxHeartbeats 1600000 in
theorem rplain_any (s : List UInt8) (w : World) (hs : s.length ≤ 1000000) : Calls Tryd.prog 15 #[.string ⟨s.toArray⟩] w (fun e w' => e = .returned (.bool (plainP s)) ∧ w' = w) := by
  obtain ⟨r, hr⟩ : ∃ r, r = plainP s := ⟨_, rfl⟩
  rw [← hr]
  rw [plainP_alt] at hr
  have HR := hid hr
  clear hr
  by_cases h0 : s = []
  · have e : Hid (r = false) := hid (by rw [HR.out, h0]; rfl)
    subst h0
    go_enter Tryd.func15, Tryd.ntmps15
    go_wp2_with fail
    go_ret
    rw [e.out]
    exact ⟨rfl, rfl⟩
  · have hl0 : 0 < s.length := List.length_pos_iff.2 h0
    have q0 : ((s.length : Int) == 0) = false := by simp; omega
    by_cases h200 : 200 < s.length
    · have e : Hid (r = false) := hid (by rw [HR.out]; simp [h200])
      have q1 : decide (200 < (s.length : Int)) = true := by simp; omega
      clear h0
      go_enter Tryd.func15, Tryd.ntmps15
      go_wp2_with fail
      go_ret
      rw [e.out]
      exact ⟨rfl, rfl⟩
    · have q1 : decide (200 < (s.length : Int)) = false := by simp; omega
      have hh : s.head? = some (s[0]'hl0) := by rw [List.head?_eq_getElem?, List.getElem?_eq_getElem hl0]
      have hi0 : ∀ W, (Instr.index 9 (.string ⟨s.toArray⟩) (.int .i64 0)).run Tryd.prog W = .ok (.int .u8 ((s[0]'hl0).toNat : Nat)) W := fun W => idx_run s 0 hl0 W
      obtain ⟨c, hc⟩ : ∃ c, s[0]'hl0 = c := ⟨_, rfl⟩
      simp only [hc] at hi0
      rw [hc] at hh
      by_cases hz : 1 < s.length ∧ c = 48
      · have e : Hid (r = false) := hid (by rw [HR.out, hh]; simp [hz])
        have q2 : decide (1 < (s.length : Int)) = true := by simp; omega
        have q3 : ((c.toNat : Int) == 48) = true := by rw [hz.2]; rfl
        clear h0 hz hc hh
        go_enter Tryd.func15, Tryd.ntmps15
        go_wp2_with fail
        go_ret
        rw [e.out]
        exact ⟨rfl, rfl⟩
      · have HR1 : Hid (r = allF (s.drop 0)) := hid (by
          rw [HR.out, hh, List.drop_zero]
          have a1 : decide (s.length = 0) = false := by simp; exact h0
          have a2 : decide (200 < s.length) = false := by simp; omega
          have a3 : (decide (1 < s.length) && (some c == some (48 : UInt8))) = false := by
            by_cases h : 1 < s.length
            · have : c ≠ 48 := fun e => hz ⟨h, e⟩
              simp [this]
            · simp [h]
          rw [a1, a2, a3]; rfl)
        have hq : (decide (1 < (s.length : Int)) = false) ∨ (decide (1 < (s.length : Int)) = true ∧ ((c.toNat : Int) == 48) = false) := by
          by_cases h : 1 < s.length
          · right
            have : c ≠ 48 := fun e => hz ⟨h, e⟩
            have := u8n this
            exact ⟨by simp; omega, by simp at this ⊢; omega⟩
          · left; simp; omega
        clear hz hc hh h0 HR
        rcases hq with q2 | ⟨q2, q3⟩
        all_goals
          go_enter Tryd.func15, Tryd.ntmps15
          go_wp2_with fail
          go_loopw [3] (fun z wr => ∃ i : Nat, z = .int .i64 i ∧ i ≤ s.length ∧ Hid (r = allF (s.drop i)) ∧ wr = w) (fun z _ => s.length - (RowKit.intOf z).toNat)
          case atStart => exact ⟨0, rfl, by omega, HR1, rfl⟩
          case round =>
            obtain ⟨i, rfl, hle, HA, rfl⟩ := hrel
            clear q0 q1 q2 hi0
            by_cases hil : i < s.length
            · have hi1 : ∀ W, (Instr.index 9 (.string ⟨s.toArray⟩) (.int .i64 (i : Nat))).run Tryd.prog W = .ok (.int .u8 ((s[i]'hil).toNat : Nat)) W := fun W => idx_run s i hil W
              have hdr : s.drop i = s[i] :: s.drop (i + 1) := List.drop_eq_getElem_cons hil
              obtain ⟨d, hd⟩ : ∃ d, s[i]'hil = d := ⟨_, rfl⟩
              simp only [hd] at hi1
              rw [hd] at hdr
              have HA1 : Hid (r = ((decide (48 ≤ d.toNat) && decide (d.toNat ≤ 57)) && allF (s.drop (i + 1)))) := hid (by rw [HA.out, hdr]; rfl)
              clear hd hdr HA
              by_cases hf : 48 ≤ d.toNat ∧ d.toNat ≤ 57
              · have f1 : decide ((d.toNat : Int) < 48) = false := by simp; omega
                have f2 : decide (57 < (d.toNat : Int)) = false := by simp; omega
                have N : Hid (r = allF (s.drop (i + 1))) := hid (by rw [HA1.out]; simp [hf])
                clear hf HA1
                go_wp2_with fail
                go_roundw
                case rel => exact ⟨i + 1, by go_num, by omega, N, by trivial⟩
                case measure => simp [RowKit.intOf]; omega
              · have e : Hid (r = false) := hid (by
                  rw [HA1.out]
                  have : (decide (48 ≤ d.toNat) && decide (d.toNat ≤ 57)) = false := by simp; omega
                  rw [this]; rfl)
                have hff : (decide ((d.toNat : Int) < 48) = true) ∨ (decide ((d.toNat : Int) < 48) = false ∧ decide (57 < (d.toNat : Int)) = true) := by
                  by_cases h : d.toNat < 48
                  · left; simp; omega
                  · right; exact ⟨by simp; omega, by simp; omega⟩
                clear hf HA1
                rcases hff with f1 | ⟨f1, f2⟩
                · go_wp2_with fail
                  go_ret
                  rw [e.out]
                  exact ⟨rfl, rfl⟩
                · go_wp2_with fail
                  go_ret
                  rw [e.out]
                  exact ⟨rfl, rfl⟩
            · obtain rfl : i = s.length := by omega
              have e : Hid (r = true) := hid (by rw [HA.out, List.drop_length]; rfl)
              clear HA
              go_wp2_with fail
              go_ret
              rw [e.out]
              exact ⟨rfl, rfl⟩
end Go.Proofs.YtielcpnalepkfaaDoor
