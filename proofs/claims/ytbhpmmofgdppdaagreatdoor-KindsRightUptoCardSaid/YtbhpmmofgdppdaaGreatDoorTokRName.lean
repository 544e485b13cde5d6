import Derived.Test.YtbhpmmofgdppdaaGreatDoorTokInR
import Derived.Test.YtbhpmmofgdppdaaGreatDoorZAk
namespace Go.Proofs.YtbhpmmofgdppdaaGreatDoor
open Go.RowKit Go.Lib Go.BigFrame
theorem nameB_word {s : List UInt8} (h : wordK s ≠ 0) : nameB s = false := by
  cases s with
  | nil => rfl
  | cons c t =>
    show (!figB c.toNat && wordK (c :: t) == 0 && (c :: t).all idB) = false
    have : (wordK (c :: t) == 0) = false := by simpa using h
    rw [this]; simp
set_option maxHeartbeats 1600000 in
theorem rname_any (s : List UInt8) (w : World) (hs : s.length ≤ 1000000) : Calls Tryz.prog 68 #[.string ⟨s.toArray⟩] w (BoolPost (nameB s) w) := by
  obtain ⟨p, hp⟩ : ∃ p, p = nameB s := ⟨_, rfl⟩
  rw [← hp]
  have HP := hid hp
  clear hp
  by_cases hs0 : s = []
  · subst hs0
    have hp0 : Hid (p = false) := hid (by rw [HP.out]; rfl)
    go_enter Tryz.func68, Tryz.ntmps68
    go_wp2_with fail
    go_ret
    exact ⟨by rw [hp0.out]; rfl, Ext.refl _ _⟩
  · have hsb : (s == []) = false := by simpa using hs0
    have hl0 : 0 < s.length := List.length_pos_iff.2 hs0
    have hix : ((⟨s.toArray⟩ : ByteArray)[0]'(by rw [bsize]; exact hl0)).toNat = s[0].toNat := by
      show ((s.toArray)[0]'_).toNat = _
      simp
    have hsc : s = s[0] :: s.drop 1 := by
      conv => lhs; rw [← List.drop_zero (l := s)]
      exact List.drop_eq_getElem_cons hl0
    have CR := hid (rword_any s w)
    have CF := hid (rfigure_any s[0].toNat w)
    have NF : Hid (figB s[0].toNat = true → p = false) := hid fun hf => by rw [HP.out, hsc]; exact nameB_fig hf
    have NH : Hid (figB s[0].toNat = false → ∀ c t, s = c :: t → figB c.toNat = false) := hid fun hf c t hst => by subst hst; exact hf
    have NW : Hid (wordK s ≠ 0 → p = false) := hid fun h => by rw [HP.out]; exact nameB_word h
    obtain ⟨x, hx⟩ : ∃ x, s[0].toNat = x := ⟨_, rfl⟩
    rw [hx] at hix CF NF NH
    have HSC := hid hsc
    clear hsc hx
    obtain ⟨fb, hfb⟩ : ∃ b, figB x = b := ⟨_, rfl⟩
    rw [hfb] at CF NF NH
    clear hfb
    cases fb with
    | true =>
      have hp0 := hid (NF.out rfl)
      go_enter Tryz.func68, Tryz.ntmps68
      go_wp2_with (go_at_call 92; refine CF.out.mono ?_; rintro e w1 ⟨rfl, rfl⟩)
      go_ret
      exact ⟨by rw [hp0.out]; rfl, Ext.refl _ _⟩
    | false =>
      by_cases hw : wordK s = 0
      · rw [hw] at CR
        have HW := hid hw
        have hh := NH.out rfl
        have HH := hid hh
        clear hh NW NF NH hw
        go_enter Tryz.func68, Tryz.ntmps68
        go_wp2_with (go_at_call 92; refine CF.out.mono ?_; rintro e w1 ⟨rfl, rfl⟩)
        refine CR.out.mono ?_
        rintro e w1 ⟨rfl, X1⟩
        have X1 := hid X1
        clear hix
        go_wp2_with fail
        go_loop [3] (fun z => ∃ (i : Nat), z = .int .i64 i ∧ i ≤ s.length ∧ Hid (∀ c ∈ s.take i, idB c = true)) (fun z => s.length - (RowKit.intOf z).toNat)
        case atStart => exact ⟨0, rfl, by omega, hid (by simp)⟩
        case round =>
          obtain ⟨i, rfl, hle, HA⟩ := hrel
          by_cases hi : i < s.length
          · have hix : ((⟨s.toArray⟩ : ByteArray)[i]'(by rw [bsize]; exact hi)).toNat = s[i].toNat := by
              show ((s.toArray)[i]'_).toNat = _
              simp
            have CL := hid (rletter_any s[i].toNat w1)
            have CG := hid (rfigure_any s[i].toNat w1)
            have hidb : idB s[i] = (letterB s[i].toNat || figB s[i].toNat) := rfl
            obtain ⟨lb, hlb⟩ : ∃ b, letterB s[i].toNat = b := ⟨_, rfl⟩
            obtain ⟨gb, hgb⟩ : ∃ b, figB s[i].toNat = b := ⟨_, rfl⟩
            rw [hlb] at CL hidb
            rw [hgb] at CG hidb
            have NO : Hid ((lb || gb) = false → p = false) := hid fun h => by rw [HP.out]; exact nameB_no hi (by rw [hidb, h])
            have NX : Hid ((lb || gb) = true → ∀ c ∈ s.take (i + 1), idB c = true) := hid fun h c hc => by
              rw [List.take_add_one, List.getElem?_eq_getElem hi] at hc
              simp only [Option.toList_some, List.mem_append, List.mem_singleton] at hc
              rcases hc with hc | rfl
              · exact HA.out c hc
              · rw [hidb, h]
            obtain ⟨y, hy⟩ : ∃ y, s[i].toNat = y := ⟨_, rfl⟩
            rw [hy] at hix CL CG
            clear hlb hgb hidb hy
            cases lb with
            | true =>
              have N := hid (NX.out rfl)
              clear NX NO
              go_wp2_with (go_at_call 94; refine CL.out.mono ?_; rintro e w1 ⟨rfl, rfl⟩)
              go_round
              case rel => exact ⟨i + 1, by go_num, by omega, N⟩
              case measure => simp [RowKit.intOf]; omega
            | false =>
              cases gb with
              | true =>
                have N := hid (NX.out rfl)
                clear NX NO
                go_wp2_with (first | (go_at_call 94; refine CL.out.mono ?_; rintro e w1 ⟨rfl, rfl⟩) | (go_at_call 92; refine CG.out.mono ?_; rintro e w1 ⟨rfl, rfl⟩))
                go_round
                case rel => exact ⟨i + 1, by go_num, by omega, N⟩
                case measure => simp [RowKit.intOf]; omega
              | false =>
                have hp0 := hid (NO.out rfl)
                clear NX NO
                go_wp2_with (first | (go_at_call 94; refine CL.out.mono ?_; rintro e w1 ⟨rfl, rfl⟩) | (go_at_call 92; refine CG.out.mono ?_; rintro e w1 ⟨rfl, rfl⟩))
                go_ret
                exact ⟨by rw [hp0.out]; rfl, X1.out⟩
          · have hpe : Hid (p = true) := hid (by
              rw [HP.out, nameB_end hs0 (fun c hc => HA.out c (by rw [List.take_of_length_le (by omega)]; exact hc)) HH.out, HW.out]
              rfl)
            obtain rfl : i = s.length := by omega
            go_wp2_with fail
            go_ret
            exact ⟨by rw [hpe.out]; rfl, X1.out⟩
      · have hp0 := hid (NW.out hw)
        obtain ⟨k, hk⟩ : ∃ k, wordK s = k := ⟨_, rfl⟩
        rw [hk] at CR hw
        have hk0 : ((k : Int) != 0) = true := by simp; omega
        clear NW NF NH hk hw
        go_enter Tryz.func68, Tryz.ntmps68
        go_wp2_with (go_at_call 92; refine CF.out.mono ?_; rintro e w1 ⟨rfl, rfl⟩)
        refine CR.out.mono ?_
        rintro e w1 ⟨rfl, X1⟩
        have X1 := hid X1
        go_wp2_with fail
        go_ret
        exact ⟨by rw [hp0.out]; rfl, X1.out⟩
end Go.Proofs.YtbhpmmofgdppdaaGreatDoor
