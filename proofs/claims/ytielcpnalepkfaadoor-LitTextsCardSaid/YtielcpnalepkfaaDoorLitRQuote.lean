import Derived.Test.YtielcpnalepkfaaDoorLitPart
import Derived.Test.YtielcpnalepkfaaDoorLitLawQuotes
namespace Go.Proofs.YtielcpnalepkfaaDoor
open Go.RowKit Go.Lib Go.BigFrame
theorem cut_run (s : List UInt8) (i j : Int) (a b : Nat) (hi : i = a) (hj : j = b) (hab : a ≤ b) (hb : b ≤ s.length) (W : World) : (Instr.slice 9 (.string ⟨s.toArray⟩) (some (.int .i64 i)) (some (.int .i64 j)) none).run Tryd.prog W = .ok (.string ⟨((s.drop a).take (b - a)).toArray⟩) W := by
  subst hi
  subst hj
  rw [run_slice_string W _ _ _ _ _ _ Tryd.underlying9 (by omega) (by omega) (by rw [bsize]; omega)]
  simp only [Int.toNat_natCast]
  rw [extract_eq]
theorem hexT_cut (q : Nat) (h : q < 16) : (hexT.drop q).take (q + 1 - q) = [hexd q] := by
  have : q = 0 ∨ q = 1 ∨ q = 2 ∨ q = 3 ∨ q = 4 ∨ q = 5 ∨ q = 6 ∨ q = 7 ∨ q = 8 ∨ q = 9 ∨ q = 10 ∨ q = 11 ∨ q = 12 ∨ q = 13 ∨ q = 14 ∨ q = 15 := by omega
  rcases this with rfl | rfl | rfl | rfl | rfl | rfl | rfl | rfl | rfl | rfl | rfl | rfl | rfl | rfl | rfl | rfl <;> rfl
theorem hex_run (q : Nat) (h : q < 16) (i j : Int) (hi : i = q) (hj : j = q + 1) (W : World) : (Instr.slice 9 (.string ⟨#[48, 49, 50, 51, 52, 53, 54, 55, 56, 57, 97, 98, 99, 100, 101, 102]⟩) (some (.int .i64 i)) (some (.int .i64 j)) none).run Tryd.prog W = .ok (.string ⟨[hexd q].toArray⟩) W := by
  have := cut_run hexT i j q (q + 1) hi (by rw [hj]; rfl) (by omega) (by show q + 1 ≤ 16; omega) W
  rw [hexT_cut q h] at this
  exact this
def quotesTo (s : List UInt8) (i : Nat) : List UInt8 := 34 :: (s.take i).flatMap quoteB
set_option maxRecDepth 100000 in
set_option maxHeartbeats 3200000 in
theorem rquote_any (s : List UInt8) (w : World) (hs : s.length ≤ 1000000) : Calls Tryd.prog 18 #[.string ⟨s.toArray⟩] w (StrPost (quoteP s) w) := by
  go_enter Tryd.func18, Tryd.ntmps18
  go_wp2_with fail
  go_loopw [3, 4] (fun o z wr => ∃ (i : Nat) (bs : List UInt8), z = .int .i64 (i : Nat) ∧ o = .string ⟨bs.toArray⟩ ∧ i ≤ s.length ∧ Hid (bs = quotesTo s i) ∧ Hid (Ext none' w wr)) (fun _ z _ => s.length - (RowKit.intOf z).toNat)
  case atStart => exact ⟨0, [34], rfl, rfl, by omega, hid rfl, hid (Ext.refl _ _)⟩
  case round =>
    obtain ⟨i, bs, rfl, rfl, hle, HB, HX⟩ := hrel
    have hbl : bs.length ≤ 4000001 := by
      have := quotes_len (s.take i)
      rw [List.length_take] at this
      rw [HB.out]; unfold quotesTo; rw [List.length_cons]; omega
    by_cases hil : i < s.length
    · have hi1 : ∀ W, (Instr.index 9 (.string ⟨s.toArray⟩) (.int .i64 (i : Nat))).run Tryd.prog W = .ok (.int .u8 ((s[i]'hil).toNat : Nat)) W := fun W => idx_run s i hil W
      have hfm := flatMap_take s i hil
      have hsl := fun W => cut_run s (i : Int) ((i : Int) + 1) i (i + 1) rfl (by omega) (by omega) (by omega) W
      have hcut : (s.drop i).take (i + 1 - i) = [s[i]'hil] := by
        rw [List.drop_eq_getElem_cons hil, show i + 1 - i = 1 by omega]; rfl
      rw [hcut] at hsl
      obtain ⟨c, hc⟩ : ∃ c, s[i]'hil = c := ⟨_, rfl⟩
      simp only [hc] at hi1 hsl
      rw [hc] at hfm
      have HN : Hid (bs ++ quoteB c = quotesTo s (i + 1)) := hid (by rw [HB.out]; unfold quotesTo; rw [hfm]; rfl)
      have hc255 : c.toNat ≤ 255 := by have := c.toNat_lt; omega
      clear hc hfm hcut
      by_cases m1 : c = 34
      · have n1 : ((c.toNat : Int) == 34) = true := by rw [m1]; rfl
        have hcat := str_cat bs [92, 34]
        have N : Hid (bs ++ [92, 34] = quotesTo s (i + 1)) := hid (by rw [← HN.out, m1]; rfl)
        clear hsl m1
        go_wp2_with fail
        go_roundw
        case rel => exact ⟨i + 1, bs ++ [92, 34], by go_num, by rfl, by omega, N, HX⟩
        case measure => simp [RowKit.intOf]; omega
      · have n1 : ((c.toNat : Int) == 34) = false := by have := u8n m1; simp at this ⊢; omega
        by_cases m2 : c = 92
        · have n2 : ((c.toNat : Int) == 92) = true := by rw [m2]; rfl
          have hcat := str_cat bs [92, 92]
          have N : Hid (bs ++ [92, 92] = quotesTo s (i + 1)) := hid (by rw [← HN.out, m2]; rfl)
          clear hsl m2
          go_wp2_with fail
          go_roundw
          case rel => exact ⟨i + 1, bs ++ [92, 92], by go_num, by rfl, by omega, N, HX⟩
          case measure => simp [RowKit.intOf]; omega
        · have n2 : ((c.toNat : Int) == 92) = false := by have := u8n m2; simp at this ⊢; omega
          by_cases m3 : c = 10
          · have n3 : ((c.toNat : Int) == 10) = true := by rw [m3]; rfl
            have hcat := str_cat bs [92, 110]
            have N : Hid (bs ++ [92, 110] = quotesTo s (i + 1)) := hid (by rw [← HN.out, m3]; rfl)
            clear hsl m3
            go_wp2_with fail
            go_roundw
            case rel => exact ⟨i + 1, bs ++ [92, 110], by go_num, by rfl, by omega, N, HX⟩
            case measure => simp [RowKit.intOf]; omega
          · have n3 : ((c.toNat : Int) == 10) = false := by have := u8n m3; simp at this ⊢; omega
            by_cases m4 : c = 9
            · have n4 : ((c.toNat : Int) == 9) = true := by rw [m4]; rfl
              have hcat := str_cat bs [92, 116]
              have N : Hid (bs ++ [92, 116] = quotesTo s (i + 1)) := hid (by rw [← HN.out, m4]; rfl)
              clear hsl m4
              go_wp2_with fail
              go_roundw
              case rel => exact ⟨i + 1, bs ++ [92, 116], by go_num, by rfl, by omega, N, HX⟩
              case measure => simp [RowKit.intOf]; omega
            · have n4 : ((c.toNat : Int) == 9) = false := by have := u8n m4; simp at this ⊢; omega
              by_cases hp : 32 ≤ c.toNat ∧ c.toNat ≤ 126
              · have hcat := str_cat bs [c]
                have N : Hid (bs ++ [c] = quotesTo s (i + 1)) := hid (by rw [← HN.out]; unfold quoteB; rw [if_neg (by simp [m1, m2]), if_neg m3, if_neg m4, if_pos hp])
                obtain ⟨p1, p2⟩ := hp
                obtain ⟨y, hy⟩ : ∃ y : List UInt8, y = [c] := ⟨_, rfl⟩
                have hyl : y.length = 1 := by rw [hy]; rfl
                rw [← hy] at hcat N
                simp only [← hy] at hsl
                clear m1 m2 m3 m4 hy HN
                go_wp2_with fail
                go_roundw
                case rel => exact ⟨i + 1, bs ++ y, by go_num, by rfl, by omega, N, HX⟩
                case measure => simp [RowKit.intOf]; omega
              · have hpp : c.toNat < 32 ∨ (32 ≤ c.toNat ∧ 126 < c.toNat) := by omega
                have hx1 := fun W => hex_run (c.toNat / 16) (by omega) ((c.toNat : Int) / 16) ((c.toNat : Int) / 16 + 1) (by omega) (by omega) W
                have hx2 := fun W => hex_run (c.toNat % 16) (by omega) ((c.toNat : Int) % 16) ((c.toNat : Int) % 16 + 1) (by omega) (by omega) W
                have hc1 := str_cat [92, 120] [hexd (c.toNat / 16)]
                have hc2 := str_cat ([92, 120] ++ [hexd (c.toNat / 16)]) [hexd (c.toNat % 16)]
                have hc3 := str_cat bs (([92, 120] ++ [hexd (c.toNat / 16)]) ++ [hexd (c.toNat % 16)])
                have N : Hid (bs ++ (([92, 120] ++ [hexd (c.toNat / 16)]) ++ [hexd (c.toNat % 16)]) = quotesTo s (i + 1)) := hid (by rw [← HN.out]; unfold quoteB; rw [if_neg (by simp [m1, m2]), if_neg m3, if_neg m4, if_neg hp]; rfl)
                obtain ⟨x1, hy1⟩ : ∃ x : List UInt8, x = [hexd (c.toNat / 16)] := ⟨_, rfl⟩
                obtain ⟨x2, hy2⟩ : ∃ x : List UInt8, x = [hexd (c.toNat % 16)] := ⟨_, rfl⟩
                have hl1 : x1.length = 1 := by rw [hy1]; rfl
                have hl2 : x2.length = 1 := by rw [hy2]; rfl
                rw [← hy1] at hc1 hc2 hc3 N
                rw [← hy2] at hc2 hc3 N
                simp only [← hy1] at hx1
                simp only [← hy2] at hx2
                obtain ⟨x3, hy3⟩ : ∃ x : List UInt8, x = [92, 120] ++ x1 := ⟨_, rfl⟩
                have hl3 : x3.length = 3 := by rw [hy3, List.length_append, hl1]; rfl
                rw [← hy3] at hc1 hc2 hc3 N
                obtain ⟨x4, hy4⟩ : ∃ x : List UInt8, x = x3 ++ x2 := ⟨_, rfl⟩
                have hl4 : x4.length = 4 := by rw [hy4, List.length_append, hl3, hl2]
                rw [← hy4] at hc2 hc3 N
                clear hp m1 m2 m3 m4 hy1 hy2 hy3 hy4 HN hsl
                rcases hpp with p1 | ⟨p1, p2⟩
                all_goals
                  go_wp2_with fail
                  refine region_in none' wr [0, 1, 2, 3, 4, 5, 6, 7, 8, 9, 10, 11, 12, 13, 14, 15, 16] [] (by kernel_rfl) (by kernel_rfl) (fun dst v c a w h => by cases dst <;> exact h) (Ext.refl _ _) ?_
                  simp only [sel, List.getElem?_cons_succ, List.getElem?_cons_zero]
                  repeat (go_big_quiet_step (fail))
                  refine wpQuiet_nil ?_
                  simp only [wpChain]
                  go_wp2_with fail
                  go_roundw
                  case rel => exact ⟨i + 1, bs ++ x4, by go_num, by rfl, by omega, N, by first | exact HX | exact hid HX.out.drew⟩
                  case measure => simp [RowKit.intOf]; omega
    · obtain rfl : i = s.length := by omega
      have hcat := str_cat bs [34]
      have e : Hid (bs ++ [34] = quoteP s) := hid (by rw [HB.out]; unfold quotesTo quoteP; rw [List.take_length]; rfl)
      clear HB
      go_wp2_with fail
      go_ret
      rw [← e.out]
      exact ⟨rfl, HX.out⟩
end Go.Proofs.YtielcpnalepkfaaDoor
