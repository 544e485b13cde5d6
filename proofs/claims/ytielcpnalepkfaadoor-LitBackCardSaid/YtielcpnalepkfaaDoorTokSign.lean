import Derived.Test.YtielcpnalepkfaaDoorTokQuoted2
import Derived.Test.YtielcpnalepkfaaDoorTokSigns
namespace Go.Proofs.YtielcpnalepkfaaDoor
open Go.RowKit Go.Lib Go.BigFrame
def rowV (l : List UInt8) : Value := .string ⟨l.toArray⟩
def SignsPost (w : World) (e : Ending) (w' : World) : Prop := e = .returned (.agg #[rowV row3, rowV row2, rowV row1]) ∧ Ext none' w w'
theorem signs_any (w : World) : Calls Tryd.prog 78 #[] w (SignsPost w) := by
  go_enter Tryd.func78, Tryd.ntmps78
  go_wp2
  exact bodyPost_ret (v := .agg #[rowV row3, rowV row2, rowV row1]) (by simp [results, Tryd.results78, go_sem]; exact ⟨rfl, rfl, rfl⟩) rfl ⟨rfl, ((Ext.refl _ _).alloc _)⟩
theorem extract0 (r : List UInt8) (n : Nat) : (⟨r.toArray⟩ : ByteArray).extract 0 n = ⟨(r.take n).toArray⟩ := by rw [extract_eq]; rfl
theorem len3 : ∀ t ∈ signs3, t.length = 3 := by decide
theorem len2 : ∀ t ∈ signs2, t.length = 2 := by decide
/-- What 'sign' leaves. -/
def SgPost (base sb : Nat) (s : List UInt8) (k : Nat) (l n : List Tok) (w : World) (m : Nat) (e : Ending) (w' : World) : Prop :=
  match m with
  | 0 => e = .panicked [{ v := gave k, recovered := false }] ∧ Ext (up base) w w'
  | m + 1 => StPost base sb s (k + (m + 1)) (l ++ [⟨6, (s.drop k).take (m + 1), k⟩]) n w e w'
set_option maxHeartbeats 1600000 in
theorem sign_any (base sb k : Nat) (s : List UInt8) (l n : List Tok) (w : World) (st : St base sb w s k l n) (hk : k < s.length) (hs : s.length ≤ 1000000) (hl : l.length ≤ 900000) (hm : MaxL w) :
    Calls Tryd.prog 67 #[.pointer (some ⟨sb, 0, none⟩)] w (SgPost base sb s k l n w (signP (s.drop k))) := by
  obtain ⟨r, hr⟩ : ∃ r, r = s.drop k := ⟨_, rfl⟩
  have hrl : r.length ≤ 1000000 := by rw [hr, List.length_drop]; omega
  have hr1 : 1 ≤ r.length := by rw [hr, List.length_drop]; omega
  have HRL : Hid (r.length = s.length - k) := hid (by rw [hr, List.length_drop])
  rw [← hr]
  obtain ⟨p, hp⟩ : ∃ p, p = signP r := ⟨_, rfl⟩
  rw [← hp]
  have HR := hid hr
  have HP := hid hp
  clear hr hp
  have ST := hid st
  obtain ⟨vl, vn, hh, rl, rn, hne, hb⟩ := st
  have c0 : ∀ t : LaterF none' w, t.w.cell? ⟨sb, 0, none⟩ = some (.string ⟨s.toArray⟩) := fun t => by
    rw [cell_at (t.x.heap hh (fun h => h))]; rfl
  have c1 : ∀ t : LaterF none' w, t.w.cell? ⟨sb, 1, none⟩ = some (.int .i64 k) := fun t => by
    rw [cell_at (t.x.heap hh (fun h => h))]; rfl
  have HH := hid hh
  have RL := hid rl
  have RN := hid rn
  have HM := hid hm
  have CC := fun (hay t : List UInt8) w' (h : MaxL w') (hl : hay.length < 4294967281) => (let ⟨m, hm⟩ := h.2; Tryd.strings_Contains ⟨hay.toArray⟩ ⟨t.toArray⟩ m w' (by rw [bsize]; exact hl) hm)
  have HC := hid CC
  clear hh rl rn hm CC
  go_enter Tryd.func67, Tryd.ntmps67
  go_wp2_with fail
  refine region_in none' w [0, 1, 2, 3, 4, 5, 6, 7, 8, 9] [] (by kernel_rfl) (by kernel_rfl) (fun dst v c a w h => by cases dst <;> exact h) (Ext.refl _ _) ?_
  simp only [sel, List.getElem?_cons_succ, List.getElem?_cons_zero]
  repeat (go_big_quiet_step (fail))
  refine wpQuiet_nil ?_
  simp only [wpChain]
  rw [extract_eq s k s.length]
  have hrt : (s.drop k).take (s.length - k) = r := by rw [HR.out, List.take_of_length_le (by rw [List.length_drop]; omega)]
  rw [hrt]
  clear hrt
  go_wp2_with fail
  refine (signs_any _).mono ?_
  rintro e w1 ⟨rfl, X1'⟩
  have X1 : Ext none' w w1 := (Ext.refl _ _).drew.trans X1'
  go_wp2_with fail
  go_loopw [16, 3, 4, 5] (fun z _ _ _ wr => ∃ i : Nat, i ≤ 3 ∧ z = .int .i64 i ∧ wr = w1 ∧ Hid (1 ≤ i → r.take 3 ∉ signs3) ∧ Hid (2 ≤ i → r.take 2 ∉ signs2) ∧ Hid (3 ≤ i → r.take 1 ∉ signs1)) (fun z _ _ _ _ => 3 - (RowKit.intOf z).toNat)
  case atStart => exact ⟨0, by omega, rfl, rfl, hid (by omega), hid (by omega), hid (by omega)⟩
  case round =>
    obtain ⟨i, hi, rfl, rfl, N3, N2, N1⟩ := hrel
    have hi4 : i = 0 ∨ i = 1 ∨ i = 2 ∨ i = 3 := by omega
    have HX1 := hid X1
    have d0 := c0 ⟨_, X1⟩
    have d1 := c1 ⟨_, X1⟩
    have f1 := free_at (X1.heap HH.out (fun h => h)) 1
    simp only at d0 d1
    have i0 : ∀ w, (Instr.index 100 (.agg #[rowV row3, rowV row2, rowV row1]) (.int .i64 0)).run Tryd.prog w = .ok (.string ⟨row3.toArray⟩) w := fun _ => by kernel_rfl
    have i1 : ∀ w, (Instr.index 100 (.agg #[rowV row3, rowV row2, rowV row1]) (.int .i64 1)).run Tryd.prog w = .ok (.string ⟨row2.toArray⟩) w := fun _ => by kernel_rfl
    have i2 : ∀ w, (Instr.index 100 (.agg #[rowV row3, rowV row2, rowV row1]) (.int .i64 2)).run Tryd.prog w = .ok (.string ⟨row1.toArray⟩) w := fun _ => by kernel_rfl
    clear c0 c1 X1 X1' hi
    rcases hi4 with rfl | rfl | rfl | rfl
    · by_cases hl : 3 ≤ r.length
      · have ct := sign3_in (r.take 3) (by rw [List.length_take]; omega)
        by_cases hin : r.take 3 ∈ signs3
        · have HCT : Hid (Lib.contains (32 :: (row3 ++ [32])) (32 :: (r.take 3 ++ [32])) = true) := hid (by rw [ct]; simpa using hin)
          have HPP : Hid (p = 3) := hid (by rw [HP.out]; unfold signP; rw [if_pos ⟨hl, hin⟩])
          clear ct hin
          go_wp2_with fail
          rw [extract0, cat_eq, cat_eq]
          refine (HC.out _ _ wr (HM.out.ext HX1.out (fun h => h)) (by decide)).mono ?_
          rintro e w2 ⟨rfl, rfl⟩
          have fin := St.go HH.out hb RL.out RN.out hne HX1.out (k + 3) (z := k + 3) (by push_cast; rfl)
          have CA := hid (add_any base sb 6 k (k + 3) s l n _ fin.1 (by omega) (by have := HRL.out; omega) (by omega))
          have FX := hid fin.2
          rw [HCT.out]
          clear fin
          go_wp2_with fail
          refine CA.out.mono ?_
          rintro e w3 ⟨rfl, st1, x1⟩
          have S1 := hid st1
          have Y1 := hid (FX.out.trans x1)
          clear st1 x1
          go_wp2_with fail
          rw [HPP.out]
          refine bodyPost_ret (results_none rfl _ _ _) rfl ⟨rfl, ?_, Y1.out⟩
          have e1 : k + 3 - k = 3 := by omega
          have := S1.out
          rw [e1] at this
          exact this
        · have HCT : Hid (Lib.contains (32 :: (row3 ++ [32])) (32 :: (r.take 3 ++ [32])) = false) := hid (by rw [ct]; simpa using hin)
          have HIN := hid hin
          clear ct hin
          go_wp2_with fail
          rw [extract0, cat_eq, cat_eq]
          refine (HC.out _ _ wr (HM.out.ext HX1.out (fun h => h)) (by decide)).mono ?_
          rintro e w2 ⟨rfl, rfl⟩
          rw [HCT.out]
          go_wp2_with fail
          go_roundw
          case rel => exact ⟨1, by omega, rfl, trivial, hid (fun _ => HIN.out), hid (by omega), hid (by omega)⟩
          case measure => simp [RowKit.intOf]
      · have HIN : Hid (r.take 3 ∉ signs3) := hid (fun h => by have := len3 _ h; rw [List.length_take] at this; omega)
        go_wp2_with fail
        go_roundw
        case rel => exact ⟨1, by omega, rfl, trivial, hid (fun _ => HIN.out), hid (by omega), hid (by omega)⟩
        case measure => simp [RowKit.intOf]
    · by_cases hl : 2 ≤ r.length
      · have ct := sign2_in (r.take 2) (by rw [List.length_take]; omega)
        by_cases hin : r.take 2 ∈ signs2
        · have HCT : Hid (Lib.contains (32 :: (row2 ++ [32])) (32 :: (r.take 2 ++ [32])) = true) := hid (by rw [ct]; simpa using hin)
          have HPP : Hid (p = 2) := hid (by rw [HP.out]; unfold signP; rw [if_neg (fun h => N3.out (by omega) h.2), if_pos ⟨hl, hin⟩])
          clear ct hin
          go_wp2_with fail
          rw [extract0, cat_eq, cat_eq]
          refine (HC.out _ _ wr (HM.out.ext HX1.out (fun h => h)) (by decide)).mono ?_
          rintro e w2 ⟨rfl, rfl⟩
          have fin := St.go HH.out hb RL.out RN.out hne HX1.out (k + 2) (z := k + 2) (by push_cast; rfl)
          have CA := hid (add_any base sb 6 k (k + 2) s l n _ fin.1 (by omega) (by have := HRL.out; omega) (by omega))
          have FX := hid fin.2
          rw [HCT.out]
          clear fin
          go_wp2_with fail
          refine CA.out.mono ?_
          rintro e w3 ⟨rfl, st1, x1⟩
          have S1 := hid st1
          have Y1 := hid (FX.out.trans x1)
          clear st1 x1
          go_wp2_with fail
          rw [HPP.out]
          refine bodyPost_ret (results_none rfl _ _ _) rfl ⟨rfl, ?_, Y1.out⟩
          have e1 : k + 2 - k = 2 := by omega
          have := S1.out
          rw [e1] at this
          exact this
        · have HCT : Hid (Lib.contains (32 :: (row2 ++ [32])) (32 :: (r.take 2 ++ [32])) = false) := hid (by rw [ct]; simpa using hin)
          have HIN := hid hin
          clear ct hin
          go_wp2_with fail
          rw [extract0, cat_eq, cat_eq]
          refine (HC.out _ _ wr (HM.out.ext HX1.out (fun h => h)) (by decide)).mono ?_
          rintro e w2 ⟨rfl, rfl⟩
          rw [HCT.out]
          go_wp2_with fail
          go_roundw
          case rel => exact ⟨2, by omega, rfl, trivial, hid (fun _ => N3.out (by omega)), hid (fun _ => HIN.out), hid (by omega)⟩
          case measure => simp [RowKit.intOf]
      · have HIN : Hid (r.take 2 ∉ signs2) := hid (fun h => by have := len2 _ h; rw [List.length_take] at this; omega)
        go_wp2_with fail
        go_roundw
        case rel => exact ⟨2, by omega, rfl, trivial, hid (fun _ => N3.out (by omega)), hid (fun _ => HIN.out), hid (by omega)⟩
        case measure => simp [RowKit.intOf]
    · by_cases hl : 1 ≤ r.length
      · have ct := sign1_in (r.take 1) (by rw [List.length_take]; omega)
        by_cases hin : r.take 1 ∈ signs1
        · have HCT : Hid (Lib.contains (32 :: (row1 ++ [32])) (32 :: (r.take 1 ++ [32])) = true) := hid (by rw [ct]; simpa using hin)
          have HPP : Hid (p = 1) := hid (by rw [HP.out]; unfold signP; rw [if_neg (fun h => N3.out (by omega) h.2), if_neg (fun h => N2.out (by omega) h.2), if_pos hin])
          clear ct hin
          go_wp2_with fail
          rw [extract0, cat_eq, cat_eq]
          refine (HC.out _ _ wr (HM.out.ext HX1.out (fun h => h)) (by decide)).mono ?_
          rintro e w2 ⟨rfl, rfl⟩
          have fin := St.go HH.out hb RL.out RN.out hne HX1.out (k + 1) (z := k + 1) (by push_cast; rfl)
          have CA := hid (add_any base sb 6 k (k + 1) s l n _ fin.1 (by omega) (by have := HRL.out; omega) (by omega))
          have FX := hid fin.2
          rw [HCT.out]
          clear fin
          go_wp2_with fail
          refine CA.out.mono ?_
          rintro e w3 ⟨rfl, st1, x1⟩
          have S1 := hid st1
          have Y1 := hid (FX.out.trans x1)
          clear st1 x1
          go_wp2_with fail
          rw [HPP.out]
          refine bodyPost_ret (results_none rfl _ _ _) rfl ⟨rfl, ?_, Y1.out⟩
          have e1 : k + 1 - k = 1 := by omega
          have := S1.out
          rw [e1] at this
          exact this
        · have HCT : Hid (Lib.contains (32 :: (row1 ++ [32])) (32 :: (r.take 1 ++ [32])) = false) := hid (by rw [ct]; simpa using hin)
          have HIN := hid hin
          clear ct hin
          go_wp2_with fail
          rw [extract0, cat_eq, cat_eq]
          refine (HC.out _ _ wr (HM.out.ext HX1.out (fun h => h)) (by decide)).mono ?_
          rintro e w2 ⟨rfl, rfl⟩
          rw [HCT.out]
          go_wp2_with fail
          go_roundw
          case rel => exact ⟨3, by omega, rfl, trivial, hid (fun _ => N3.out (by omega)), hid (fun _ => N2.out (by omega)), hid (fun _ => HIN.out)⟩
          case measure => simp [RowKit.intOf]
      · exact absurd hr1 hl
    · have HPP : Hid (p = 0) := hid (by rw [HP.out]; unfold signP; rw [if_neg (fun h => N3.out (by omega) h.2), if_neg (fun h => N2.out (by omega) h.2), if_neg (fun h => N1.out (by omega) h)])
      go_wp2_with (go_at_call 76; refine (need_no _ k _).mono ?_; rintro e w1 ⟨rfl, rfl⟩)
      rw [HPP.out]
      exact ⟨rfl, ⟨rfl, HX1.out.mono fun i _ h => h.elim⟩⟩
end Go.Proofs.YtielcpnalepkfaaDoor
