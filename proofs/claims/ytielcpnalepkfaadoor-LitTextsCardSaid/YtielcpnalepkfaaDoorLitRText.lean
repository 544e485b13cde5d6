import Derived.Test.YtielcpnalepkfaaDoorLitRPart
import Derived.Test.YtielcpnalepkfaaDoorLitText
import Derived.Test.YtielcpnalepkfaaDoorLitRNum
namespace Go.Proofs.YtielcpnalepkfaaDoor
open Go.RowKit Go.Lib Go.BigFrame
/-! ### plain: what stands between two signs, by the sign -/
def tick (s : List UInt8) : Option (List UInt8) := if 96 ∈ s then none else some (s.filter (· != 13))
def genP (c : UInt8) (s : List UInt8) : Option (List UInt8) := if c = 34 then unq s else tick s
def resP (os : List UInt8) : Option (List UInt8) → List UInt8 × Nat
  | none => ([], 4)
  | some o => (os ++ o, 0)
theorem tick_cons (d : UInt8) (t : List UInt8) : tick (d :: t) = if d = 96 then none else if d = 13 then tick t else (tick t).map (d :: ·) := by
  unfold tick
  by_cases h : d = 96
  · subst h; simp
  · have hm : (96 ∈ d :: t) ↔ 96 ∈ t := by simp [Ne.symm h]
    rw [if_neg h]
    by_cases ht : 96 ∈ t
    · rw [if_pos (hm.2 ht), if_pos ht]; split <;> rfl
    · rw [if_neg (fun x => ht (hm.1 x)), if_neg ht]
      by_cases h3 : d = 13
      · subst h3; simp
      · simp [h3]
theorem gen_nil (c : UInt8) : genP c [] = some [] := by unfold genP; split <;> rfl
theorem gen_same {c : UInt8} (h : c = 34 ∨ c = 96) (t : List UInt8) : genP c (c :: t) = none := by
  rcases h with rfl | rfl
  · show unq _ = none
    rw [unq_cons, if_neg (by decide), if_pos (.inl rfl)]
  · show (if (96 : UInt8) = 34 then unq (96 :: t) else tick (96 :: t)) = none
    rw [if_neg (by decide), tick_cons, if_pos rfl]
theorem gen_ten (t : List UInt8) : genP 34 (10 :: t) = none := by
  show unq _ = none
  rw [unq_cons, if_neg (by decide), if_pos (.inr rfl)]
theorem gen_back (t : List UInt8) : genP 34 (92 :: t) = match partP t with
      | none => none
      | some (o, n) => (genP 34 (t.drop n)).map (o ++ ·) := by
  show unq _ = _
  rw [unq_cons, if_pos rfl]
  rfl
theorem gen_cr (t : List UInt8) : genP 96 (13 :: t) = genP 96 t := by
  unfold genP
  rw [if_neg (by decide), if_neg (by decide), tick_cons, if_neg (by decide), if_pos rfl]
theorem gen_other {c d : UInt8} (hc : c = 34 ∨ c = 96) (h1 : d ≠ c) (h2 : c = 34 → d ≠ 10 ∧ d ≠ 92) (h3 : c = 96 → d ≠ 13) (t : List UInt8) : genP c (d :: t) = (genP c t).map (d :: ·) := by
  rcases hc with rfl | rfl
  · show unq _ = _
    rw [unq_cons, if_neg (h2 rfl).2, if_neg (by rintro (h | h); exact h1 h; exact (h2 rfl).1 h)]
    rfl
  · unfold genP
    rw [if_neg (by decide), if_neg (by decide), tick_cons, if_neg h1, if_neg (h3 rfl)]
theorem res_map (os o : List UInt8) (r : Option (List UInt8)) : resP os (r.map (o ++ ·)) = resP (os ++ o) r := by
  cases r <;> simp [resP]
theorem res_map1 (os : List UInt8) (d : UInt8) (r : Option (List UInt8)) : resP os (r.map (d :: ·)) = resP (os ++ [d]) r := by
  cases r <;> simp [resP]
theorem text_gen (s : List UInt8) (h : s.length ≤ 65536) : textP s = if 2 ≤ s.length ∧ s.head? = s.getLast? ∧ wrongP s < 0 then (if s.head? = some 34 then resP [] (genP 34 (innerP s)) else if s.head? = some 96 then resP [] (genP 96 (innerP s)) else ([], 4)) else ([], 4) := by
  have g1 : genP 34 (innerP s) = unq (innerP s) := rfl
  have g2 : genP 96 (innerP s) = tick (innerP s) := if_neg (by decide)
  have r1 : (match unq (innerP s) with
        | none => ([], 4)
        | some o => (o, 0)) = resP [] (unq (innerP s)) := by cases unq (innerP s) <;> rfl
  have r2 : (if 96 ∈ innerP s then ([], 4) else ((innerP s).filter (· != 13), 0)) = resP [] (tick (innerP s)) := by
    unfold tick
    by_cases hm : 96 ∈ innerP s
    · rw [if_pos hm, if_pos hm]; rfl
    · rw [if_neg hm, if_neg hm]; rfl
  rw [g1, g2, ← r1, ← r2]
  unfold textP
  rw [if_neg (by omega)]
  rfl
/-- What the reference's loop over the inside keeps. -/
structure RtRel (q : List UInt8) (c : UInt8) (p : List UInt8 × Nat) (w wr : World) (v : Value) (i : Nat) (os : List UInt8) : Prop where
  row : wr.ownsRow w.heap.size 5 1 v os.length (byteVals os)
  hx : Ext none' w wr
  len : os.length ≤ 4 * i
  le : i ≤ q.length
  res : p = resP os (genP c (q.drop i))
set_option maxRecDepth 100000 in
set_option maxHeartbeats 3200000 in
theorem rtext_any (s : List UInt8) (w : World) (hs : s.length ≤ 1000000) : Calls Tryd.prog 16 #[.string ⟨s.toArray⟩] w (NumPost (textP s) w) := by
  obtain ⟨p, hp⟩ : ∃ p, p = textP s := ⟨_, rfl⟩
  rw [← hp]
  have HP := hid hp
  clear hp
  by_cases hlong : 65536 < s.length
  · have e : Hid (p = ([], 12)) := hid (by rw [HP.out]; unfold textP; rw [if_pos hlong])
    go_enter Tryd.func16, Tryd.ntmps16
    go_wp2_with fail
    go_ret2
    rw [e.out]
    exact ⟨rfl, Ext.refl _ _⟩
  · have hs2 : s.length ≤ 65536 := by omega
    have HP1 := hid (HP.out.trans (text_gen s hs2))
    clear hlong HP
    by_cases h2 : 2 ≤ s.length
    · have hdl : decide ((s.length : Int) < 2) = false := by simp; omega
      have hi0 : ∀ W, (Instr.index 9 (.string ⟨s.toArray⟩) (.int .i64 0)).run Tryd.prog W = .ok (.int .u8 ((s[0]'(by omega)).toNat : Nat)) W := fun W => idx_run s 0 (by omega) W
      have hi1 : ∀ W, (Instr.index 9 (.string ⟨s.toArray⟩) (.int .i64 ((s.length : Int) - 1))).run Tryd.prog W = .ok (.int .u8 ((s[s.length - 1]'(by omega)).toNat : Nat)) W := fun W => by
        rw [show (s.length : Int) - 1 = ((s.length - 1 : Nat) : Int) by omega]; exact idx_run s (s.length - 1) (by omega) W
      have hh : s.head? = some (s[0]'(by omega)) := by rw [List.head?_eq_getElem?, List.getElem?_eq_getElem (by omega)]
      have hl : s.getLast? = some (s[s.length - 1]'(by omega)) := by rw [List.getLast?_eq_getElem?, List.getElem?_eq_getElem (by omega)]
      obtain ⟨c, hc⟩ : ∃ c, s[0]'(by omega) = c := ⟨_, rfl⟩
      obtain ⟨d, hd⟩ : ∃ d, s[s.length - 1]'(by omega) = d := ⟨_, rfl⟩
      rw [hc] at hh
      rw [hd] at hl
      simp only [hc] at hi0
      simp only [hd] at hi1
      have HH := hid hh
      have HL := hid hl
      clear hh hl hc hd
      by_cases hcd : c = d
      · subst hcd
        have hcc : ((c.toNat : Int) == (c.toNat : Int)) = true := by simp
        have HP2 : Hid (p = if wrongP s < 0 then (if c = 34 then resP [] (genP 34 (innerP s)) else if c = 96 then resP [] (genP 96 (innerP s)) else ([], 4)) else ([], 4)) := hid (by
          rw [HP1.out, HH.out, HL.out]
          by_cases hw : wrongP s < 0
          · rw [if_pos ⟨h2, rfl, hw⟩, if_pos hw]; simp only [Option.some.injEq]
          · rw [if_neg (fun h => hw h.2.2), if_neg hw])
        by_cases hq : c = 34 ∨ c = 96
        · have HQ := hid hq
          obtain ⟨wq, hwq⟩ : ∃ wq, wrongP s = wq := ⟨_, rfl⟩
          have HP3 : Hid (p = if wq < 0 then resP [] (genP c (innerP s)) else ([], 4)) := hid (by
            rw [HP2.out, hwq]
            rcases hq with rfl | rfl
            · rw [if_pos rfl]
            · rw [if_neg (show ¬ (96 : UInt8) = 34 by decide), if_pos rfl])
          obtain ⟨W2, cap, hcv, hby, hxc⟩ := conv_str w.drew s hs
          have XC := hid ((Ext.refl none' w).drew.trans hxc)
          have CW := ref_wrong _ s _ W2 hby hs
          rw [hwq] at CW
          have CW := hid CW
          have hk : (((c.toNat : Int) != 34) = false) ∨ (((c.toNat : Int) != 34) = true ∧ ((c.toNat : Int) != 96) = false) := by
            rcases hq with rfl | rfl
            · left; decide
            · right; decide
          clear hby hxc hwq hq HP1 HP2
          by_cases hw : wq < 0
          · have hw1 : decide (0 ≤ wq) = false := by simp; omega
            have HP4 := hid (HP3.out.trans (if_pos hw))
            have HIN : Hid ((⟨s.toArray⟩ : ByteArray).extract 1 (s.length - 1) = ⟨(innerP s).toArray⟩) := hid (by rw [extract_eq]; rfl)
            have hil : (innerP s).length ≤ 65536 := by unfold innerP; rw [List.length_take]; omega
            obtain ⟨q, hq⟩ : ∃ q, innerP s = q := ⟨_, rfl⟩
            rw [hq] at HIN HP4 hil
            have hsl : ∀ W, (Instr.slice 9 (.string ⟨s.toArray⟩) (some (.int .i64 1)) (some (.int .i64 ((s.length : Int) - 1))) none).run Tryd.prog W = .ok (.string ⟨q.toArray⟩) W := fun W => by
              rw [← HIN.out, show (s.length : Int) - 1 = ((s.length - 1 : Nat) : Int) by omega, run_slice_string_if _ _ _ _ _ _ _ Tryd.underlying9, if_pos ⟨by omega, by rw [bsize]; omega⟩, if_pos ⟨by omega, by omega⟩]
              rfl
            clear HP3 hq
            obtain ⟨i0, hi, hz0, hz1, hz2⟩ : ∃ i0, Tryd.prog.info? 5 = some i0 ∧ i0.zero = some (.int .u8 0) ∧ i0.size = 1 ∧ i0.bytes = 1 := ⟨_, rfl, rfl, rfl, rfl⟩
            have I0 := hid hi
            have I1 := hid hz0
            have I2 := hid hz1
            have I3 := hid hz2
            clear hi hz0 hz1 hz2
            rcases HQ.out with rfl | rfl
            · clear hk
              go_enter Tryd.func16, Tryd.ntmps16
              go_wp2_with fail
              refine region_in3 none' w [0, 1, 2, 3, 4, 5, 6, 7, 8, 9, 10, 11, 12, 13, 14, 15, 16, 17, 18, 19, 20, 21, 22, 23, 24] [25, 26] [27, 28] (by kernel_rfl) (by kernel_rfl) (fun dst v c a w h => by cases dst <;> exact h) (Ext.refl _ _) ?_
              simp only [sel, List.getElem?_cons_succ, List.getElem?_cons_zero]
              repeat (go_big_quiet_step (fail))
              refine wpQuiet_nil ?_
              simp only [wpChainK, sel, List.getElem?_cons_succ, List.getElem?_cons_zero]
              go_wp2_with fail
              refine ⟨In.of XC.out, ?_⟩
              go_wp2_with fail
              refine CW.out.mono ?_
              rintro e' W3 ⟨rfl, rfl⟩
              go_wp2_with fail
              refine ⟨In.of XC.out, ?_⟩
              repeat (go_big_quiet_step (fail))
              refine wpQuiet_nil ?_
              go_wp2_with fail
              go_loopw [4, 6] (fun v z wr => ∃ (i : Nat) (os : List UInt8), z = .int .i64 (i : Nat) ∧ i ≤ q.length ∧ Hid (RtRel q 34 p W2 wr v i os)) (fun _ z _ => q.length - (RowKit.intOf z).toNat)
              case atStart => exact ⟨0, [], rfl, by omega, hid ⟨World.ownsRow_nil _ _ _ _, Ext.refl _ _, by simp, by omega, HP4.out⟩⟩
              case round =>
                obtain ⟨i, os, rfl, hle, R⟩ := hrel
                by_cases hil2 : i < q.length
                · have hi2 : ∀ W, (Instr.index 9 (.string ⟨q.toArray⟩) (.int .i64 (i : Nat))).run Tryd.prog W = .ok (.int .u8 ((q[i]'hil2).toNat : Nat)) W := fun W => idx_run q i hil2 W
                  have hdr : q.drop i = q[i] :: q.drop (i + 1) := List.drop_eq_getElem_cons hil2
                  obtain ⟨d, hd⟩ : ∃ d, q[i]'hil2 = d := ⟨_, rfl⟩
                  simp only [hd] at hi2
                  rw [hd] at hdr
                  have hres := R.out.res
                  rw [hdr] at hres
                  have HX := hid R.out.hx
                  have hol : os.length ≤ 300000 := by have := R.out.len; omega
                  have O1 := hid R.out.row
                  have LN := hid R.out.len
                  have HRES := hid hres
                  clear hd hdr hres R
                  by_cases m1 : d = 34
                  · have e : Hid (p = ([], 4)) := hid (by rw [HRES.out, m1, gen_same (by decide)]; rfl)
                    subst m1
                    clear HRES
                    go_wp2_with fail
                    go_ret2
                    rw [e.out]
                    exact ⟨rfl, XC.out.trans HX.out⟩
                  · have n1 : ((d.toNat : Int) == 34) = false := u8notL m1
                    by_cases m2 : d = 10
                    · have e : Hid (p = ([], 4)) := hid (by rw [HRES.out, m2, gen_ten]; rfl)
                      subst m2
                      clear HRES
                      go_wp2_with fail
                      go_ret2
                      rw [e.out]
                      exact ⟨rfl, XC.out.trans HX.out⟩
                    · have n2 : ((d.toNat : Int) == 10) = false := u8notL m2
                      by_cases m3 : d = 92
                      · have hres := HRES.out
                        rw [m3, gen_back] at hres
                        have CP := rpart_any q (i + 1) wr (by omega) (by omega)
                        have PL := hid (fun o n (h : partP (q.drop (i + 1)) = some (o, n)) => partP_le h)
                        have PO := hid (fun o n (h : partP (q.drop (i + 1)) = some (o, n)) => partP_out h)
                        obtain ⟨pp, hpp⟩ : ∃ pp, partP (q.drop (i + 1)) = pp := ⟨_, rfl⟩
                        rw [hpp] at hres CP PL PO
                        have HRES := hid hres
                        have n3 : ((d.toNat : Int) == 92) = true := u8isL m3
                        have CP := hid CP
                        clear hres hpp m3 m1 m2
                        go_wp2_with fail
                        refine CP.out.mono ?_
                        intro e' w3 hpost
                        cases pp with
                        | none =>
                          obtain ⟨rfl, X3⟩ := hpost
                          have e : Hid (p = ([], 4)) := hid HRES.out
                          have X3 := hid (HX.out.trans X3)
                          clear HRES
                          go_wp2_with fail
                          go_ret2
                          rw [e.out]
                          exact ⟨rfl, XC.out.trans X3.out⟩
                        | some x =>
                          obtain ⟨bs, n⟩ := x
                          obtain ⟨v3, rfl, HB3, X3⟩ := hpost
                          have hn := PL.out bs n rfl
                          have hbl := PO.out bs n rfl
                          rw [List.length_drop] at hn
                          have q0 : ((n : Int) == 0) = false := beq_false_of_ne (by omega)
                          have HN : Hid (p = resP (os ++ bs) (genP 34 (q.drop (i + 1 + n)))) := hid ((HRES.out.trans (res_map os bs _)).trans (by rw [List.drop_drop]))
                          have O3 := hid (ownsRow_ext O1.out X3 (fun _ _ h => h))
                          have S3 := hid (Src.bytes (P := Tryd.prog) Tryd.underlying23 HB3)
                          have X3 := hid (HX.out.trans X3)
                          have HSZ := hid X3.out.size
                          clear HRES HB3
                          go_wp2_with (at_builtin; refine wpList_app _ rfl (.tmp 92) (.tmp 93) 23 23 rfl W2.heap.size 5 i0 _ 1 1 Tryd.underlying23 I0.out I1.out I2.out I3.out rfl _ os.length (byteVals os) rfl O3.out _ bs.length _ rfl S3.out ?_ ?_ ?_ ?_)
                          · unfold maxLen; omega
                          · omega
                          · have := HSZ.out; omega
                          intro v4 w4 own4 grow4 blk4 _
                          have N : Hid (RtRel q 34 p W2 w4 v4 (i + n + 1) (os ++ bs)) := hid ⟨by rw [byteVals_append, List.length_append]; exact own4, X3.out.grown grow4 (fun g hg => .inr (O3.out.lt g hg).1), by have := LN.out; rw [List.length_append]; omega, by omega, by rw [show i + n + 1 = i + 1 + n by omega]; exact HN.out⟩
                          clear own4 grow4 blk4
                          go_wp2_with fail
                          go_roundw
                          case rel => exact ⟨i + n + 1, os ++ bs, by go_num, by omega, N⟩
                          case measure => simp [RowKit.intOf]; omega
                      · have n3 : ((d.toNat : Int) == 92) = false := u8notL m3
                        have HN := hid (HRES.out.trans ((congrArg (resP os) (gen_other (by decide) m1 (fun _ => ⟨m2, m3⟩) (fun h => absurd h (by decide)) _)).trans (res_map1 os d _)))
                        have O2 := hid (ownsRow_ext O1.out ((Ext.refl none' wr).alloc (.cells #[.int .u8 (d.toNat : Nat)] 5)) (fun _ _ h => h))
                        have S2 := hid (Src.one (P := Tryd.prog) Tryd.underlying23 wr (.int .u8 (d.toNat : Nat)) 5 rfl)
                        have HSZ := hid HX.out.size
                        clear HRES O1 m1 m2 m3
                        go_wp2_with (at_builtin; refine wpList_app _ rfl (.tmp 98) (.tmp 100) 23 23 rfl W2.heap.size 5 i0 _ 1 1 Tryd.underlying23 I0.out I1.out I2.out I3.out rfl _ os.length (byteVals os) rfl O2.out _ 1 _ rfl S2.out ?_ ?_ ?_ ?_)
                        · unfold maxLen; omega
                        · omega
                        · have := HSZ.out; simp; omega
                        intro v3 w3 own3 grow3 blk3 _
                        have N : Hid (RtRel q 34 p W2 w3 v3 (i + 1) (os ++ [d])) := hid ⟨by rw [byteVals_append, List.length_append]; exact own3, (HX.out.alloc _).grown grow3 (fun g hg => .inr (O2.out.lt g hg).1), by have := LN.out; rw [List.length_append, List.length_singleton]; omega, by omega, HN.out⟩
                        clear own3 grow3 blk3
                        go_wp2_with fail
                        go_roundw
                        case rel => exact ⟨i + 1, os ++ [d], by go_num, by omega, N⟩
                        case measure => simp [RowKit.intOf]; omega
                · obtain rfl : i = q.length := by omega
                  have hres := R.out.res
                  rw [List.drop_length, gen_nil] at hres
                  have e : Hid (p = (os, 0)) := hid (by rw [hres]; simp [resP])
                  have HX := hid R.out.hx
                  have HB := Bytes.of_owns R.out.row
                  obtain ⟨a, cp, rfl, _⟩ := HB
                  have hcv := conv_bytes (Bytes.of_owns R.out.row) 23 5 Tryd.underlying23 Tryd.underlying5 9 Tryd.underlying9
                  clear hres R
                  go_wp2_with fail
                  go_ret2
                  rw [e.out]
                  exact ⟨rfl, XC.out.trans HX.out⟩
            · clear hk
              go_enter Tryd.func16, Tryd.ntmps16
              go_wp2_with fail
              refine region_in3 none' w [0, 1, 2, 3, 4, 5, 6, 7, 8, 9, 10, 11, 12, 13, 14, 15, 16, 17, 18, 19, 20, 21, 22, 23, 24] [25, 26] [27, 28] (by kernel_rfl) (by kernel_rfl) (fun dst v c a w h => by cases dst <;> exact h) (Ext.refl _ _) ?_
              simp only [sel, List.getElem?_cons_succ, List.getElem?_cons_zero]
              repeat (go_big_quiet_step (fail))
              refine wpQuiet_nil ?_
              simp only [wpChainK, sel, List.getElem?_cons_succ, List.getElem?_cons_zero]
              go_wp2_with fail
              refine ⟨In.of XC.out, ?_⟩
              go_wp2_with fail
              refine CW.out.mono ?_
              rintro e' W3 ⟨rfl, rfl⟩
              go_wp2_with fail
              refine ⟨In.of XC.out, ?_⟩
              repeat (go_big_quiet_step (fail))
              refine wpQuiet_nil ?_
              go_wp2_with fail
              go_loopw [4, 6] (fun v z wr => ∃ (i : Nat) (os : List UInt8), z = .int .i64 (i : Nat) ∧ i ≤ q.length ∧ Hid (RtRel q 96 p W2 wr v i os)) (fun _ z _ => q.length - (RowKit.intOf z).toNat)
              case atStart => exact ⟨0, [], rfl, by omega, hid ⟨World.ownsRow_nil _ _ _ _, Ext.refl _ _, by simp, by omega, HP4.out⟩⟩
              case round =>
                obtain ⟨i, os, rfl, hle, R⟩ := hrel
                by_cases hil2 : i < q.length
                · have hi2 : ∀ W, (Instr.index 9 (.string ⟨q.toArray⟩) (.int .i64 (i : Nat))).run Tryd.prog W = .ok (.int .u8 ((q[i]'hil2).toNat : Nat)) W := fun W => idx_run q i hil2 W
                  have hdr : q.drop i = q[i] :: q.drop (i + 1) := List.drop_eq_getElem_cons hil2
                  obtain ⟨d, hd⟩ : ∃ d, q[i]'hil2 = d := ⟨_, rfl⟩
                  simp only [hd] at hi2
                  rw [hd] at hdr
                  have hres := R.out.res
                  rw [hdr] at hres
                  have HX := hid R.out.hx
                  have hol : os.length ≤ 300000 := by have := R.out.len; omega
                  have O1 := hid R.out.row
                  have LN := hid R.out.len
                  have HRES := hid hres
                  clear hd hdr hres R
                  by_cases m1 : d = 96
                  · have e : Hid (p = ([], 4)) := hid (by rw [HRES.out, m1, gen_same (by decide)]; rfl)
                    subst m1
                    clear HRES
                    go_wp2_with fail
                    go_ret2
                    rw [e.out]
                    exact ⟨rfl, XC.out.trans HX.out⟩
                  · have n1 : ((d.toNat : Int) == 96) = false := u8notL m1
                    by_cases m2 : d = 13
                    · have HN := hid (HRES.out.trans (congrArg (resP os) (by rw [m2, gen_cr])))
                      subst m2
                      have N : Hid (RtRel q 96 p W2 wr u4 (i + 1) os) := hid ⟨O1.out, HX.out, by have := LN.out; omega, by omega, HN.out⟩
                      clear HRES HN
                      go_wp2_with fail
                      go_roundw
                      case rel => exact ⟨i + 1, os, by go_num, by omega, N⟩
                      case measure => simp [RowKit.intOf]; omega
                    · have n2 : ((d.toNat : Int) == 13) = false := u8notL m2
                      have HN := hid (HRES.out.trans ((congrArg (resP os) (gen_other (by decide) m1 (fun h => absurd h (by decide)) (fun _ => m2) _)).trans (res_map1 os d _)))
                      have O2 := hid (ownsRow_ext O1.out ((Ext.refl none' wr).alloc (.cells #[.int .u8 (d.toNat : Nat)] 5)) (fun _ _ h => h))
                      have S2 := hid (Src.one (P := Tryd.prog) Tryd.underlying23 wr (.int .u8 (d.toNat : Nat)) 5 rfl)
                      have HSZ := hid HX.out.size
                      clear HRES O1 m1 m2
                      go_wp2_with (at_builtin; refine wpList_app _ rfl (.tmp 98) (.tmp 100) 23 23 rfl W2.heap.size 5 i0 _ 1 1 Tryd.underlying23 I0.out I1.out I2.out I3.out rfl _ os.length (byteVals os) rfl O2.out _ 1 _ rfl S2.out ?_ ?_ ?_ ?_)
                      · unfold maxLen; omega
                      · omega
                      · have := HSZ.out; simp; omega
                      intro v3 w3 own3 grow3 blk3 _
                      have N : Hid (RtRel q 96 p W2 w3 v3 (i + 1) (os ++ [d])) := hid ⟨by rw [byteVals_append, List.length_append]; exact own3, (HX.out.alloc _).grown grow3 (fun g hg => .inr (O2.out.lt g hg).1), by have := LN.out; rw [List.length_append, List.length_singleton]; omega, by omega, HN.out⟩
                      clear own3 grow3 blk3
                      go_wp2_with fail
                      go_roundw
                      case rel => exact ⟨i + 1, os ++ [d], by go_num, by omega, N⟩
                      case measure => simp [RowKit.intOf]; omega
                · obtain rfl : i = q.length := by omega
                  have hres := R.out.res
                  rw [List.drop_length, gen_nil] at hres
                  have e : Hid (p = (os, 0)) := hid (by rw [hres]; simp [resP])
                  have HX := hid R.out.hx
                  have HB := Bytes.of_owns R.out.row
                  obtain ⟨a, cp, rfl, _⟩ := HB
                  have hcv := conv_bytes (Bytes.of_owns R.out.row) 23 5 Tryd.underlying23 Tryd.underlying5 9 Tryd.underlying9
                  clear hres R
                  go_wp2_with fail
                  go_ret2
                  rw [e.out]
                  exact ⟨rfl, XC.out.trans HX.out⟩
          · have hw1 : decide (0 ≤ wq) = true := by simp; omega
            have e := hid (HP3.out.trans (if_neg hw))
            clear HP3
            rcases hk with k1 | ⟨k1, k2⟩
            all_goals
              go_enter Tryd.func16, Tryd.ntmps16
              go_wp2_with fail
              refine region_in3 none' w [0, 1, 2, 3, 4, 5, 6, 7, 8, 9, 10, 11, 12, 13, 14, 15, 16, 17, 18, 19, 20, 21, 22, 23, 24] [25, 26] [27, 28] (by kernel_rfl) (by kernel_rfl) (fun dst v c a w h => by cases dst <;> exact h) (Ext.refl _ _) ?_
              simp only [sel, List.getElem?_cons_succ, List.getElem?_cons_zero]
              repeat (go_big_quiet_step (fail))
              refine wpQuiet_nil ?_
              simp only [wpChainK, sel, List.getElem?_cons_succ, List.getElem?_cons_zero]
              go_wp2_with fail
              refine ⟨In.of XC.out, ?_⟩
              go_wp2_with fail
              refine CW.out.mono ?_
              rintro e' W3 ⟨rfl, rfl⟩
              go_wp2_with fail
              refine ⟨In.of XC.out, ?_⟩
              repeat (go_big_quiet_step (fail))
              refine wpQuiet_nil ?_
              go_wp2_with fail
              go_ret2
              rw [e.out]
              exact ⟨rfl, XC.out⟩
        · have n1 : ((c.toNat : Int) != 34) = true := by have := u8n (fun e => hq (.inl e)); simp at this ⊢; omega
          have n2 : ((c.toNat : Int) != 96) = true := by have := u8n (fun e => hq (.inr e)); simp at this ⊢; omega
          have e : Hid (p = ([], 4)) := hid (by
            rw [HP2.out, if_neg (fun e => hq (.inl e)), if_neg (fun e => hq (.inr e))]
            split <;> rfl)
          clear hq HP1 HP2
          go_enter Tryd.func16, Tryd.ntmps16
          go_wp2_with fail
          refine region_in3 none' w [0, 1, 2, 3, 4, 5, 6, 7, 8, 9, 10, 11, 12, 13, 14, 15, 16, 17, 18, 19, 20, 21, 22, 23, 24] [25, 26] [27, 28] (by kernel_rfl) (by kernel_rfl) (fun dst v c a w h => by cases dst <;> exact h) (Ext.refl _ _) ?_
          simp only [sel, List.getElem?_cons_succ, List.getElem?_cons_zero]
          repeat (go_big_quiet_step (fail))
          refine wpQuiet_nil ?_
          simp only [wpChainK, sel, List.getElem?_cons_succ, List.getElem?_cons_zero]
          have DR := hid (Ext.refl none' w).drew
          go_wp2_with fail
          refine ⟨In.of DR.out, ?_⟩
          go_wp2_with fail
          refine ⟨In.of DR.out, ?_⟩
          repeat (go_big_quiet_step (fail))
          refine wpQuiet_nil ?_
          go_wp2_with fail
          go_ret2
          rw [e.out]
          exact ⟨rfl, DR.out⟩
      · have e : Hid (p = ([], 4)) := hid (by rw [HP1.out, if_neg (by rw [HH.out, HL.out]; simp [hcd])])
        have hcc : ((c.toNat : Int) != (d.toNat : Int)) = true := by have := u8n hcd; simp; omega
        clear hcd HP1
        go_enter Tryd.func16, Tryd.ntmps16
        go_wp2_with fail
        refine region_in3 none' w [0, 1, 2, 3, 4, 5, 6, 7, 8, 9, 10, 11, 12, 13, 14, 15, 16, 17, 18, 19, 20, 21, 22, 23, 24] [25, 26] [27, 28] (by kernel_rfl) (by kernel_rfl) (fun dst v c a w h => by cases dst <;> exact h) (Ext.refl _ _) ?_
        simp only [sel, List.getElem?_cons_succ, List.getElem?_cons_zero]
        repeat (go_big_quiet_step (fail))
        refine wpQuiet_nil ?_
        simp only [wpChainK, sel, List.getElem?_cons_succ, List.getElem?_cons_zero]
        have DR := hid (Ext.refl none' w).drew
        go_wp2_with fail
        refine ⟨In.of DR.out, ?_⟩
        go_wp2_with fail
        refine ⟨In.of DR.out, ?_⟩
        repeat (go_big_quiet_step (fail))
        refine wpQuiet_nil ?_
        go_wp2_with fail
        go_ret2
        rw [e.out]
        exact ⟨rfl, DR.out⟩
    · have e : Hid (p = ([], 4)) := hid (by rw [HP1.out, if_neg (fun h => h2 h.1)])
      have hdl : decide ((s.length : Int) < 2) = true := by simp; omega
      clear h2 HP1
      go_enter Tryd.func16, Tryd.ntmps16
      go_wp2_with fail
      refine region_in3 none' w [0, 1, 2, 3, 4, 5, 6, 7, 8, 9, 10, 11, 12, 13, 14, 15, 16, 17, 18, 19, 20, 21, 22, 23, 24] [25, 26] [27, 28] (by kernel_rfl) (by kernel_rfl) (fun dst v c a w h => by cases dst <;> exact h) (Ext.refl _ _) ?_
      simp only [sel, List.getElem?_cons_succ, List.getElem?_cons_zero]
      repeat (go_big_quiet_step (fail))
      refine wpQuiet_nil ?_
      simp only [wpChainK, sel, List.getElem?_cons_succ, List.getElem?_cons_zero]
      have DR := hid (Ext.refl none' w).drew
      go_wp2_with fail
      refine ⟨In.of DR.out, ?_⟩
      go_wp2_with fail
      refine ⟨In.of DR.out, ?_⟩
      repeat (go_big_quiet_step (fail))
      refine wpQuiet_nil ?_
      go_wp2_with fail
      go_ret2
      rw [e.out]
      exact ⟨rfl, DR.out⟩
end Go.Proofs.YtielcpnalepkfaaDoor
