import Derived.Test.YtielcpnalepkfaaDoorLitRDec
namespace Go.Proofs.YtielcpnalepkfaaDoor
open Go.RowKit Go.Lib Go.BigFrame
def endP (r : Nat) (ds : List Nat) : Option (List Nat) → List UInt8 × Nat
  | none => ([], 4)
  | some es => if (ds ++ es).length = 0 then ([], 4) else (showP (foldP r (ds ++ es)), 0)
theorem goP_end (r : Nat) (o : Option (List Nat)) : goP r 0 [] o = endP r [] o := by
  cases o with
  | none => rfl
  | some es => simp [goP, endP, foldP]
theorem end_map (r : Nat) (ds : List Nat) (d : Nat) (o : Option (List Nat)) : endP r ds (o.map (d :: ·)) = endP r (ds ++ [d]) o := by
  cases o with
  | none => rfl
  | some es => simp [endP]
theorem digs_line {r : Nat} {c : UInt8} {t : List UInt8} (h : c ≠ 95) : digsP r true (c :: t) = digsP r false (c :: t) := by
  unfold digsP
  rw [if_neg (fun e => h e.1), if_neg (fun e => h e.1)]
theorem digs_two (r : Nat) (t : List UInt8) : digsP r true (95 :: t) = none := by
  unfold digsP
  rw [if_neg (by simp), show digN (95 : UInt8).toNat = none from digN_95]
theorem digs_low (r : Nat) (t : List UInt8) : digsP r false (95 :: t) = digsP r true t := by
  conv => lhs; unfold digsP
  rw [if_pos ⟨rfl, rfl⟩]
theorem digs_fig {r : Nat} {c : UInt8} {t : List UInt8} (h : c ≠ 95) : digsP r false (c :: t) = if r ≤ digR (digN c.toNat) ∨ digN c.toNat = none then none else (digsP r false t).map (digR (digN c.toNat) :: ·) := by
  conv => lhs; unfold digsP
  rw [if_neg (fun e => h e.1)]
  cases hd : digN c.toNat with
  | none => simp
  | some d => simp [digR]
/-- Where the digits begin. -/
def batP (s : List UInt8) : Nat :=
  if s.length < 2 ∨ s.head? ≠ some 48 then 0
  else if s.getD 1 0 = 120 ∨ s.getD 1 0 = 88 then 2 else if s.getD 1 0 = 98 ∨ s.getD 1 0 = 66 then 2 else if s.getD 1 0 = 111 ∨ s.getD 1 0 = 79 then 2 else 1
theorem base_at (s : List UInt8) : (baseP s).2 = s.drop (batP s) ∧ batP s ≤ s.length := by
  unfold baseP batP
  split
  · simp
  · rename_i h
    have hl : 2 ≤ s.length := by omega
    repeat' split
    all_goals simp <;> omega
theorem num_notfig {c : UInt8} {t : List UInt8} (h : ¬ (48 ≤ c.toNat ∧ c.toNat ≤ 57)) (hl : (c :: t).length ≤ 200) : numP (c :: t) = ([], 4) := by
  have hc : c ≠ 48 := fun e => h (by rw [e]; decide)
  have hb : baseP (c :: t) = (10, c :: t) := by unfold baseP; rw [if_pos (.inr (by simpa using hc))]
  unfold numP
  rw [if_neg (by omega), hb]
  simp only
  split
  · rfl
  · rename_i h2
    have h95 : c ≠ 95 := fun e => h2 ⟨by trivial, .inr (by rw [e]; rfl)⟩
    rw [digs_fig h95, if_pos]
    · rfl
    · unfold digN
      rw [if_neg h]
      split
      · left; simp only [digR]; omega
      · split
        · left; simp only [digR]; omega
        · right; rfl
theorem num_fig {c : UInt8} {t : List UInt8} (h : 48 ≤ c.toNat ∧ c.toNat ≤ 57) (hl : (c :: t).length ≤ 200) : numP (c :: t) = endP (baseP (c :: t)).1 [] (digsP (baseP (c :: t)).1 false ((c :: t).drop (batP (c :: t)))) := by
  unfold numP
  rw [if_neg (by omega), ← (base_at (c :: t)).1, if_neg, goP_end]
  rintro ⟨h1, h2⟩
  rcases baseP_cases (c :: t) with ⟨_, e, _⟩ | ⟨e, _⟩
  · rw [e] at h2
    rcases h2 with h2 | h2
    · cases h2
    · injection h2 with h2
      rw [h2] at h
      exact absurd h (by decide)
  · omega
/-- What the reference's loop over the digits keeps. -/
structure RnRel (s : List UInt8) (r : Nat) (p : List UInt8 × Nat) (w wr : World) (v : Value) (i : Nat) (ds : List Nat) : Prop where
  row : DigRel w.heap.size wr v ds
  hx : Ext none' w wr
  dig : ∀ x ∈ ds, x ≤ 15
  len : ds.length ≤ i
  res : p = endP r ds (digsP r false (s.drop i))
theorem Src.oneI (w : World) (d : Nat) : Src Tryd.prog 1 41 (.slice (some ⟨w.heap.size, 0, none⟩) 1 1) 1 [.int .i64 (d : Nat)] (w.alloc (.cells #[.int .i64 (d : Nat)] 3)) := Src.one Tryd.underlying41 w (.int .i64 (d : Nat)) 3 rfl
theorem u8isL {c k : UInt8} (h : c = k) : ((c.toNat : Int) == (k.toNat : Int)) = true := by rw [h]; simp
theorem u8notL {c k : UInt8} (h : c ≠ k) : ((c.toNat : Int) == (k.toNat : Int)) = false := by have := u8n h; simp; omega
set_option maxRecDepth 100000 in
set_option maxHeartbeats 3200000 in
theorem rnumber_any (s : List UInt8) (w : World) (hs : s.length ≤ 1000000) : Calls Tryd.prog 13 #[.string ⟨s.toArray⟩] w (NumPost (numP s) w) := by
  obtain ⟨p, hp⟩ : ∃ p, p = numP s := ⟨_, rfl⟩
  rw [← hp]
  have HP := hid hp
  clear hp
  by_cases h200 : 200 < s.length
  · have e : Hid (p = ([], 12)) := hid (by rw [HP.out]; unfold numP; rw [if_pos h200])
    go_enter Tryd.func13, Tryd.ntmps13
    go_wp2_with fail
    go_ret2
    rw [e.out]
    exact ⟨rfl, Ext.refl _ _⟩
  · have hs2 : s.length ≤ 200 := by omega
    clear h200
    rcases s_cases s with h0 | ⟨c, t, hsc⟩
    · have e : Hid (p = ([], 4)) := hid (by rw [HP.out, h0]; rfl)
      subst h0
      go_enter Tryd.func13, Tryd.ntmps13
      go_wp2_with fail
      go_ret2
      rw [e.out]
      exact ⟨rfl, Ext.refl _ _⟩
    · have hl0 : 0 < s.length := by rw [hsc]; simp
      have q0 : ((s.length : Int) == 0) = false := beq_false_of_ne (by omega)
      have hi0 : ∀ W, (Instr.index 9 (.string ⟨s.toArray⟩) (.int .i64 0)).run Tryd.prog W = .ok (.int .u8 (c.toNat : Nat)) W := fun W => by
        have := idx_run s 0 hl0 W
        subst hsc; exact this
      by_cases hf : 48 ≤ c.toNat ∧ c.toNat ≤ 57
      · have f1 : decide ((c.toNat : Int) < 48) = false := by simp; omega
        have f2 : decide (57 < (c.toNat : Int)) = false := by simp; omega
        have HP1 : Hid (p = endP (baseP s).1 [] (digsP (baseP s).1 false (s.drop (batP s)))) := hid (by rw [HP.out, hsc]; exact num_fig hf (by rw [← hsc]; omega))
        have hat := (base_at s).2
        have HBP : Hid ((baseP s).1 = 10 ∨ (baseP s).1 = 16 ∨ (baseP s).1 = 2 ∨ (baseP s).1 = 8) := hid (baseP_r s)
        have HB1 : Hid (((baseP s).1, batP s) = if s.length < 2 ∨ c ≠ 48 then (10, 0) else if s.getD 1 0 = 120 ∨ s.getD 1 0 = 88 then (16, 2) else if s.getD 1 0 = 98 ∨ s.getD 1 0 = 66 then (2, 2) else if s.getD 1 0 = 111 ∨ s.getD 1 0 = 79 then (8, 2) else (8, 1)) := hid (by
          have hh : (s.head? ≠ some 48) ↔ (c ≠ 48) := by rw [hsc]; simp
          unfold baseP batP
          by_cases h : s.length < 2 ∨ c ≠ 48
          · have h' : s.length < 2 ∨ s.head? ≠ some 48 := h.imp id hh.2
            rw [if_pos h', if_pos h', if_pos h]
          · have h' : ¬ (s.length < 2 ∨ s.head? ≠ some 48) := fun q => h (q.imp id hh.1)
            rw [if_neg h', if_neg h', if_neg h]
            repeat' split
            all_goals rfl)
        obtain ⟨r, hr⟩ : ∃ r, (baseP s).1 = r := ⟨_, rfl⟩
        obtain ⟨at0, hat0⟩ : ∃ a, batP s = a := ⟨_, rfl⟩
        rw [hr, hat0] at HP1 HB1
        rw [hr] at HBP
        rw [hat0] at hat
        clear hr hat0 HP hf
        obtain ⟨bb, hbb⟩ : ∃ bb, bb = decide (c = 48 ∧ 1 < s.length) := ⟨_, rfl⟩
        have HBB := hid hbb
        clear hbb
        obtain ⟨i0, hi, hz0, hz1, hz2⟩ : ∃ i0, Tryd.prog.info? 3 = some i0 ∧ i0.zero = some (.int .i64 0) ∧ i0.size = 1 ∧ i0.bytes = 8 := ⟨_, rfl, rfl, rfl, rfl⟩
        have I0 := hid hi
        have I1 := hid hz0
        have I2 := hid hz1
        have I3 := hid hz2
        have HSC := hid hsc
        clear hi hz0 hz1 hz2 hsc
        go_enter Tryd.func13, Tryd.ntmps13
        go_upto_region 6 with (fail)
        go_cut [31] from 24 to 31 (fun z wx => z = .bool bb ∧ wx = w)
        case first =>
          by_cases h48 : c = 48
          · have n48 : ((c.toNat : Int) == 48) = true := by rw [h48]; rfl
            have HB2 : Hid (bb = decide (1 < s.length)) := hid (by rw [HBB.out]; simp [h48])
            have hq : decide (1 < (s.length : Int)) = bb := by rw [HB2.out]; exact decide_eq_decide.2 (by omega)
            clear h48
            go_wp2_with fail
            go_meet
            case rel => exact ⟨rfl, rfl⟩
          · have n48 : ((c.toNat : Int) == 48) = false := by have := u8n h48; simp at this ⊢; omega
            have hb : bb = false := by rw [HBB.out]; simp [h48]
            clear h48
            go_wp2_with fail
            go_meet
            case rel => exact ⟨by rw [hb], rfl⟩
        case rest =>
          obtain ⟨rfl, rfl⟩ := hcut
          go_upto_if 31 with (fail)
          go_cut [4, 5] from 32 to 42 (fun b a wx => b = .int .i64 (r : Nat) ∧ a = .int .i64 (at0 : Nat) ∧ wx = wc)
          case first =>
            cases bb with
            | false =>
              have hb : s.length < 2 ∨ c ≠ 48 := by
                have := HBB.out
                simp only [Bool.false_eq, decide_eq_false_iff_not] at this
                by_cases h : c = 48
                · left; by_cases h2 : 1 < s.length
                  · exact absurd ⟨h, h2⟩ this
                  · omega
                · exact .inr h
              have e := HB1.out
              rw [if_pos hb] at e
              injection e with e1 e2
              subst e1
              subst e2
              clear hb
              go_wp2_with fail
              go_meet
              case rel => exact ⟨rfl, rfl, rfl⟩
            | true =>
              have hb : c = 48 ∧ 1 < s.length := by simpa using HBB.out.symm
              obtain ⟨hb1, hb2⟩ := hb
              have hg : s.getD 1 0 = s[1]'hb2 := by rw [List.getD_eq_getElem?_getD, List.getElem?_eq_getElem hb2]; rfl
              have hi1 : ∀ W, (Instr.index 9 (.string ⟨s.toArray⟩) (.int .i64 1)).run Tryd.prog W = .ok (.int .u8 ((s[1]'hb2).toNat : Nat)) W := fun W => idx_run s 1 hb2 W
              obtain ⟨d, hd⟩ : ∃ d, s[1]'hb2 = d := ⟨_, rfl⟩
              simp only [hd] at hi1
              rw [hd] at hg
              have e := HB1.out
              rw [if_neg (by rintro (h | h); omega; exact h hb1), hg] at e
              have HE := hid e
              clear hd hg e hb1 hi0 f1 f2 q0
              by_cases m1 : d = 120
              · have e := HE.out
                rw [if_pos (.inl m1)] at e
                injection e with e1 e2
                subst e1
                subst e2
                have n1 : ((d.toNat : Int) == 120) = true := u8isL m1
                clear HE m1
                go_wp2_with fail
                go_meet
                case rel => exact ⟨rfl, rfl, rfl⟩
              · have n1 : ((d.toNat : Int) == 120) = false := u8notL m1
                by_cases m2 : d = 88
                · have e := HE.out
                  rw [if_pos (.inr m2)] at e
                  injection e with e1 e2
                  subst e1
                  subst e2
                  have n2 : ((d.toNat : Int) == 88) = true := u8isL m2
                  clear HE m1 m2
                  go_wp2_with fail
                  go_meet
                  case rel => exact ⟨rfl, rfl, rfl⟩
                · have n2 : ((d.toNat : Int) == 88) = false := u8notL m2
                  by_cases m3 : d = 98
                  · have e := HE.out
                    rw [if_neg (by simp [m1, m2]), if_pos (.inl m3)] at e
                    injection e with e1 e2
                    subst e1
                    subst e2
                    have n3 : ((d.toNat : Int) == 98) = true := u8isL m3
                    clear HE m1 m2 m3
                    go_wp2_with fail
                    go_meet
                    case rel => exact ⟨rfl, rfl, rfl⟩
                  · have n3 : ((d.toNat : Int) == 98) = false := u8notL m3
                    by_cases m4 : d = 66
                    · have e := HE.out
                      rw [if_neg (by simp [m1, m2]), if_pos (.inr m4)] at e
                      injection e with e1 e2
                      subst e1
                      subst e2
                      have n4 : ((d.toNat : Int) == 66) = true := u8isL m4
                      clear HE m1 m2 m3 m4
                      go_wp2_with fail
                      go_meet
                      case rel => exact ⟨rfl, rfl, rfl⟩
                    · have n4 : ((d.toNat : Int) == 66) = false := u8notL m4
                      by_cases m5 : d = 111
                      · have e := HE.out
                        rw [if_neg (by simp [m1, m2]), if_neg (by simp [m3, m4]), if_pos (.inl m5)] at e
                        injection e with e1 e2
                        subst e1
                        subst e2
                        have n5 : ((d.toNat : Int) == 111) = true := u8isL m5
                        clear HE m1 m2 m3 m4 m5
                        go_wp2_with fail
                        go_meet
                        case rel => exact ⟨rfl, rfl, rfl⟩
                      · have n5 : ((d.toNat : Int) == 111) = false := u8notL m5
                        by_cases m6 : d = 79
                        · have e := HE.out
                          rw [if_neg (by simp [m1, m2]), if_neg (by simp [m3, m4]), if_pos (.inr m6)] at e
                          injection e with e1 e2
                          subst e1
                          subst e2
                          have n6 : ((d.toNat : Int) == 79) = true := u8isL m6
                          clear HE m1 m2 m3 m4 m5 m6
                          go_wp2_with fail
                          go_meet
                          case rel => exact ⟨rfl, rfl, rfl⟩
                        · have n6 : ((d.toNat : Int) == 79) = false := u8notL m6
                          have e := HE.out
                          rw [if_neg (by simp [m1, m2]), if_neg (by simp [m3, m4]), if_neg (by simp [m5, m6])] at e
                          injection e with e1 e2
                          subst e1
                          subst e2
                          clear HE m1 m2 m3 m4 m5 m6
                          go_wp2_with fail
                          go_meet
                          case rel => exact ⟨rfl, rfl, rfl⟩
          case rest =>
            obtain ⟨rfl, rfl, rfl⟩ := hcut
            have hr16 : r ≤ 16 := by have := HBP.out; omega
            have hr0 : 0 < r := by have := HBP.out; omega
            have R0 : Hid (RnRel s r p wc wc (.slice none 0 0) at0 []) := hid ⟨⟨World.ownsRow_nil _ _ _ _⟩, Ext.refl _ _, by simp, by simp, HP1.out⟩
            clear HP1 HB1 HBB hi0 f1 f2 q0
            obtain ⟨wa, hwa⟩ : ∃ wa, wa = wc := ⟨_, rfl⟩
            subst hwa
            go_wp2_with fail
            go_loopw [6, 7] (fun v z wr => ∃ (i : Nat) (ds : List Nat), z = .int .i64 (i : Nat) ∧ i ≤ s.length ∧ Hid (RnRel s r p wa wr v i ds)) (fun _ z _ => s.length - (RowKit.intOf z).toNat)
            case atStart => exact ⟨at0, [], rfl, hat, R0⟩
            case round =>
              obtain ⟨i, ds, rfl, hle, R⟩ := hrel
              by_cases hil : i < s.length
              · have hi1 : ∀ W, (Instr.index 9 (.string ⟨s.toArray⟩) (.int .i64 (i : Nat))).run Tryd.prog W = .ok (.int .u8 ((s[i]'hil).toNat : Nat)) W := fun W => idx_run s i hil W
                have hdr : s.drop i = s[i] :: s.drop (i + 1) := List.drop_eq_getElem_cons hil
                obtain ⟨d, hd⟩ : ∃ d, s[i]'hil = d := ⟨_, rfl⟩
                simp only [hd] at hi1
                rw [hd] at hdr
                have hres := R.out.res
                rw [hdr] at hres
                have HX := hid R.out.hx
                by_cases h95 : d = 95
                · have n95 : ((d.toNat : Int) == 95) = true := u8isL h95
                  rw [h95, digs_low] at hres
                  by_cases hend : i + 1 = s.length
                  · have q1 : ((i : Int) + 1 == (s.length : Int)) = true := by simp; omega
                    have e : Hid (p = ([], 4)) := hid (by rw [hres, List.drop_eq_nil_of_le (by omega)]; rfl)
                    clear hd hdr hres R h95 hend
                    go_wp2_with fail
                    go_ret2
                    rw [e.out]
                    exact ⟨rfl, HX.out⟩
                  · have hil2 : i + 1 < s.length := by omega
                    have q1 : ((i : Int) + 1 == (s.length : Int)) = false := beq_false_of_ne (by omega)
                    have hi2 : ∀ W, (Instr.index 9 (.string ⟨s.toArray⟩) (.int .i64 ((i : Int) + 1))).run Tryd.prog W = .ok (.int .u8 ((s[i + 1]'hil2).toNat : Nat)) W := fun W => by
                      have := idx_run s (i + 1) hil2 W
                      rw [show ((i + 1 : Nat) : Int) = (i : Int) + 1 by omega] at this
                      exact this
                    have hdr2 : s.drop (i + 1) = s[i + 1] :: s.drop (i + 1 + 1) := List.drop_eq_getElem_cons hil2
                    obtain ⟨d2, hd2⟩ : ∃ d, s[i + 1]'hil2 = d := ⟨_, rfl⟩
                    simp only [hd2] at hi2
                    rw [hd2] at hdr2
                    by_cases h952 : d2 = 95
                    · have n952 : ((d2.toNat : Int) == 95) = true := u8isL h952
                      have e : Hid (p = ([], 4)) := hid (by rw [hres, hdr2, h952, digs_two]; rfl)
                      clear hd hdr hres R h95 hend hd2 hdr2 h952
                      go_wp2_with fail
                      go_ret2
                      rw [e.out]
                      exact ⟨rfl, HX.out⟩
                    · have n952 : ((d2.toNat : Int) == 95) = false := u8notL h952
                      have N : Hid (RnRel s r p wa wr u6 (i + 1) ds) := hid ⟨R.out.row, R.out.hx, R.out.dig, by have := R.out.len; omega, by rw [hres, hdr2, digs_line h952]⟩
                      clear hd hdr hres R h95 hend hd2 hdr2 h952
                      go_wp2_with fail
                      go_roundw
                      case rel => exact ⟨i + 1, ds, by go_num, by omega, N⟩
                      case measure => simp [RowKit.intOf]; omega
                · have n95 : ((d.toNat : Int) == 95) = false := u8notL h95
                  rw [digs_fig h95] at hres
                  have CD := fun W => rdigit_any d W
                  obtain ⟨D, hD⟩ : ∃ D, digR (digN d.toNat) = D := ⟨_, rfl⟩
                  simp only [hD] at CD
                  rw [hD] at hres
                  have HCD := hid CD
                  by_cases hbig : r ≤ D
                  · have q2 : decide ((r : Int) ≤ (D : Int)) = true := by simp; omega
                    have e : Hid (p = ([], 4)) := hid (by rw [hres, if_pos (.inl hbig)]; rfl)
                    clear hd hdr hres R h95 hD CD
                    go_wp2_with fail
                    refine (HCD.out _).mono ?_
                    rintro e' w2 ⟨rfl, rfl⟩
                    go_wp2_with fail
                    go_ret2
                    rw [e.out]
                    exact ⟨rfl, HX.out⟩
                  · have q2 : decide ((r : Int) ≤ (D : Int)) = false := by simp; omega
                    have hne : digN d.toNat ≠ none := fun e => by rw [e] at hD; simp only [digR] at hD; omega
                    rw [if_neg (by rintro (h | h); exact hbig h; exact hne h), end_map] at hres
                    have hD15 : D ≤ 15 := by omega
                    have hDr : ¬ ((r : Int) ≤ (D : Int)) := by omega
                    have hdl : ds.length ≤ 200 := by have := R.out.len; omega
                    have O2 := hid (ownsRow_ext R.out.row.own ((Ext.refl none' wr).alloc (.cells #[.int .i64 (D : Nat)] 3)) (fun _ _ h => h))
                    have S2 := hid (Src.oneI wr D)
                    have HSZ := hid HX.out.size
                    have HDG := hid R.out.dig
                    have HLN := hid R.out.len
                    have HRES := hid hres
                    clear hd hdr hres R h95 hD CD hbig hne
                    go_wp2_with fail
                    refine (HCD.out _).mono ?_
                    rintro e' w2 ⟨rfl, rfl⟩
                    go_wp2_with fail
                    refine (HCD.out _).mono ?_
                    rintro e' w2 ⟨rfl, rfl⟩
                    go_wp2_with (at_builtin; refine wpList_app _ rfl (.tmp 72) (.tmp 77) 41 41 rfl wa.heap.size 3 i0 _ 1 8 Tryd.underlying41 I0.out I1.out I2.out I3.out rfl _ ds.length (intVals ds) rfl O2.out _ 1 _ rfl S2.out ?_ ?_ ?_ ?_)
                    · unfold maxLen; omega
                    · omega
                    · have := HSZ.out; simp; omega
                    intro v3 w3 own3 grow3 blk3 _
                    have N : Hid (RnRel s r p wa w3 v3 (i + 1) (ds ++ [D])) := hid ⟨⟨by rw [intVals_app, List.length_append]; exact own3⟩, (HX.out.alloc _).grown grow3 (fun g hg => .inr (O2.out.lt g hg).1), fun x hx => by
                      rcases List.mem_append.1 hx with h | h
                      · exact HDG.out x h
                      · simp at h; omega, by have := HLN.out; rw [List.length_append, List.length_singleton]; omega, HRES.out⟩
                    clear own3 grow3 blk3
                    go_wp2_with fail
                    go_roundw
                    case rel => exact ⟨i + 1, ds ++ [D], by go_num, by omega, N⟩
                    case measure => simp [RowKit.intOf]; omega
              · obtain rfl : i = s.length := by omega
                have hres := R.out.res
                rw [List.drop_length, show digsP r false [] = some [] from rfl] at hres
                obtain ⟨a, cp, hu6⟩ := own_slice R.out.row.own
                subst hu6
                have HX := hid R.out.hx
                by_cases hds : ds = []
                · have e : Hid (p = ([], 4)) := hid (by rw [hres, hds]; rfl)
                  subst hds
                  clear R hres
                  go_wp2_with fail
                  go_ret2
                  rw [e.out]
                  exact ⟨rfl, HX.out⟩
                · have hd0 : 0 < ds.length := List.length_pos_iff.2 hds
                  have e : Hid (p = (showP (foldP r ds), 0)) := hid (by rw [hres]; unfold endP; simp only [List.append_nil]; rw [if_neg (by omega)])
                  have q3 : ((ds.length : Int) == 0) = false := beq_false_of_ne (by omega)
                  have DEC := hid (rdecimal_any wa.heap.size _ ds r wr R.out.row hr16 hr0 R.out.dig (by have := R.out.len; omega))
                  clear R hres hds
                  go_wp2_with fail
                  refine DEC.out.mono ?_
                  rintro e' w2 ⟨rfl, X2⟩
                  have X2 := hid (HX.out.trans X2)
                  go_wp2_with fail
                  go_ret2
                  rw [e.out]
                  exact ⟨rfl, X2.out⟩
      · have e : Hid (p = ([], 4)) := hid (by rw [HP.out, hsc]; exact num_notfig hf (by rw [← hsc]; omega))
        have hff : (decide ((c.toNat : Int) < 48) = true) ∨ (decide ((c.toNat : Int) < 48) = false ∧ decide (57 < (c.toNat : Int)) = true) := by
          by_cases h : c.toNat < 48
          · left; simp; omega
          · right; exact ⟨by simp; omega, by simp; omega⟩
        clear hf HP hsc
        rcases hff with f1 | ⟨f1, f2⟩
        all_goals
          go_enter Tryd.func13, Tryd.ntmps13
          go_wp2_with fail
          go_ret2
          rw [e.out]
          exact ⟨rfl, Ext.refl _ _⟩
end Go.Proofs.YtielcpnalepkfaaDoor
