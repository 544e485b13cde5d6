import Derived.Test.YtielcpnalepkfaaDoorLitRPartP
import Derived.Test.YtielcpnalepkfaaDoorLitRSign
import Derived.Test.YtielcpnalepkfaaDoorLitRQuote
namespace Go.Proofs.YtielcpnalepkfaaDoor
open Go.RowKit Go.Lib Go.BigFrame
/-- A piece of a slice of bytes. -/
theorem Bytes.sub {B b off n cap : Nat} {w : World} {s : List UInt8} (h : Bytes B w (.slice (some ⟨b, off, none⟩) n cap) s) (i j : Nat) (hij : i ≤ j) (hj : j ≤ s.length) (cap' : Nat) (hc : j - i ≤ cap') (hc2 : cap' ≤ 9223372036854775807) :
    Bytes B w (.slice (some ⟨b, off + i, none⟩) (j - i) cap') ((s.drop i).take (j - i)) := by
  obtain ⟨a, c, e, h1, h2, h3, h4⟩ := h
  injection e with e1 e2 e3
  subst e1
  have hl : ((s.drop i).take (j - i)).length = j - i := by rw [List.length_take, List.length_drop]; omega
  refine ⟨_, cap', by rw [hl], by rw [hl]; exact hc, hc2, (fun h => by cases h), fun hne => ?_⟩
  have hs : s ≠ [] := by intro e; subst e; simp at hne
  obtain ⟨b', off', e', hB, hb, hcell⟩ := h4 hs
  injection e' with e'
  injection e' with e4 e5
  subst e4 e5
  refine ⟨b, off + i, rfl, hB, hb, fun k hk => ?_⟩
  rw [hl] at hk
  rw [Nat.add_assoc, hcell (i + k) (by omega)]
  simp
theorem piece_one (i : Nat) (h : i < toL.length) : (toL.drop i).take (i + 1 - i) = [toL.getD i 0] := by
  have : i = 0 ∨ i = 1 ∨ i = 2 ∨ i = 3 ∨ i = 4 ∨ i = 5 ∨ i = 6 ∨ i = 7 ∨ i = 8 := by have e : toL.length = 9 := rfl; omega
  rcases this with rfl | rfl | rfl | rfl | rfl | rfl | rfl | rfl | rfl <;> rfl
theorem valid_iff (v : Nat) : Lib.validRune (v : Int) = true ↔ v ≤ 1114111 ∧ (v < 55296 ∨ 57343 < v) := by
  unfold Lib.validRune
  simp
  omega
theorem runeB_pos (v : Nat) : 0 < (runeB v).length := by
  unfold runeB
  repeat' split
  all_goals simp
/-- What the reference's part tells: the bytes and how long it is; nothing: none, 0. -/
def RpPost (o : Option (List UInt8 × Nat)) (w : World) (e : Ending) (w' : World) : Prop :=
  match o with
  | none => e = .returned (.tuple #[.slice none 0 0, .int .i64 0]) ∧ Ext none' w w'
  | some (bs, n) => ∃ v, e = .returned (.tuple #[v, .int .i64 (n : Nat)]) ∧ Bytes w'.heap.size w' v bs ∧ Ext none' w w'
set_option maxRecDepth 100000 in
set_option maxHeartbeats 3200000 in
theorem rpart_any (s : List UInt8) (at0 : Nat) (w : World) (ha : at0 ≤ s.length) (hs : s.length ≤ 1000000) : Calls Tryd.prog 32 #[.string ⟨s.toArray⟩, .int .i64 (at0 : Nat)] w (RpPost (partP (s.drop at0)) w) := by
  obtain ⟨p, hp⟩ : ∃ p, p = partP (s.drop at0) := ⟨_, rfl⟩
  rw [← hp]
  have HP := hid hp
  clear hp
  by_cases hend : at0 = s.length
  · have e : Hid (p = none) := hid (by rw [HP.out, hend, List.drop_length]; rfl)
    have q0 : ((at0 : Int) == (s.length : Int)) = true := by rw [hend]; simp
    subst hend
    go_enter Tryd.func32, Tryd.ntmps32
    go_wp2_with fail
    go_ret2
    rw [e.out]
    exact ⟨rfl, Ext.refl _ _⟩
  · have hat : at0 < s.length := by omega
    have q0 : ((at0 : Int) == (s.length : Int)) = false := beq_false_of_ne (by omega)
    have hi1 : ∀ W, (Instr.index 9 (.string ⟨s.toArray⟩) (.int .i64 (at0 : Nat))).run Tryd.prog W = .ok (.int .u8 ((s[at0]'hat).toNat : Nat)) W := fun W => idx_run s at0 hat W
    have hdr : s.drop at0 = s[at0] :: s.drop (at0 + 1) := List.drop_eq_getElem_cons hat
    obtain ⟨c, hc⟩ : ∃ c, s[at0]'hat = c := ⟨_, rfl⟩
    simp only [hc] at hi1
    rw [hc] at hdr
    have HP1 := hid ((HP.out.trans (congrArg partP hdr)).trans (partP_cons c (s.drop (at0 + 1))))
    have HDR := hid hdr
    have HB := hid (bytes_lit w toL (by decide))
    clear hc hdr HP
    go_enter Tryd.func32, Tryd.ntmps32
    go_wp2_with fail
    go_loopw [8] (fun z wr => ∃ i : Nat, z = .int .i64 (i : Nat) ∧ i ≤ 9 ∧ Hid (∀ j, j < i → (fromL.getD j 0).toNat ≠ c.toNat) ∧ Hid (Ext none' (w.alloc (.cells (byteVals toL).toArray 5)) wr)) (fun z _ => 9 - (RowKit.intOf z).toNat)
    case atStart => exact ⟨0, rfl, by omega, hid (fun j h => by omega), hid (Ext.refl _ _)⟩
    case round =>
      obtain ⟨i, rfl, hle, HN, HX⟩ := hrel
      by_cases hil : i < 9
      · have hi2 : ∀ W, (Instr.index 9 (.string ⟨#[97, 98, 102, 110, 114, 116, 118, 92, 34]⟩) (.int .i64 (i : Nat))).run Tryd.prog W = .ok (.int .u8 ((fromL[i]'hil).toNat : Nat)) W := fun W => idx_run fromL i hil W
        obtain ⟨d, hd⟩ : ∃ d, fromL[i]'hil = d := ⟨_, rfl⟩
        simp only [hd] at hi2
        have hgd : fromL.getD i 0 = d := by rw [List.getD_eq_getElem?_getD, List.getElem?_eq_getElem hil, hd]; rfl
        have HGD := hid hgd
        clear hd hgd
        by_cases hdc : c = d
        · have n1 : ((c.toNat : Int) == (d.toNat : Int)) = true := by rw [hdc]; simp
          have HS : Hid (p = some ([toL.getD i 0], 1)) := hid (by
            rw [HP1.out, hdc, ← HGD.out, single_at i hil]
            simp)
          have HDC := hid hdc
          clear hdc
          go_wp2_with fail
          refine region_in none' wr [0, 1, 2, 3, 4, 5, 6] [] (by kernel_rfl) (by kernel_rfl) (fun dst v c a w h => by cases dst <;> exact h) (Ext.refl _ _) ?_
          simp only [sel, List.getElem?_cons_succ, List.getElem?_cons_zero]
          repeat (go_big_quiet_step (fail))
          refine wpQuiet_nil ?_
          simp only [wpChain]
          have NX := hid HX.out.drew
          go_wp2_with fail
          go_ret2
          rw [HS.out]
          have e1 : i + 1 - i = 1 := by omega
          have h9 : toL.length = 9 := rfl
          have K1 := Bytes.sub (HB.out.keep NX.out) i (i + 1) (by omega) (by omega) (9 - i) (by omega) (by omega)
          rw [piece_one i (by omega), e1, Nat.zero_add] at K1
          exact ⟨_, rfl, K1.mono (by have := NX.out.size; simpa using this), ((Ext.refl none' w).alloc _).trans NX.out⟩
        · have n1 : ((c.toNat : Int) == (d.toNat : Int)) = false := beq_false_of_ne (fun e => hdc (UInt8.toNat_inj.1 (by omega)))
          have HN2 : Hid (∀ j, j < i + 1 → (fromL.getD j 0).toNat ≠ c.toNat) := hid (fun j hj => by
            by_cases e : j = i
            · subst e; rw [HGD.out]; exact fun q => hdc (UInt8.toNat_inj.1 q.symm)
            · exact HN.out j (by omega))
          clear hdc
          go_wp2_with fail
          refine region_in none' wr [0, 1, 2, 3, 4, 5, 6] [] (by kernel_rfl) (by kernel_rfl) (fun dst v c a w h => by cases dst <;> exact h) (Ext.refl _ _) ?_
          simp only [sel, List.getElem?_cons_succ, List.getElem?_cons_zero]
          repeat (go_big_quiet_step (fail))
          refine wpQuiet_nil ?_
          simp only [wpChain]
          have NX := hid HX.out.drew
          go_wp2_with fail
          go_roundw
          case rel => exact ⟨i + 1, by go_num, by omega, HN2, NX⟩
          case measure => simp [RowKit.intOf]; omega
      · obtain rfl : i = 9 := by omega
        have hno := single_not (fun j hj => HN.out j hj)
        have HP2 := HP1.out
        rw [hno] at HP2
        have HP3 := hid HP2
        clear HP2 hno HP1 HN
        have HX2 : Hid (Ext none' w wr) := hid (((Ext.refl none' w).alloc _).trans HX.out)
        clear HX
        by_cases m1 : c = 120
        · have HP4 : Hid (p = (digitsP 16 2 (s.drop (at0 + 1))).map fun v => ([UInt8.ofNat v], 3)) := hid (by rw [HP3.out]; simp only; rw [if_pos m1])
          have n1 : ((c.toNat : Int) == 120) = true := by rw [m1]; rfl
          have CV : ∀ W, Calls Tryd.prog 42 #[.string ⟨s.toArray⟩, .int .i64 ((at0 : Int) + 1), .int .i64 2, .int .i64 16] W (IntPost' (optV (digitsP 16 2 (s.drop (at0 + 1)))) W) := fun W => rvalue_any s (at0 + 1) 2 16 W (by omega) (by omega) (by omega) hs
          have HLT := hid (fun v (h : digitsP 16 2 (s.drop (at0 + 1)) = some v) => (digitsP_lt (by omega) h).1)
          obtain ⟨o, ho⟩ : ∃ o, digitsP 16 2 (s.drop (at0 + 1)) = o := ⟨_, rfl⟩
          rw [ho] at HP4 HLT
          simp only [ho] at CV
          have HCV := hid CV
          clear ho CV m1 HP3 HDR
          cases o with
          | none =>
            have e : Hid (p = none) := hid HP4.out
            go_wp2_with fail
            refine (HCV.out _).mono ?_
            rintro e' w2 ⟨rfl, rfl⟩
            simp only [optV]
            go_wp2_with fail
            go_ret2
            rw [e.out]
            exact ⟨rfl, HX2.out⟩
          | some v =>
            have hv : v < 256 := HLT.out v rfl
            have e : Hid (p = some ([UInt8.ofNat v], 3)) := hid HP4.out
            have e1 : Hid ((v : Int) = ((UInt8.ofNat v).toNat : Nat)) := hid (u8of v hv)
            have hb := hid fun W => bytes_lit W [UInt8.ofNat v] (by simp)
            clear HLT HP4
            go_wp2_with fail
            refine (HCV.out _).mono ?_
            rintro e' w2 ⟨rfl, rfl⟩
            simp only [optV]
            go_wp2_with fail
            go_ret2
            rw [e.out]
            refine ⟨_, rfl, ?_, HX2.out.alloc _⟩
            rw [e1.out]
            exact hb.out _
        · have n1 : ((c.toNat : Int) == 120) = false := by have := u8n m1; simp at this ⊢; omega
          by_cases m2 : c = 117 ∨ c = 85
          · obtain ⟨n, hn⟩ : ∃ n : Nat, n = if c = 85 then 8 else 4 := ⟨_, rfl⟩
            have hn8 : n ≤ 8 := by rw [hn]; split <;> omega
            have HP4 : Hid (p = match digitsP 16 n (s.drop (at0 + 1)) with
              | none => none
              | some v => if Lib.validRune v = true then some (runeB v, n + 1) else none) := hid (by rw [HP3.out, hn]; simp only; rw [if_neg m1, if_pos m2]; cases digitsP 16 (if c = 85 then 8 else 4) (s.drop (at0 + 1)) <;> rfl)
            have CV : ∀ W, Calls Tryd.prog 42 #[.string ⟨s.toArray⟩, .int .i64 ((at0 : Int) + 1), .int .i64 (n : Int), .int .i64 16] W (IntPost' (optV (digitsP 16 n (s.drop (at0 + 1)))) W) := fun W => rvalue_any s (at0 + 1) n 16 W (by omega) (by omega) (by omega) hs
            have HLT := hid (fun v (h : digitsP 16 n (s.drop (at0 + 1)) = some v) => (digitsP_lt (by omega) h).1)
            obtain ⟨o, ho⟩ : ∃ o, digitsP 16 n (s.drop (at0 + 1)) = o := ⟨_, rfl⟩
            rw [ho] at HP4 HLT
            simp only [ho] at CV
            have HCV := hid CV
            have SB := hid fun z W h1 h2 h => rsign_bad z W h1 h2 h
            have SG := hid fun v W h1 h2 => rsign_good v W h1 h2
            have hk : (((c.toNat : Int) == 117) = true ∧ ((c.toNat : Int) == 85) = false ∧ n = 4) ∨ (((c.toNat : Int) == 117) = false ∧ ((c.toNat : Int) == 85) = true ∧ n = 8) := by
              rcases m2 with e | e
              · left; subst e; exact ⟨by decide, by decide, by rw [hn]; decide⟩
              · right; subst e; exact ⟨by decide, by decide, by rw [hn]; decide⟩
            have HLT8 : Hid (∀ v, o = some v → v < 4294967296) := hid (fun v h => Nat.lt_of_lt_of_le (HLT.out v h) (Nat.le_trans (Nat.pow_le_pow_right (by omega) hn8) (by decide)))
            clear ho CV m1 m2 HP3 HDR hn HLT hn8
            rcases hk with ⟨k1, k2, rfl⟩ | ⟨k1, k2, rfl⟩
            all_goals
              cases o with
              | none =>
                have e : Hid (p = none) := hid HP4.out
                clear HP4 HLT8
                go_wp2_with fail
                refine (HCV.out _).mono ?_
                rintro e' w2 ⟨rfl, rfl⟩
                simp only [optV]
                go_wp2_with fail
                refine (SB.out _ _ (by omega) (by omega) (by omega)).mono ?_
                rintro e' w3 ⟨rfl, rfl⟩
                go_wp2_with fail
                go_ret2
                rw [e.out]
                exact ⟨rfl, HX2.out⟩
              | some v =>
                have hv := HLT8.out v rfl
                by_cases hg : v ≤ 1114111 ∧ (v < 55296 ∨ 57343 < v)
                · have e := hid (HP4.out.trans (if_pos ((valid_iff v).2 hg)))
                  have SV := hid fun W => SG.out v W hg.1 hg.2
                  have hpos := runeB_pos v
                  clear HP4 HLT8 hg
                  obtain ⟨bs, hbs⟩ : ∃ bs, runeB v = bs := ⟨_, rfl⟩
                  rw [hbs] at e SV hpos
                  clear hbs
                  go_wp2_with fail
                  refine (HCV.out _).mono ?_
                  rintro e' w2 ⟨rfl, rfl⟩
                  simp only [optV]
                  go_wp2_with fail
                  refine (SV.out _).mono ?_
                  rintro e' w3 ⟨u, rfl, hb, X3⟩
                  have HB3 := hid hb
                  have X3 := hid (HX2.out.trans X3)
                  obtain ⟨a, cap, rfl, _⟩ := hb
                  go_wp2_with fail
                  go_ret2
                  rw [e.out]
                  exact ⟨_, rfl, HB3.out, X3.out⟩
                · have e := hid (HP4.out.trans (if_neg fun h => hg ((valid_iff v).1 h)))
                  have hz : (v : Int) < 0 ∨ 1114111 < (v : Int) ∨ (55296 ≤ (v : Int) ∧ (v : Int) ≤ 57343) := by omega
                  have HZ := hid hz
                  have SV := hid fun W => SB.out (v : Int) W (by omega) (by omega) HZ.out
                  clear HP4 HLT8 hg hz
                  go_wp2_with fail
                  refine (HCV.out _).mono ?_
                  rintro e' w2 ⟨rfl, rfl⟩
                  simp only [optV]
                  go_wp2_with fail
                  refine (SV.out _).mono ?_
                  rintro e' w3 ⟨rfl, rfl⟩
                  go_wp2_with fail
                  go_ret2
                  rw [e.out]
                  exact ⟨rfl, HX2.out⟩
          · have n2 : ((c.toNat : Int) == 117) = false := by have := u8n (fun e => m2 (.inl e)); simp at this ⊢; omega
            have n3 : ((c.toNat : Int) == 85) = false := by have := u8n (fun e => m2 (.inr e)); simp at this ⊢; omega
            have HP4 : Hid (p = match digitsP 8 3 (s.drop at0) with
              | none => none
              | some v => if v ≤ 255 then some ([UInt8.ofNat v], 3) else none) := hid (by rw [HP3.out, HDR.out]; simp only; rw [if_neg m1, if_neg m2]; cases digitsP 8 3 (c :: s.drop (at0 + 1)) <;> rfl)
            have CV : ∀ W, Calls Tryd.prog 42 #[.string ⟨s.toArray⟩, .int .i64 (at0 : Int), .int .i64 3, .int .i64 8] W (IntPost' (optV (digitsP 8 3 (s.drop at0))) W) := fun W => rvalue_any s at0 3 8 W (by omega) (by omega) (by omega) hs
            have HLT := hid (fun v (h : digitsP 8 3 (s.drop at0) = some v) => (digitsP_lt (by omega) h).1)
            obtain ⟨o, ho⟩ : ∃ o, digitsP 8 3 (s.drop at0) = o := ⟨_, rfl⟩
            rw [ho] at HP4 HLT
            simp only [ho] at CV
            have HCV := hid CV
            clear ho CV m1 m2 HP3 HDR
            cases o with
            | none =>
              have e : Hid (p = none) := hid HP4.out
              go_wp2_with fail
              refine (HCV.out _).mono ?_
              rintro e' w2 ⟨rfl, rfl⟩
              simp only [optV]
              go_wp2_with fail
              go_ret2
              rw [e.out]
              exact ⟨rfl, HX2.out⟩
            | some v =>
              have hv : v < 4096 := HLT.out v rfl
              by_cases hv2 : v ≤ 255
              · have e : Hid (p = some ([UInt8.ofNat v], 3)) := hid (by rw [HP4.out]; simp only; rw [if_pos hv2])
                have e1 : Hid ((v : Int) = ((UInt8.ofNat v).toNat : Nat)) := hid (u8of v (by omega))
                have hb := hid fun W => bytes_lit W [UInt8.ofNat v] (by simp)
                clear HLT HP4
                go_wp2_with fail
                refine (HCV.out _).mono ?_
                rintro e' w2 ⟨rfl, rfl⟩
                simp only [optV]
                go_wp2_with fail
                go_ret2
                rw [e.out]
                refine ⟨_, rfl, ?_, HX2.out.alloc _⟩
                rw [e1.out]
                exact hb.out _
              · have e : Hid (p = none) := hid (by rw [HP4.out]; simp only; rw [if_neg hv2])
                clear HLT HP4
                go_wp2_with fail
                refine (HCV.out _).mono ?_
                rintro e' w2 ⟨rfl, rfl⟩
                simp only [optV]
                go_wp2_with fail
                go_ret2
                rw [e.out]
                exact ⟨rfl, HX2.out⟩
end Go.Proofs.YtielcpnalepkfaaDoor
