import Derived.Test.YtielcpnalepkfaaDoorTokNote
namespace Go.Proofs.YtielcpnalepkfaaDoor
open Go.RowKit Go.Lib Go.BigFrame
theorem St.cells {base sb : Nat} {w : World} {s : List UInt8} {k : Nat} {l n : List Tok} (st : St base sb w s k l n) :
    w.cell? ⟨sb, 0, none⟩ = some (.string ⟨s.toArray⟩) ∧ w.cell? ⟨sb, 1, none⟩ = some (.int .i64 k) ∧ w.frozen? ⟨sb, 1, none⟩ = false := by
  obtain ⟨vl, vn, hh, rl, rn, hne, hb⟩ := st
  refine ⟨?_, ?_, free_at hh 1⟩
  · rw [cell_at hh]; rfl
  · rw [cell_at hh]; rfl
theorem St.go' {base sb : Nat} {w : World} {s : List UInt8} {k : Nat} {l n : List Tok} (st : St base sb w s k l n) (k' : Nat) {z : Int} (hz : z = k') :
    St base sb (w.setCell ⟨sb, 1, none⟩ (.int .i64 z)) s k' l n ∧ Ext (up base) w (w.setCell ⟨sb, 1, none⟩ (.int .i64 z)) := by
  obtain ⟨vl, vn, hh, rl, rn, hne, hb⟩ := st
  exact St.go hh hb rl rn hne (Ext.refl _ _) k' hz
/-- What 'next' leaves. -/
def NxPost (base sb : Nat) (s : List UInt8) (k : Nat) (w : World) (o : Option (Nat × List Tok × List Tok)) (e : Ending) (w' : World) : Prop :=
  match o with
  | some (k', l', n') => StPost base sb s k' l' n' w e w'
  | none => e = .panicked [{ v := gave k, recovered := false }] ∧ Ext (up base) w w'
theorem wordK_cases (t : List UInt8) : wordK t = 0 ∨ wordK t = 1 ∨ wordK t = 2 := by unfold wordK; split <;> (try split) <;> simp
theorem idx3 (t : List UInt8) (w : World) : (Instr.index 91 (.agg #[.int .i64 1, .int .i64 2, .int .i64 3]) (.int .i64 (wordK t : Nat))).run Tryd.prog w = .ok (.int .i64 ((1 + wordK t : Nat) : Int)) w := by
  rcases wordK_cases t with h | h | h <;> rw [h] <;> kernel_rfl
set_option maxHeartbeats 6400000 in
theorem next_any (base sb k : Nat) (s : List UInt8) (l n : List Tok) (w : World) (st : St base sb w s k l n) (hk : k < s.length) (hs : s.length ≤ 1000000) (hl : l.length ≤ 800000) (hn : n.length ≤ 800000) (hm : MaxL w) (hbs : 2 < base)
    (hg : ∀ t ∈ l, Good t) (hx : ∀ t ∈ l, t.text.length ≤ 1000000) :
    Calls Tryd.prog 45 #[.pointer (some ⟨sb, 0, none⟩)] w (NxPost base sb s k w (stepP s k l n)) := by
  have CN := hid (note_any base sb k s l n w st hk hs (by omega) (by omega) hm hg hx)
  have CL := hid (line_any base sb k k s l n w st (by omega) hm hg hx)
  obtain ⟨p, hp⟩ : ∃ p, p = stepP s k l n := ⟨_, rfl⟩
  rw [← hp]
  obtain ⟨r, hr⟩ : ∃ r, r = s.drop k := ⟨_, rfl⟩
  have hhd : r.head? = some s[k] := by rw [hr]; simp [List.head?_drop, hk]
  unfold stepP at hp
  rw [← hr] at CN hp
  simp only [hhd] at hp
  have hix : ((⟨s.toArray⟩ : ByteArray)[k]'(by rw [bsize]; exact hk)).toNat = s[k].toNat := by
    show ((s.toArray)[k]'_).toNat = _
    simp
  obtain ⟨c, hc⟩ : ∃ c, c = s[k] := ⟨_, rfl⟩
  rw [← hc] at hix hp
  have HC := hid hc
  have HP := hid hp
  have HR := hid hr
  have ST := hid st
  have HM := hid hm
  obtain ⟨p0, p1, f1⟩ := st.cells
  clear hc hp hr st hm hg hx hhd
  have cb : c.toNat < 256 := c.toNat_lt
  have HCE : Hid (∀ d : UInt8, c = d ↔ c.toNat = d.toNat) := hid fun d => toNat_eq c d
  obtain ⟨x, hx⟩ : ∃ x, c.toNat = x := ⟨_, rfl⟩
  rw [hx] at hix cb
  have HX := hid hx
  clear hx
  have CB : Hid (Calls Tryd.prog 57 #[.string ⟨s.toArray⟩, .string ⟨#[239, 187, 191]⟩] w (RetBool (decide (s.take 3 = [239, 187, 191])) w)) := hid (hasPrefix_any s [239, 187, 191] w hs (by decide))
  have hcne : ∀ d : UInt8, x ≠ d.toNat → c ≠ d := fun d h e => h (HX.out ▸ (HCE.out d).1 e)
  have HNE := hid hcne
  clear hcne
  by_cases hk0 : k = 0 ∧ s.take 3 = [239, 187, 191]
  · have HP1 : Hid (p = some (3, l, n)) := hid (by rw [HP.out, if_pos ⟨hk0.1, by rw [HR.out, hk0.1]; exact hk0.2⟩])
    have e0 : ((k : Int) == 0) = true := by simp [hk0.1]
    have eb : decide (s.take 3 = [239, 187, 191]) = true := by simpa using hk0.2
    have fin := hid (ST.out.go' 3 (z := 3) rfl)
    rw [eb] at CB
    clear hk0 eb
    go_enter Tryd.func45, Tryd.ntmps45
    go_wp2_with fail
    refine CB.out.mono ?_
    rintro e w1 ⟨rfl, rfl⟩
    go_wp2_with fail
    go_end0
    rw [HP1.out]
    exact ⟨rfl, fin.out.1, fin.out.2⟩
  · have HP1 := hid (HP.out.trans (if_neg (by rw [HR.out]; rintro ⟨h1, h2⟩; subst h1; exact hk0 ⟨rfl, h2⟩)))
    have hk1 : ((k : Int) == 0) = false ∨ (((k : Int) == 0) = true ∧ decide (s.take 3 = [239, 187, 191]) = false) := by
      by_cases h : k = 0
      · right; exact ⟨by simp [h], by simp; intro h2; exact hk0 ⟨h, h2⟩⟩
      · left; simp [h]
    clear hk0 HP
    have hx5 : x = 10 ∨ x ≠ 10 := by omega
    rcases hx5 with rfl | h10
    · have HP2 := hid (HP1.out.trans (if_pos ((HCE.out 10).2 HX.out)))
      rcases hk1 with e0 | ⟨e0, eb⟩
      all_goals
        try rw [eb] at CB
        go_enter Tryd.func45, Tryd.ntmps45
        go_wp2_with (go_at_call 57; refine CB.out.mono ?_; rintro e w1 ⟨rfl, rfl⟩)
        refine CL.out.mono ?_
        rintro e W ⟨rfl, st1, x1⟩
        obtain ⟨q0, q1, g1⟩ := st1.cells
        have fin := hid (st1.go' (k + 1) (z := k + 1) (by push_cast; rfl))
        have X1 := hid x1
        clear st1 x1
        go_wp2_with fail
        go_end0
        rw [HP2.out]
        exact ⟨rfl, fin.out.1, X1.out.trans fin.out.2⟩
    · have HP2 := hid (HP1.out.trans (if_neg (HNE.out 10 h10)))
      have e10 : ((x : Int) == 10) = false := by simp; omega
      clear HP1 h10
      by_cases hbl : x = 32 ∨ x = 9 ∨ x = 13
      · have HP3 := hid (HP2.out.trans (if_pos (by
          rcases hbl with h | h | h
          · exact .inl ((HCE.out 32).2 (HX.out.trans h))
          · exact .inr (.inl ((HCE.out 9).2 (HX.out.trans h)))
          · exact .inr (.inr ((HCE.out 13).2 (HX.out.trans h))))))
        have fin := hid (ST.out.go' (k + 1) (z := k + 1) (by push_cast; rfl))
        clear HP2
        rcases hk1 with e0 | ⟨e0, eb⟩
        all_goals
          try rw [eb] at CB
          rcases hbl with rfl | rfl | rfl
          all_goals
            go_enter Tryd.func45, Tryd.ntmps45
            go_wp2_with (go_at_call 57; refine CB.out.mono ?_; rintro e w1 ⟨rfl, rfl⟩)
            go_end0
            rw [HP3.out]
            exact ⟨rfl, fin.out.1, fin.out.2⟩
      · have HP3 := hid (HP2.out.trans (if_neg (by
          rintro (h | h | h)
          · exact HNE.out 32 (fun e => hbl (.inl e)) h
          · exact HNE.out 9 (fun e => hbl (.inr (.inl e))) h
          · exact HNE.out 13 (fun e => hbl (.inr (.inr e))) h)))
        have e32 : ((x : Int) == 32) = false := by simp; omega
        have e9 : ((x : Int) == 9) = false := by simp; omega
        have e13 : ((x : Int) == 13) = false := by simp; omega
        clear HP2 hbl
        rcases hk1 with e0 | ⟨e0, eb⟩
        all_goals
          try rw [eb] at CB
          go_enter Tryd.func45, Tryd.ntmps45
          go_wp2_with (go_at_call 57; refine CB.out.mono ?_; rintro e w1 ⟨rfl, rfl⟩)
          refine CN.out.mono ?_
          intro e W hN
          have HN := hid hN
          clear hN
          cases hnp : noteP r with
          | bad =>
            rw [hnp] at HN HP3
            have HP4 : Hid (p = none) := hid HP3.out
            obtain ⟨rfl, hX⟩ := HN.out
            have X1 := hid hX
            clear hX HN
            go_wp2_with fail
            rw [HP4.out]
            exact ⟨rfl, rfl, X1.out⟩
          | len m =>
            rw [hnp] at HN HP3
            have HP4 : Hid (p = some (k + m, (if 10 ∈ r.take m then lineP l k else l), n ++ [⟨0, r.take m, k⟩])) := hid HP3.out
            obtain ⟨rfl, hS, hX⟩ := HN.out
            rw [← HR.out] at hS
            have S1 := hid hS
            have X1 := hid hX
            clear hX hS HN
            go_wp2_with fail
            go_end0
            rw [HP4.out]
            exact ⟨rfl, S1.out, X1.out⟩
          | none =>
            rw [hnp] at HN HP3
            obtain ⟨rfl, hS, hX⟩ := HN.out
            have ST1 := hid hS
            have X1 := hid hX
            clear hX hS HN CN CL CB ST p0 p1 f1
            simp only at HP3
            have hM1 : MaxL W := HM.out.ext X1.out (by unfold up; omega)
            have HM1 := hid hM1
            clear hM1
            go_wp2_with fail
            refine (letter_any x W).mono ?_
            rintro e w1 ⟨rfl, rfl⟩
            have hLc : letterB c.toNat = letterB x := by rw [HX.out]
            cases hL : letterB x with
            | true =>
              have HP4 := hid (HP3.out.trans (if_pos (by rw [hLc, hL])))
              clear hLc hL HP3
              go_wp2_with fail
              refine (while_any 61 (.inl rfl) base sb k s l n W ST1.out (by omega) hs).mono ?_
              rintro e W2 ⟨rfl, st2, x2⟩
              rw [← HR.out] at st2
              have hm0 := idLen_le r
              obtain ⟨m, hm⟩ : ∃ m, m = idLen r := ⟨_, rfl⟩
              rw [← hm] at HP4 st2 hm0
              have hkm : k + m ≤ s.length := by have := congrArg List.length HR.out; rw [List.length_drop] at this; omega
              clear hm hm0
              have hkj : k ≤ k + m := by omega
              obtain ⟨j, hj⟩ : ∃ j, j = k + m := ⟨_, rfl⟩
              rw [← hj] at st2 hkm hkj HP4
              have HJ := hid hj
              clear hj
              have q0 : ∀ t : LaterF none' W2, t.w.cell? ⟨sb, 0, none⟩ = some (.string ⟨s.toArray⟩) := fun t => (st2.keepE t.x).cells.1
              have q1 : ∀ t : LaterF none' W2, t.w.cell? ⟨sb, 1, none⟩ = some (.int .i64 j) := fun t => (st2.keepE t.x).cells.2.1
              have ST2 := hid st2
              have X2 := hid (X1.out.trans x2)
              clear st2 x2
              go_wp2_with fail
              refine region_in none' W2 [0, 1, 2, 3, 4, 5, 6, 7, 8, 9, 10, 11, 14] [(12, true), (13, true), (15, false)] (by kernel_rfl) (by kernel_rfl) (fun dst v c a w h => by cases dst <;> exact h) (Ext.refl _ _) ?_
              simp only [sel, List.getElem?_cons_succ, List.getElem?_cons_zero]
              repeat (go_big_quiet_step (fail))
              refine wpQuiet_nil ?_
              rw [extract_eq s k j]
              have htk : (s.drop k).take (j - k) = r.take m := by rw [HR.out]; congr 1; have := HJ.out; omega
              have HTK := hid htk
              rw [htk]
              clear htk
              obtain ⟨t, ht⟩ : ∃ t, t = r.take m := ⟨_, rfl⟩
              rw [← ht] at HP4 HTK ⊢
              have CAdd := hid (add_any base sb (1 + wordK t) k j s l n W2.drew (ST2.out.keepE (Ext.refl none' W2).drew) hkj hkm (by omega))
              rw [HTK.out] at CAdd
              have IX := idx3 t
              simp only [wpChain, sel, List.getElem?_cons_succ, List.getElem?_cons_zero]
              clear q0 q1 ht
              go_wp2_with (go_at_call 64; refine (word_any t _).mono ?_; rintro e w1 ⟨rfl, rfl⟩)
              refine ⟨In.of (Ext.refl _ _).drew, ?_⟩
              go_wp2_with fail
              refine ⟨In.of (Ext.refl _ _).drew, ?_⟩
              go_wp2_with fail
              refine CAdd.out.mono ?_
              rintro e W3 ⟨rfl, st3, x3⟩
              have ST3 := hid st3
              have X3 := hid ((X2.out.drew).trans x3)
              clear st3 x3
              go_wp2_with fail
              go_end0
              rw [HP4.out]
              exact ⟨rfl, ST3.out, X3.out⟩
            | false =>
              have HP4 := hid (HP3.out.trans (if_neg (by rw [hLc, hL]; decide)))
              clear hLc hL HP3
              go_wp2_with fail
              refine (figure_any x W).mono ?_
              rintro e w1 ⟨rfl, rfl⟩
              have hLc : figB c.toNat = figB x := by rw [HX.out]
              cases hL : figB x with
              | true =>
                have HP5 := hid (HP4.out.trans (if_pos (by rw [hLc, hL])))
                clear hLc hL HP4
                go_wp2_with fail
                refine (while_any 65 (.inr rfl) base sb k s l n W ST1.out (by omega) hs).mono ?_
                rintro e W2 ⟨rfl, st2, x2⟩
                rw [← HR.out] at st2
                have hm0 := idLen_le r
                obtain ⟨m, hm⟩ : ∃ m, m = idLen r := ⟨_, rfl⟩
                rw [← hm] at HP5 st2 hm0
                have hkm : k + m ≤ s.length := by have := congrArg List.length HR.out; rw [List.length_drop] at this; omega
                have CAdd := hid (add_any base sb 4 k (k + m) s l n W2 st2 (by omega) hkm (by omega))
                have htk : (s.drop k).take (k + m - k) = r.take m := by rw [HR.out]; congr 1; omega
                rw [htk] at CAdd
                have X2 := hid (X1.out.trans x2)
                clear st2 x2 hm hm0 htk
                go_wp2_with fail
                refine CAdd.out.mono ?_
                rintro e W3 ⟨rfl, st3, x3⟩
                have ST3 := hid st3
                have X3 := hid (X2.out.trans x3)
                clear st3 x3
                go_wp2_with fail
                go_end0
                rw [HP5.out]
                exact ⟨rfl, ST3.out, X3.out⟩
              | false =>
                have HP5 := hid (HP4.out.trans (if_neg (by rw [hLc, hL]; decide)))
                clear hLc hL HP4
                by_cases hq : x = 34 ∨ x = 96
                · have hcq : c = 34 ∨ c = 96 := hq.imp (fun h => (HCE.out 34).2 (HX.out.trans h)) (fun h => (HCE.out 96).2 (HX.out.trans h))
                  have HP6 := hid (HP5.out.trans (if_pos hcq))
                  have CQ := tquoted_any base sb k s l n W ST1.out hk (by rw [← HC.out]; exact hcq) hs (by omega)
                  rw [← HC.out] at CQ
                  have hrt : s.drop (k + 1) = r.tail := by rw [HR.out, List.tail_drop]
                  rw [hrt] at CQ
                  have CQ' := hid CQ
                  clear CQ hrt hcq HP5
                  rcases hq with rfl | rfl
                  all_goals
                    go_wp2_with fail
                    refine CQ'.out.mono ?_
                    intro e W2 hQ
                    have HQ := hid hQ
                    clear hQ CQ'
                    cases hqo : quo c false r.tail with
                    | none =>
                      rw [hqo] at HQ HP6
                      have HP7 : Hid (p = none) := hid HP6.out
                      obtain ⟨rfl, hX⟩ := HQ.out
                      have X2 := hid (X1.out.trans hX)
                      clear hX HQ
                      go_wp2_with fail
                      rw [HP7.out]
                      exact ⟨rfl, rfl, X2.out⟩
                    | some m =>
                      rw [hqo] at HQ HP6
                      have HP7 : Hid (p = some (k + 1 + m, l ++ [⟨5, r.take (m + 1), k⟩], n)) := hid HP6.out
                      obtain ⟨rfl, hS, hX⟩ := HQ.out
                      rw [← HR.out] at hS
                      have S2 := hid hS
                      have X2 := hid (X1.out.trans hX)
                      clear hX hS HQ
                      go_wp2_with fail
                      go_end0
                      rw [HP7.out]
                      exact ⟨rfl, S2.out, X2.out⟩
                · have HP6 := hid (HP5.out.trans (if_neg (by
                    rintro (h | h)
                    · exact HNE.out 34 (fun e => hq (.inl e)) h
                    · exact HNE.out 96 (fun e => hq (.inr e)) h)))
                  have e34 : ((x : Int) == 34) = false := by simp; omega
                  have e96 : ((x : Int) == 96) = false := by simp; omega
                  have CS := hid (sign_any base sb k s l n W ST1.out hk hs (by omega) HM1.out)
                  rw [← HR.out] at CS
                  clear hq HP5
                  go_wp2_with fail
                  refine CS.out.mono ?_
                  intro e W2 hQ
                  have HQ := hid hQ
                  clear hQ CS
                  cases hsg : signP r with
                  | zero =>
                    rw [hsg] at HQ
                    have HP7 : Hid (p = none) := hid (HP6.out.trans (if_pos hsg))
                    obtain ⟨rfl, hX⟩ := HQ.out
                    have X2 := hid (X1.out.trans hX)
                    clear hX HQ
                    go_wp2_with fail
                    rw [HP7.out]
                    exact ⟨rfl, rfl, X2.out⟩
                  | succ m =>
                    rw [hsg] at HQ
                    have HP7 : Hid (p = some (k + (m + 1), l ++ [⟨6, r.take (m + 1), k⟩], n)) := hid (by rw [HP6.out, if_neg (by omega), hsg])
                    obtain ⟨rfl, hS, hX⟩ := HQ.out
                    rw [← HR.out] at hS
                    have S2 := hid hS
                    have X2 := hid (X1.out.trans hX)
                    clear hX hS HQ
                    go_wp2_with fail
                    go_end0
                    rw [HP7.out]
                    exact ⟨rfl, S2.out, X2.out⟩
end Go.Proofs.YtielcpnalepkfaaDoor
