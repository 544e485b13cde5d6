import Derived.Test.YtielcpnalepkfaaDoorLitDigits
import Derived.Test.YtielcpnalepkfaaDoorRegion3
namespace Go.Proofs.YtielcpnalepkfaaDoor
open Go.RowKit Go.Lib Go.BigFrame
/-- One byte, made a text. -/
theorem conv_one (w : World) (y : UInt8) {z : Int} (hz : z = (y.toNat : Nat)) : (convert 23 9 (.slice (some ⟨w.heap.size, 0, none⟩) 1 1)).run Tryd.prog (w.alloc (.cells #[.int .u8 z] 5)) = .ok (.string ⟨#[y]⟩) (w.alloc (.cells #[.int .u8 z] 5)) := by
  subst hz
  have hb : Bytes (w.heap.size + 1) (w.alloc (.cells #[.int .u8 (y.toNat : Nat)] 5)) (.slice (some ⟨w.heap.size, 0, none⟩) 1 1) [y] := by
    refine ⟨_, 1, rfl, Nat.le_refl _, by omega, (fun h => by cases h), fun _ => ⟨_, _, rfl, by omega, by simp, fun j hj => ?_⟩⟩
    match j, hj with
    | 0, _ => exact cell_at (heap_alloc_at rfl _) 0
  exact conv_bytes hb _ _ Tryd.underlying23 Tryd.underlying5 _ Tryd.underlying9
theorem idx_run (s : List UInt8) (i : Nat) (h : i < s.length) (w : World) : (Instr.index 9 (.string ⟨s.toArray⟩) (.int .i64 (i : Nat))).run Tryd.prog w = .ok (.int .u8 ((s[i]'h).toNat : Nat)) w := by
  rw [run_index_string _ _ _ _ _ Tryd.underlying9, dif_pos ⟨by omega, by rw [bsize]; omega⟩]
  have := byte_at s i h
  simp only [Int.toNat_natCast]
  rw [this]
def PtPost (o : Option (List UInt8 × Nat)) (w : World) (e : Ending) (w' : World) : Prop :=
  match o with
  | some (b, n) => e = .returned (.tuple #[.string ⟨b.toArray⟩, .int .i64 (n : Nat)]) ∧ Ext none' w w'
  | none => e = .panicked [{ v := gaveW, recovered := false }] ∧ Ext none' w w'
theorem single_lt {c d : Nat} (h : singleP c = some d) : d < 256 := by
  unfold singleP at h
  iterate 9
    split at h
    · injection h with h; omega
  cases h
theorem conv_rune {v : Nat} (h : Lib.validRune (v : Int) = true) (w : World) : (convert 21 9 (.int .i32 (v : Nat))).run Tryd.prog w = .ok (.string ⟨(runeB v).toArray⟩) w := by
  rw [runeB_eq h]
  exact run_convert_int_string w 21 9 .i32 (v : Nat) (by rw [Tryd.underlying21]; rfl) Tryd.underlying9
theorem region_in3 {P : Program} {id : Nat} {Q : Exit → Act → World → Prop} {a : Act} {w : World} {l : List Oper} (F : Nat → Prop) (w0 : World) (lA lB lC : List Nat) (hm : P.follows .mixedOrders = true) (hB : mixed3B l.toArray lA lB lC = true)
    (hQ : ∀ (dst : Option Tmp) v c a w, Q (.panic c) (a.put dst v) w → Q (.panic c) a w) (hC : Ext F w0 w)
    (h : wpQuiet P l.toArray (fun w' => ∃ t : LaterF F w0, w' = t.w) (fun a' => wpChainK P l Q (In F w0) (fun a2 w2 => wpQuiet P l.toArray (fun w' => ∃ t : LaterF F w0, w' = t.w) (fun a3 => Q .normal a3 w2) (sel l lC) a2) lB a' w.drew) (sel l lA) a) : (Code.region id l.toArray true).wp P Q a w :=
  region_mixed3 (In F w0) lA lB lC hm hB hQ (In.of hC.drew) h
theorem s_cases (s : List UInt8) : s = [] ∨ ∃ c t, s = c :: t := by
  cases s with
  | nil => exact .inl rfl
  | cons c t => exact .inr ⟨c, t, rfl⟩
set_option maxRecDepth 100000 in
set_option maxHeartbeats 3200000 in
theorem part_any (s : List UInt8) (w : World) (hs : s.length ≤ 1000000) : Calls Tryd.prog 35 #[.string ⟨s.toArray⟩] w (PtPost (partP s) w) := by
  obtain ⟨p, hp⟩ : ∃ p, p = partP s := ⟨_, rfl⟩
  rw [← hp]
  have HP := hid hp
  clear hp
  rcases s_cases s with rfl | ⟨c, t, hsc⟩
  · have e : Hid (p = none) := hid HP.out
    go_enter Tryd.func35, Tryd.ntmps35
    go_wp2_with fail
    refine (wneed_no _).mono ?_
    rintro e' w1 ⟨rfl, rfl⟩
    go_wp2_with fail
    rw [e.out]
    exact ⟨rfl, rfl, Ext.refl _ _⟩
  · have HP1 := hid (HP.out.trans ((congrArg partP hsc).trans (partP_cons c t)))
    have hsl : 0 < s.length := by rw [hsc]; simp
    have hix := byte_at s 0 hsl
    have hc0 : s[0]'hsl = c := by subst hsc; rfl
    rw [hc0] at hix
    have hne : (s == []) = false := by rw [hsc]; rfl
    have HD1 := hid (drop_str s 1)
    have hd1 : s.drop 1 = t := by rw [hsc]; rfl
    rw [hd1] at HD1
    have htl : t.length ≤ 1000000 := by rw [hsc] at hs; simpa using Nat.le_of_succ_le hs
    have HSC := hid hsc
    have hrun : ∀ w, (Instr.index 9 (.string ⟨s.toArray⟩) (.int .i64 0)).run Tryd.prog w = .ok (.int .u8 (c.toNat : Nat)) w := fun w => by
      have := idx_run s 0 hsl w
      rw [hc0] at this; exact this
    clear HP hc0 hd1 hsc
    have CS := hid (single_any w)
    go_enter Tryd.func35, Tryd.ntmps35
    go_wp2_with fail
    refine (wneed_yes _).mono ?_
    rintro e' w1 ⟨rfl, rfl⟩
    go_wp2_with fail
    refine region_in3 none' w [1, 2] [0, 3] [4, 5, 6, 7, 8] (by kernel_rfl) (by kernel_rfl) (fun dst v c a w h => by cases dst <;> exact h) (Ext.refl _ _) ?_
    simp only [sel, List.getElem?_cons_succ, List.getElem?_cons_zero]
    repeat (go_big_quiet_step (fail))
    refine wpQuiet_nil ?_
    simp only [wpChainK, sel, List.getElem?_cons_succ, List.getElem?_cons_zero]
    go_wp2_with fail
    refine (single_any _).mono ?_
    rintro e' w1 ⟨r, rfl, hr, X1⟩
    have X1 := hid ((Ext.refl none' w).drew.trans X1)
    have hlk := look_single c.toNat hr
    clear hr
    go_wp2_with fail
    refine ⟨In.of X1.out, ?_⟩
    cases hsg : singleP c.toNat with
    | some d =>
      have e : Hid (p = some ([UInt8.ofNat d], 1)) := hid (by rw [HP1.out, hsg])
      have hd := single_lt hsg
      have hd8 : (d : Int) = ((UInt8.ofNat d).toNat : Nat) := by rw [UInt8.toNat_ofNat']; omega
      have hcv := conv_one w1 (UInt8.ofNat d) (z := (d : Int)) hd8
      rw [hsg] at hlk
      simp only at hlk
      clear hsg hd hd8
      go_wp2_with fail
      refine ⟨In.of X1.out, ?_⟩
      repeat (go_big_quiet_step (fail))
      refine wpQuiet_nil ?_
      go_wp2_with fail
      go_ret2
      rw [e.out]
      exact ⟨rfl, X1.out.alloc _⟩
    | none =>
      have HP2 : Hid (p = if c = 120 then (digitsP 16 2 t).map fun v => ([UInt8.ofNat v], 3)
        else if c = 117 ∨ c = 85 then (match digitsP 16 (if c = 85 then 8 else 4) t with
          | none => none
          | some v => if Lib.validRune v = true then some (runeB v, (if c = 85 then 8 else 4) + 1) else none)
        else match digitsP 8 3 s with
          | none => none
          | some v => if v ≤ 255 then some ([UInt8.ofNat v], 3) else none) := hid (by rw [HP1.out, hsg, HSC.out]; rfl)
      rw [hsg] at hlk
      simp only at hlk
      clear hsg HP1
      go_wp2_with fail
      refine ⟨In.of X1.out, ?_⟩
      repeat (go_big_quiet_step (fail))
      refine wpQuiet_nil ?_
      clear hlk
      by_cases m1 : c = 120
      · have HP3 : Hid (p = (digitsP 16 2 t).map fun v => ([UInt8.ofNat v], 3)) := hid (by rw [HP2.out, if_pos m1])
        subst m1
        clear HP2
        have CD : Hid (Calls Tryd.prog 49 #[.string ⟨(t).toArray⟩, .int .i64 2, .int .i64 16] w1 (DgPost (digitsP 16 2 t) w1)) := hid (digits_any t 2 16 w1 (by omega) (by omega) (by omega))
        cases hdg : digitsP 16 2 t with
        | none =>
          have e : Hid (p = none) := hid (by rw [HP3.out, hdg] <;> rfl)
          rw [hdg] at CD
          clear hdg
          go_wp2_with fail
          rw [HD1.out]
          refine CD.out.mono ?_
          rintro e' w2 ⟨rfl, X2⟩
          have X2 := hid X2
          go_wp2_with fail
          rw [e.out]
          exact ⟨rfl, rfl, X1.out.trans X2.out⟩
        | some v =>
          have hvl := (digitsP_lt (by omega) hdg).1
          have e : Hid (p = some ([UInt8.ofNat v], 3)) := hid (by rw [HP3.out, hdg] <;> rfl)
          have hv256 : v < 256 := hvl
          rw [hdg] at CD
          clear hdg
          go_wp2_with fail
          rw [HD1.out]
          refine CD.out.mono ?_
          rintro e' w2 ⟨rfl, X2⟩
          have X2 := hid X2
          clear hvl
          have hv8 : (v : Int) = ((UInt8.ofNat v).toNat : Nat) := by rw [UInt8.toNat_ofNat']; omega
          have hcv := conv_one w2 (UInt8.ofNat v) (z := (v : Int)) hv8
          clear hv8
          go_wp2_with fail
          go_ret2
          rw [e.out]
          exact ⟨rfl, (X1.out.trans X2.out).alloc _⟩
      · have n1 : ((c.toNat : Int) == 120) = false := by have := u8n m1; simp at this ⊢; omega
        by_cases m2 : c = 117 ∨ c = 85
        · have HP3' : Hid (p = (match digitsP 16 (if c = 85 then 8 else 4) t with
            | none => none
            | some v => if Lib.validRune v = true then some (runeB v, (if c = 85 then 8 else 4) + 1) else none)) := hid (by rw [HP2.out, if_neg m1, if_pos m2])
          clear HP2 m1
          rcases m2 with m2 | m2
          · have HP3 : Hid (p = (match digitsP 16 4 t with
              | none => none
              | some v => if Lib.validRune v = true then some (runeB v, 4 + 1) else none)) := hid (by rw [HP3'.out, if_neg (by rw [m2]; decide)])
            subst m2
            clear HP3'
            have CD : Hid (Calls Tryd.prog 49 #[.string ⟨(t).toArray⟩, .int .i64 4, .int .i64 16] w1 (DgPost (digitsP 16 4 t) w1)) := hid (digits_any t 4 16 w1 (by omega) (by omega) (by omega))
            cases hdg : digitsP 16 4 t with
            | none =>
              have e : Hid (p = none) := hid (by rw [HP3.out, hdg] <;> rfl)
              rw [hdg] at CD
              clear hdg
              go_wp2_with fail
              rw [HD1.out]
              refine CD.out.mono ?_
              rintro e' w2 ⟨rfl, X2⟩
              have X2 := hid X2
              go_wp2_with fail
              rw [e.out]
              exact ⟨rfl, rfl, X1.out.trans X2.out⟩
            | some v =>
              have hvl := (digitsP_lt (by omega) hdg).1
              have hv32 : v < 65536 := hvl
              clear hvl
              by_cases hvr : Lib.validRune (v : Int) = true
              · have e : Hid (p = some (runeB v, 4 + 1)) := hid (by rw [HP3.out, hdg]; simp only; rw [if_pos hvr])
                have hcv := fun W => conv_rune hvr W
                obtain ⟨B, hB⟩ : ∃ B, runeB v = B := ⟨_, rfl⟩
                rw [hB] at e
                simp only [hB] at hcv
                clear hB
                have hvm : v ≤ 1114111 := by unfold Lib.validRune at hvr; simp at hvr; omega
                rw [hdg] at CD
                have CV := hid fun W => Tryd.utf8_ValidRune (v : Int) W
                rw [hvr] at CV
                clear hdg hvr
                go_wp2_with fail
                rw [HD1.out]
                refine CD.out.mono ?_
                rintro e' w2 ⟨rfl, X2⟩
                have X2 := hid X2
                go_wp2_with fail
                refine (CV.out _).mono ?_
                rintro e' w3 ⟨rfl, rfl⟩
                go_wp2_with fail
                refine (wneed_yes _).mono ?_
                rintro e' w3 ⟨rfl, rfl⟩
                go_wp2_with fail
                go_ret2
                rw [e.out]
                exact ⟨rfl, X1.out.trans X2.out⟩
              · have e : Hid (p = none) := hid (by rw [HP3.out, hdg]; simp only; rw [if_neg hvr])
                have hvf : Lib.validRune (v : Int) = false := by simpa using hvr
                rw [hdg] at CD
                have CV := hid fun W => Tryd.utf8_ValidRune (v : Int) W
                rw [hvf] at CV
                clear hdg hvr hvf
                by_cases hvm : v ≤ 1114111
                · go_wp2_with fail
                  rw [HD1.out]
                  refine CD.out.mono ?_
                  rintro e' w2 ⟨rfl, X2⟩
                  have X2 := hid X2
                  go_wp2_with fail
                  refine (CV.out _).mono ?_
                  rintro e' w3 ⟨rfl, rfl⟩
                  go_wp2_with fail
                  refine (wneed_no _).mono ?_
                  rintro e' w3 ⟨rfl, rfl⟩
                  go_wp2_with fail
                  rw [e.out]
                  exact ⟨rfl, rfl, X1.out.trans X2.out⟩
                · exfalso; omega
          · have HP3 : Hid (p = (match digitsP 16 8 t with
              | none => none
              | some v => if Lib.validRune v = true then some (runeB v, 8 + 1) else none)) := hid (by rw [HP3'.out, if_pos m2])
            subst m2
            clear HP3'
            have CD : Hid (Calls Tryd.prog 49 #[.string ⟨(t).toArray⟩, .int .i64 8, .int .i64 16] w1 (DgPost (digitsP 16 8 t) w1)) := hid (digits_any t 8 16 w1 (by omega) (by omega) (by omega))
            cases hdg : digitsP 16 8 t with
            | none =>
              have e : Hid (p = none) := hid (by rw [HP3.out, hdg] <;> rfl)
              rw [hdg] at CD
              clear hdg
              go_wp2_with fail
              rw [HD1.out]
              refine CD.out.mono ?_
              rintro e' w2 ⟨rfl, X2⟩
              have X2 := hid X2
              go_wp2_with fail
              rw [e.out]
              exact ⟨rfl, rfl, X1.out.trans X2.out⟩
            | some v =>
              have hvl := (digitsP_lt (by omega) hdg).1
              have hv32 : v < 4294967296 := hvl
              clear hvl
              by_cases hvr : Lib.validRune (v : Int) = true
              · have e : Hid (p = some (runeB v, 8 + 1)) := hid (by rw [HP3.out, hdg]; simp only; rw [if_pos hvr])
                have hcv := fun W => conv_rune hvr W
                obtain ⟨B, hB⟩ : ∃ B, runeB v = B := ⟨_, rfl⟩
                rw [hB] at e
                simp only [hB] at hcv
                clear hB
                have hvm : v ≤ 1114111 := by unfold Lib.validRune at hvr; simp at hvr; omega
                rw [hdg] at CD
                have CV := hid fun W => Tryd.utf8_ValidRune (v : Int) W
                rw [hvr] at CV
                clear hdg hvr
                go_wp2_with fail
                rw [HD1.out]
                refine CD.out.mono ?_
                rintro e' w2 ⟨rfl, X2⟩
                have X2 := hid X2
                go_wp2_with fail
                refine (CV.out _).mono ?_
                rintro e' w3 ⟨rfl, rfl⟩
                go_wp2_with fail
                refine (wneed_yes _).mono ?_
                rintro e' w3 ⟨rfl, rfl⟩
                go_wp2_with fail
                go_ret2
                rw [e.out]
                exact ⟨rfl, X1.out.trans X2.out⟩
              · have e : Hid (p = none) := hid (by rw [HP3.out, hdg]; simp only; rw [if_neg hvr])
                have hvf : Lib.validRune (v : Int) = false := by simpa using hvr
                rw [hdg] at CD
                have CV := hid fun W => Tryd.utf8_ValidRune (v : Int) W
                rw [hvf] at CV
                clear hdg hvr hvf
                by_cases hvm : v ≤ 1114111
                · go_wp2_with fail
                  rw [HD1.out]
                  refine CD.out.mono ?_
                  rintro e' w2 ⟨rfl, X2⟩
                  have X2 := hid X2
                  go_wp2_with fail
                  refine (CV.out _).mono ?_
                  rintro e' w3 ⟨rfl, rfl⟩
                  go_wp2_with fail
                  refine (wneed_no _).mono ?_
                  rintro e' w3 ⟨rfl, rfl⟩
                  go_wp2_with fail
                  rw [e.out]
                  exact ⟨rfl, rfl, X1.out.trans X2.out⟩
                · have hvm' : 1114111 < v := by omega
                  clear hvm
                  go_wp2_with fail
                  rw [HD1.out]
                  refine CD.out.mono ?_
                  rintro e' w2 ⟨rfl, X2⟩
                  have X2 := hid X2
                  go_wp2_with fail
                  refine (wneed_no _).mono ?_
                  rintro e' w3 ⟨rfl, rfl⟩
                  go_wp2_with fail
                  rw [e.out]
                  exact ⟨rfl, rfl, X1.out.trans X2.out⟩
        · have HP3 : Hid (p = (match digitsP 8 3 s with
            | none => none
            | some v => if v ≤ 255 then some ([UInt8.ofNat v], 3) else none)) := hid (by rw [HP2.out, if_neg m1, if_neg m2])
          have n2 : ((c.toNat : Int) == 117) = false := by have := u8n (fun h => m2 (.inl h)); simp at this ⊢; omega
          have n3 : ((c.toNat : Int) == 85) = false := by have := u8n (fun h => m2 (.inr h)); simp at this ⊢; omega
          clear HP2 m1 m2
          have CD : Hid (Calls Tryd.prog 49 #[.string ⟨(s).toArray⟩, .int .i64 3, .int .i64 8] w1 (DgPost (digitsP 8 3 s) w1)) := hid (digits_any s 3 8 w1 (by omega) (by omega) (by omega))
          cases hdg : digitsP 8 3 s with
          | none =>
            have e : Hid (p = none) := hid (by rw [HP3.out, hdg] <;> rfl)
            rw [hdg] at CD
            clear hdg
            go_wp2_with fail
            refine CD.out.mono ?_
            rintro e' w2 ⟨rfl, X2⟩
            have X2 := hid X2
            go_wp2_with fail
            rw [e.out]
            exact ⟨rfl, rfl, X1.out.trans X2.out⟩
          | some v =>
            have hvl := (digitsP_lt (by omega) hdg).1
            by_cases h255 : v ≤ 255
            · have e : Hid (p = some ([UInt8.ofNat v], 3)) := hid (by rw [HP3.out, hdg]; simp only; rw [if_pos h255])
              have hdec : decide ((v : Int) ≤ 255) = true := by simp; omega
              rw [hdg] at CD
              clear hdg
              go_wp2_with fail
              refine CD.out.mono ?_
              rintro e' w2 ⟨rfl, X2⟩
              have X2 := hid X2
              clear hvl
              go_wp2_with fail
              refine (wneed_yes _).mono ?_
              rintro e' w3 ⟨rfl, rfl⟩
              have hv8 : (v : Int) = ((UInt8.ofNat v).toNat : Nat) := by rw [UInt8.toNat_ofNat']; omega
              have hcv := conv_one w2 (UInt8.ofNat v) (z := (v : Int)) hv8
              clear hv8
              go_wp2_with fail
              go_ret2
              rw [e.out]
              exact ⟨rfl, (X1.out.trans X2.out).alloc _⟩
            · have e : Hid (p = none) := hid (by rw [HP3.out, hdg]; simp only; rw [if_neg h255])
              have hv512 : v < 4096 := hvl
              have hdec : decide ((v : Int) ≤ 255) = false := by simp; omega
              rw [hdg] at CD
              clear hdg
              go_wp2_with fail
              refine CD.out.mono ?_
              rintro e' w2 ⟨rfl, X2⟩
              have X2 := hid X2
              clear hvl
              go_wp2_with fail
              refine (wneed_no _).mono ?_
              rintro e' w3 ⟨rfl, rfl⟩
              go_wp2_with fail
              rw [e.out]
              exact ⟨rfl, rfl, X1.out.trans X2.out⟩
end Go.Proofs.YtielcpnalepkfaaDoor
