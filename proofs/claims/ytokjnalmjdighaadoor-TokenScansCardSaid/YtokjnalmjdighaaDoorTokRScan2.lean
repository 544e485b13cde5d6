import Derived.Test.YtokjnalmjdighaaDoorTokRScan
import Derived.Deep.CutRange
namespace Go.Proofs.YtokjnalmjdighaaDoor
open Go.RowKit Go.Lib Go.BigFrame
theorem bom_len {s : List UInt8} (h : wrongP s < 0) (hl : 0 < s.length) (h0 : s[0] = 239) : 3 ≤ s.length := by
  have hne : s ≠ [] := List.length_pos_iff.1 hl
  have hs := wrR_step s 0 hne
  unfold wrongP at h
  by_cases hh : halts (decodeL s) 0
  · rw [if_pos hh] at hs; omega
  · rcases Nat.lt_or_ge s.length 3 with h3 | h3
    · exfalso
      apply hh
      right; left
      rw [decodeL_N]
      have h0' : (s.getD 0 0).toNat = 239 := by rw [List.getD_eq_getElem?_getD, List.getElem?_eq_getElem hl, Option.getD_some, h0]; rfl
      rw [h0']
      unfold decodeN
      simp
      omega
    · exact h3
theorem bom_dec {s : List UInt8} (h3 : 3 ≤ s.length) (h0 : s[0] = 239) : decide (s.take 3 = [239, 187, 191]) = decide (s[1] = 187 ∧ s[2] = 191) := by
  match s, h3 with
  | d :: e :: g :: t, _ =>
    simp only [List.getElem_cons_zero] at h0
    simp [h0]
set_option maxRecDepth 100000 in
set_option maxHeartbeats 30000000 in
theorem rscan_main (B : Nat) (s : List UInt8) (v : Value) (w : World) (hv : Bytes B w v s) (hs : s.length ≤ 65536) (hw : wrongP s < 0) :
    Calls Tryd.prog 12 #[v] w (RScanPost w (runR s)) := by
  have CW := hid (ref_wrong B s v w hv (by omega))
  have HB3 := hid fun h0 h1 => bom_len hw h0 h1
  have HV := hid hv
  obtain ⟨aa, cap, rfl, h1, h2, h3, h4⟩ := hv
  have H4 := hid h4
  clear h3 h4
  obtain ⟨p, hp⟩ : ∃ p, p = runR s := ⟨_, rfl⟩
  rw [← hp]
  have HP := hid hp
  clear hp
  obtain ⟨q, hq⟩ : ∃ q : Int, wrongP s = q := ⟨_, rfl⟩
  rw [hq] at CW hw
  clear hq
  obtain ⟨q0, hq0⟩ : ∃ q0, q0 = runP s s.length 0 [] [] := ⟨_, rfl⟩
  have HQ0 := hid hq0
  clear hq0
  go_enter Tryd.func12, Tryd.ntmps12
  go_wp2_with fail
  refine CW.out.mono ?_
  rintro e w1 ⟨rfl, rfl⟩
  go_wp2_with fail
  go_loopw [7, 8, 9] (fun vl vn z wr => ∃ k l n f, z = .int .i64 (k : Nat) ∧ RsRel s q0 w wr vl vn k l n f) (fun _ _ z _ => s.length - (RowKit.intOf z).toNat)
  case atStart => exact ⟨0, [], [], s.length, rfl, ⟨by omega, World.ownsRow_nil _ _ _ _, World.ownsRow_nil _ _ _ _, (fun g h => by cases h), Inv.start s, Ext.refl _ _, HQ0.out, by omega⟩⟩
  case round =>
    obtain ⟨k, l, n, f, rfl, R⟩ := hrel
    have hle := R.le
    by_cases hk : k < s.length
    · have hne : s ≠ [] := by intro e; subst e; simp at hk
      obtain ⟨b, off, rfl, hbB, hbw, hcell⟩ := H4.out hne
      have HC := hid fun (t : LaterF none' wr) j (hj : j < s.length) => ((R.hx.trans t.x).cell (p := ⟨b, off + j, none⟩) hbw (fun h => h)).trans (hcell j hj)
      have HR := hid R
      have ck := HC.out ⟨wr, Ext.refl _ _⟩ k hk
      clear hcell R hne
      obtain ⟨c, hc⟩ : ∃ c, s[k] = c := ⟨_, rfl⟩
      simp only [hc] at ck
      have HCC := hid hc
      clear hc
      obtain ⟨bb, hbb⟩ : ∃ bb, bb = decide (k = 0 ∧ s.take 3 = [239, 187, 191]) := ⟨_, rfl⟩
      have HBB := hid hbb
      clear hbb
      go_upto_region 14 with (fail)
      go_cut [42] from 43 to 60 (fun z wx => z = .bool bb ∧ wx = wr)
      case first =>
        by_cases hk0 : k = 0
        · have e0 : ((k : Int) == 0) = true := by simp [hk0]
          by_cases h239 : c = 239
          · have hl3 := HB3.out (by omega) (by have := HCC.out; subst hk0; exact this.trans h239)
            have g1 := HC.out ⟨wr, Ext.refl _ _⟩ 1 (by omega)
            have g2 := HC.out ⟨wr, Ext.refl _ _⟩ 2 (by omega)
            have hbe : bb = decide (s[1] = 187 ∧ s[2] = 191) := by
              have h0 : s[0]'(by omega) = 239 := by have := HCC.out; subst hk0; exact this.trans h239
              rw [HBB.out, ← bom_dec hl3 h0]
              simp [hk0]
            obtain ⟨y1, hy1⟩ : ∃ y, s[1] = y := ⟨_, rfl⟩
            obtain ⟨y2, hy2⟩ : ∃ y, s[2] = y := ⟨_, rfl⟩
            simp only [hy1] at g1
            simp only [hy2] at g2
            rw [hy1, hy2] at hbe
            subst h239
            clear hk0 hy1 hy2
            by_cases a1 : y1 = 187
            · subst a1
              by_cases a2 : y2 = 191
              · subst a2
                have hbt : bb = true := by rw [hbe]; rfl
                clear hbe
                go_wp2_with fail
                go_meet
                case rel => exact ⟨by rw [hbt], rfl⟩
              · have e2 : ((y2.toNat : Int) == 191) = false := by have := u8ne a2; simp at this ⊢; omega
                have hbf : bb = false := by rw [hbe]; simp [a2]
                clear hbe a2
                go_wp2_with fail
                go_meet
                case rel => exact ⟨by rw [hbf], rfl⟩
            · have e1 : ((y1.toNat : Int) == 187) = false := by have := u8ne a1; simp at this ⊢; omega
              have hbf : bb = false := by rw [hbe]; simp [a1]
              clear hbe a1
              go_wp2_with fail
              go_meet
              case rel => exact ⟨by rw [hbf], rfl⟩
          · have e239 : ((c.toNat : Int) == 239) = false := by have := u8ne h239; simp at this ⊢; omega
            have hbf : bb = false := by
              rw [HBB.out]
              simp only [decide_eq_false_iff_not]
              rintro ⟨_, h⟩
              have h2 := HCC.out
              cases s with
              | nil => simp at hk
              | cons d t =>
                subst hk0
                simp at h2 h
                exact h239 (h2.symm.trans h.1)
            clear hk0 h239
            go_wp2_with fail
            go_meet
            case rel => exact ⟨by rw [hbf], rfl⟩
        · have e0 : ((k : Int) == 0) = false := by simp [hk0]
          have hbf : bb = false := by rw [HBB.out]; simp [hk0]
          clear hk0
          go_wp2_with fail
          go_meet
          case rel => exact ⟨by rw [hbf], rfl⟩
      case rest =>
        obtain ⟨rfl, rfl⟩ := hcut
        have hst := stepP_eq (l := l) (n := n) hk HCC.out
        have HS := hid hst
        clear hst
        cases bb with
        | true =>
          have hb : k = 0 ∧ s.take 3 = [239, 187, 191] := by simpa using HBB.out.symm
          have N := hid (HR.out.next hk (HS.out.trans (if_pos hb)) HR.out.rows)
          have HKZ := hid hb.1
          clear hb
          go_wp2_with fail
          go_roundw
          case rel => exact ⟨3, l, n, f - 1, rfl, N.out⟩
          case measure => have := HKZ.out; simp [RowKit.intOf]; omega
        | false =>
          have hb : ¬ (k = 0 ∧ s.take 3 = [239, 187, 191]) := by simpa using HBB.out.symm
          have HS1 := hid (HS.out.trans (if_neg hb))
          clear hb
          have hkind : ∀ t ∈ l, 1 ≤ t.kind ∧ t.kind ≤ 6 := fun t ht => ⟨(HR.out.inv.good t ht).2.2, (HR.out.inv.good t ht).1⟩
          have hshort : ∀ t ∈ l, t.text.length ≤ 1000000 := fun t ht => by have := HR.out.inv.short t ht; omega
          have CE := hid fun W (x : Ext none' wc W) => rends_any _ l _ W ((Toks.of_owns HR.out.rl).keep x) (by have := HR.out.inv.ll; omega) hkind hshort
          have HLL := hid (show l.length ≤ 65536 by have := HR.out.inv.ll; omega)
          have HNL := hid (show n.length ≤ 65536 by have := HR.out.inv.nl; omega)
          obtain ⟨i0, hi, hz0, hz1, hz2⟩ := info_parts infoR
          have I0 := hid hi
          have I1 := hid hz0
          have I2 := hid hz1
          have I3 := hid hz2
          clear hi hz0 hz1 hz2 hkind hshort
          by_cases h10 : c = 10
          · as_aux_lemma =>
              subst h10
              have HS2 := hid (HS1.out.trans (if_pos rfl))
              go_wp2_with fail
              refine (CE.out _ (Ext.refl _ _)).mono ?_
              rintro e W ⟨rfl, hX⟩
              have T := HR.out.rows.later hX
              cases hE : endsP l with
              | true =>
                have hlp : lineP l k = l ++ [⟨6, [10], k⟩] := by unfold lineP; rw [if_pos hE]
                have HL := hid hlp
                have T1 := T.later ((Ext.refl none' W).alloc (.cells #[.int .i64 6, .string ⟨#[10]⟩, .int .i64 k] 48))
                have O1 := hid T1.rl
                have src : Src Tryd.prog 3 31 (.slice (some ⟨W.heap.size, 0, none⟩) 1 1) 1 (tokCells ⟨6, [10], k⟩) (W.alloc (.cells #[.int .i64 6, .string ⟨#[10]⟩, .int .i64 k] 48)) := tok_srcR (t := 48) (fz := (0, 0)) (heap_alloc_at rfl _) rfl (by simp [tokCells, Value.oneCell'])
                have S1 := hid src
                have HT1 := hid T1
                clear hE hlp T T1 src hX
                go_wp2_with (at_builtin; refine wpList_app _ rfl (.tmp 66) (.tmp 69) 31 31 rfl w.heap.size 48 i0 _ 3 32 Tryd.underlying31 I0.out I1.out I2.out I3.out rfl _ l.length (tokVals l) rfl O1.out _ 1 _ rfl S1.out ?_ ?_ ?_ ?_)
                · have := HLL.out; unfold maxLen; omega
                · have := HLL.out; omega
                · have := HT1.out.hx.size; omega
                intro v2 w2 own2 grow2 blk2 _
                have TT := HT1.out.snocL own2 grow2 (by simpa using blk2)
                rw [← HL.out] at TT
                have N := hid (HR.out.next hk HS2.out TT)
                clear own2 grow2 blk2 TT
                go_wp2_with fail
                go_roundw
                case rel => exact ⟨k + 1, lineP l k, n, f - 1, by go_num, N.out⟩
                case measure => simp [RowKit.intOf]; omega
              | false =>
                have hlp : lineP l k = l := by unfold lineP; rw [if_neg (by rw [hE]; decide)]
                rw [hlp] at HS2
                have N := hid (HR.out.next hk HS2.out T)
                clear hE hlp T hX
                go_wp2_with fail
                go_roundw
                case rel => exact ⟨k + 1, l, n, f - 1, by go_num, N.out⟩
                case measure => simp [RowKit.intOf]; omega
          · have e10 : ((c.toNat : Int) == 10) = false := by have := u8ne h10; simp at this ⊢; omega
            have HS2 := hid (HS1.out.trans (if_neg h10))
            clear h10
            by_cases hbl : c = 32 ∨ c = 9 ∨ c = 13
            · as_aux_lemma =>
                have HS3 := hid (HS2.out.trans (if_pos hbl))
                have N := hid (HR.out.next hk HS3.out HR.out.rows)
                rcases hbl with rfl | rfl | rfl
                all_goals
                  go_wp2_with fail
                  go_roundw
                  case rel => exact ⟨k + 1, l, n, f - 1, by go_num, N.out⟩
                  case measure => simp [RowKit.intOf]; omega
            · have HS3 := hid (HS2.out.trans (if_neg hbl))
              have e32 : ((c.toNat : Int) == 32) = false := by have := u8ne (fun h => hbl (.inl h)); simp at this ⊢; omega
              have e9 : ((c.toNat : Int) == 9) = false := by have := u8ne (fun h => hbl (.inr (.inl h))); simp at this ⊢; omega
              have e13 : ((c.toNat : Int) == 13) = false := by have := u8ne (fun h => hbl (.inr (.inr h))); simp at this ⊢; omega
              clear hbl
              have CN := hid fun W (x : Ext none' w W) => rnote_any B s _ k W (HV.out.keep x) hk (by omega)
              have XW := hid HR.out.hx
              have hnp : ∃ x, noteP (s.drop k) = x := ⟨_, rfl⟩
              obtain ⟨np, hnp⟩ := hnp
              rw [hnp] at CN HS3
              have HNP := hid hnp
              clear hnp
              cases np with
              | bad =>
                · as_aux_lemma =>
                    have HPP : Hid (p = .bad k 3) := hid (by
                      rw [HP.out]
                      unfold runR
                      rw [← HQ0.out, HR.out.run, runP_step hk HR.out.fuel, HS3.out])
                    go_wp2_with fail
                    refine (CN.out _ XW.out).mono ?_
                    rintro e w2 ⟨rfl, rfl⟩
                    simp only [noteN]
                    go_wp2_with fail
                    refine (CN.out _ XW.out).mono ?_
                    rintro e w2 ⟨rfl, rfl⟩
                    simp only [noteN]
                    go_wp2_with fail
                    rw [HPP.out]
                    exact bodyPost_ret (v := .tuple #[.slice none 0 0, .slice none 0 0, .int .i64 k, .int .i64 3]) (by simp [results, Tryd.results12, go_sem]) rfl ⟨_, _, rfl, Toks.nil _ _, Toks.nil _ _, XW.out⟩
              | len m =>
                · as_aux_lemma =>
                    have hm2 : 2 ≤ m := (noteP_le HNP.out).1
                    have hmk : k + m ≤ s.length := by have := (noteP_le HNP.out).2; rw [List.length_drop] at this; omega
                    obtain ⟨j, hj⟩ : ∃ j, j = k + m := ⟨_, rfl⟩
                    rw [show noteN k (.len m) = ((j : Nat) : Int) from by rw [hj]; rfl] at CN
                    have HS4 : Hid (stepP s k l n = some (j, (if 10 ∈ (s.drop k).take m then lineP l k else l), n ++ [⟨0, (s.drop k).take m, k⟩])) := hid (by rw [hj]; exact HS3.out)
                    have hkj : k < j := by omega
                    have hjs : j ≤ s.length := by omega
                    have hjk : j - k = m := by omega
                    have HJK := hid hjk
                    have hmj : m = j - k := hjk.symm
                    have e0 : ((j : Int) != 0) = true := by simp; omega
                    have hc1 : s.length ≤ cap := h1
                    clear hj hmk hm2 hjk hmj
                    go_wp2_with (go_at_call 22; refine (CN.out _ XW.out).mono ?_; rintro e w2 ⟨rfl, rfl⟩)
                    go_loop [13, 14] (fun ln z => ∃ (a : Nat) (d : Bool), z = .int .i64 a ∧ ln = .bool d ∧ k ≤ a ∧ a ≤ j ∧ Hid (d = decide (10 ∈ (s.drop k).take (a - k)))) (fun _ z => j - (RowKit.intOf z).toNat)
                    case atStart => exact ⟨k, false, rfl, rfl, by omega, by omega, hid (by simp)⟩
                    case round =>
                      obtain ⟨a, d, rfl, rfl, hka, haj, HD⟩ := hrel
                      by_cases hi : a < j
                      · have ca := HC.out ⟨wc, Ext.refl _ _⟩ a (by omega)
                        have hta : (s.drop k).take (a + 1 - k) = (s.drop k).take (a - k) ++ [s[a]] := by
                          rw [show a + 1 - k = (a - k) + 1 by omega, List.take_add_one, List.getElem?_drop, show k + (a - k) = a by omega, List.getElem?_eq_getElem (by omega)]
                          rfl
                        obtain ⟨y, hy⟩ : ∃ y, s[a] = y := ⟨_, rfl⟩
                        rw [hy] at hta
                        simp only [hy] at ca
                        have HTA := hid hta
                        clear hta hy
                        cases d with
                        | true =>
                          have N : Hid (true = decide (10 ∈ (s.drop k).take (a + 1 - k))) := hid (by
                            have h := HD.out.symm
                            simp only [decide_eq_true_eq] at h
                            symm
                            simp only [decide_eq_true_eq]
                            rw [HTA.out]
                            exact List.mem_append_left _ h)
                          go_wp2_with fail
                          go_round
                          case rel => exact ⟨a + 1, true, by go_num, rfl, by omega, by omega, N⟩
                          case measure => simp [RowKit.intOf]; omega
                        | false =>
                          have hd0 : 10 ∉ (s.drop k).take (a - k) := by have h := HD.out.symm; simpa only [decide_eq_false_iff_not] using h
                          have HD0 := hid hd0
                          clear hd0
                          by_cases hy : y = 10
                          · subst hy
                            have N : Hid (true = decide (10 ∈ (s.drop k).take (a + 1 - k))) := hid (by rw [HTA.out]; simp)
                            go_wp2_with fail
                            go_round
                            case rel => exact ⟨a + 1, true, by go_num, rfl, by omega, by omega, N⟩
                            case measure => simp [RowKit.intOf]; omega
                          · have ey : ((y.toNat : Int) == 10) = false := by have := u8ne hy; simp at this ⊢; omega
                            have N : Hid (false = decide (10 ∈ (s.drop k).take (a + 1 - k))) := hid (by
                              symm
                              rw [HTA.out]
                              simp only [decide_eq_false_iff_not, List.mem_append, List.mem_singleton, not_or]
                              exact ⟨HD0.out, fun h => hy h.symm⟩)
                            clear hy
                            go_wp2_with fail
                            go_round
                            case rel => exact ⟨a + 1, false, by go_num, rfl, by omega, by omega, N⟩
                            case measure => simp [RowKit.intOf]; omega
                      · obtain rfl : a = j := by omega
                        have HDJ : Hid (d = decide (10 ∈ (s.drop k).take m)) := hid (by rw [HD.out, HJK.out])
                        have hjm : a = k + m := by have := HJK.out; omega
                        obtain ⟨j, hjj⟩ : ∃ j, j = a := ⟨_, rfl⟩
                        subst hjj
                        clear HD haj hka hi
                        have HJM := hid hjm
                        have HKJ := hid hkj
                        have HJS := hid hjs
                        clear hjm
                        cases d with
                        | true =>
                          have h10m : 10 ∈ (s.drop k).take m := by have h := HDJ.out.symm; simpa only [decide_eq_true_eq] using h
                          have HS5 := HS4
                          rw [if_pos h10m] at HS5
                          clear h10m
                          go_wp2_with fail
                          refine (CE.out _ (Ext.refl _ _)).mono ?_
                          rintro e W ⟨rfl, hX⟩
                          have T := HR.out.rows.later hX
                          cases hE : endsP l with
                          | true =>
                            have hlp : lineP l k = l ++ [⟨6, [10], k⟩] := by unfold lineP; rw [if_pos hE]
                            have HL := hid hlp
                            have T1 := T.later ((Ext.refl none' W).alloc (.cells #[.int .i64 6, .string ⟨#[10]⟩, .int .i64 k] 48))
                            have O1 := hid T1.rl
                            have src : Src Tryd.prog 3 31 (.slice (some ⟨W.heap.size, 0, none⟩) 1 1) 1 (tokCells ⟨6, [10], k⟩) (W.alloc (.cells #[.int .i64 6, .string ⟨#[10]⟩, .int .i64 k] 48)) := tok_srcR (t := 48) (fz := (0, 0)) (heap_alloc_at rfl _) rfl (by simp [tokCells, Value.oneCell'])
                            have S1 := hid src
                            have HT1 := hid T1
                            clear hE hlp T T1 src hX
                            go_wp2_with (at_builtin; refine wpList_app _ rfl (.tmp 112) (.tmp 115) 31 31 rfl w.heap.size 48 i0 _ 3 32 Tryd.underlying31 I0.out I1.out I2.out I3.out rfl _ l.length (tokVals l) rfl O1.out _ 1 _ rfl S1.out ?_ ?_ ?_ ?_)
                            · have := HLL.out; unfold maxLen; omega
                            · have := HLL.out; omega
                            · have := HT1.out.hx.size; omega
                            intro v2 w2 own2 grow2 blk2 _
                            have TT := HT1.out.snocL own2 grow2 (by simpa using blk2)
                            rw [← HL.out] at TT
                            have HRW := hid TT
                            clear own2 grow2 blk2 TT
                            have hcv : (convert 22 9 (.slice (some ⟨b, off + k, none⟩) (j - k) (cap - k))).run Tryd.prog w2 = .ok (.string ⟨((s.drop k).take m).toArray⟩) w2 := by
                              have hsub := (HV.out.keep (HRW.out.hx)).sub k j (by have := HKJ.out; omega) (by have := HJS.out; omega) (cap - k) (by have := HJS.out; omega) (by omega)
                              rw [show j - k = m by have := HJM.out; omega] at hsub ⊢
                              exact conv_bytes hsub _ _ Tryd.underlying22 Tryd.underlying5 _ Tryd.underlying9
                            obtain ⟨tx, htx⟩ : ∃ tx, tx = (s.drop k).take m := ⟨_, rfl⟩
                            rw [← htx] at hcv
                            have HTX := hid htx
                            clear htx
                            have T2 := HRW.out.later ((Ext.refl none' w2).alloc (.cells #[.int .i64 0, .string ⟨tx.toArray⟩, .int .i64 k] 48))
                            have O2 := hid T2.rn
                            have src2 : Src Tryd.prog 3 31 (.slice (some ⟨w2.heap.size, 0, none⟩) 1 1) 1 (tokCells ⟨0, tx, k⟩) (w2.alloc (.cells #[.int .i64 0, .string ⟨tx.toArray⟩, .int .i64 k] 48)) := tok_srcR (t := 48) (fz := (0, 0)) (heap_alloc_at rfl _) rfl (by simp [tokCells, Value.oneCell'])
                            have S2 := hid src2
                            have HT2 := hid T2
                            clear T2 src2
                            go_wp2_with (at_builtin; refine wpList_app _ rfl (.tmp 117) (.tmp 125) 31 31 rfl w.heap.size 48 i0 _ 3 32 Tryd.underlying31 I0.out I1.out I2.out I3.out rfl _ n.length (tokVals n) rfl O2.out _ 1 _ rfl S2.out ?_ ?_ ?_ ?_)
                            · have := HNL.out; unfold maxLen; omega
                            · have := HNL.out; omega
                            · have := XW.out.size; have := HT2.out.hx.size; first | omega | (simp at *; omega)
                            intro v3 w3 own3 grow3 blk3 _
                            have TT := HT2.out.snocN own3 grow3 (by simpa using blk3)
                            rw [HTX.out] at TT
                            have N := hid (HR.out.next hk HS5.out TT)
                            clear own3 grow3 blk3 TT hcv
                            go_wp2_with fail
                            go_roundw
                            case rel => exact ⟨j, _, _, f - 1, rfl, N.out⟩
                            case measure => have := HKJ.out; have := HJS.out; simp [RowKit.intOf]; omega
                          | false =>
                            have hlp : lineP l k = l := by unfold lineP; rw [if_neg (by rw [hE]; decide)]
                            rw [hlp] at HS5
                            have HRW := hid T
                            clear hE hlp T hX
                            have hcv : (convert 22 9 (.slice (some ⟨b, off + k, none⟩) (j - k) (cap - k))).run Tryd.prog W = .ok (.string ⟨((s.drop k).take m).toArray⟩) W := by
                              have hsub := (HV.out.keep (HRW.out.hx)).sub k j (by have := HKJ.out; omega) (by have := HJS.out; omega) (cap - k) (by have := HJS.out; omega) (by omega)
                              rw [show j - k = m by have := HJM.out; omega] at hsub ⊢
                              exact conv_bytes hsub _ _ Tryd.underlying22 Tryd.underlying5 _ Tryd.underlying9
                            obtain ⟨tx, htx⟩ : ∃ tx, tx = (s.drop k).take m := ⟨_, rfl⟩
                            rw [← htx] at hcv
                            have HTX := hid htx
                            clear htx
                            have T2 := HRW.out.later ((Ext.refl none' W).alloc (.cells #[.int .i64 0, .string ⟨tx.toArray⟩, .int .i64 k] 48))
                            have O2 := hid T2.rn
                            have src2 : Src Tryd.prog 3 31 (.slice (some ⟨W.heap.size, 0, none⟩) 1 1) 1 (tokCells ⟨0, tx, k⟩) (W.alloc (.cells #[.int .i64 0, .string ⟨tx.toArray⟩, .int .i64 k] 48)) := tok_srcR (t := 48) (fz := (0, 0)) (heap_alloc_at rfl _) rfl (by simp [tokCells, Value.oneCell'])
                            have S2 := hid src2
                            have HT2 := hid T2
                            clear T2 src2
                            go_wp2_with (at_builtin; refine wpList_app _ rfl (.tmp 117) (.tmp 125) 31 31 rfl w.heap.size 48 i0 _ 3 32 Tryd.underlying31 I0.out I1.out I2.out I3.out rfl _ n.length (tokVals n) rfl O2.out _ 1 _ rfl S2.out ?_ ?_ ?_ ?_)
                            · have := HNL.out; unfold maxLen; omega
                            · have := HNL.out; omega
                            · have := XW.out.size; have := HT2.out.hx.size; first | omega | (simp at *; omega)
                            intro v3 w3 own3 grow3 blk3 _
                            have TT := HT2.out.snocN own3 grow3 (by simpa using blk3)
                            rw [HTX.out] at TT
                            have N := hid (HR.out.next hk HS5.out TT)
                            clear own3 grow3 blk3 TT hcv
                            go_wp2_with fail
                            go_roundw
                            case rel => exact ⟨j, _, _, f - 1, rfl, N.out⟩
                            case measure => have := HKJ.out; have := HJS.out; simp [RowKit.intOf]; omega
                        | false =>
                          have h10m : 10 ∉ (s.drop k).take m := by have h := HDJ.out.symm; simpa only [decide_eq_false_iff_not] using h
                          have HS5 := HS4
                          rw [if_neg h10m] at HS5
                          have HRW := hid HR.out.rows
                          clear h10m
                          have hcv : (convert 22 9 (.slice (some ⟨b, off + k, none⟩) (j - k) (cap - k))).run Tryd.prog wc = .ok (.string ⟨((s.drop k).take m).toArray⟩) wc := by
                            have hsub := (HV.out.keep (HRW.out.hx)).sub k j (by have := HKJ.out; omega) (by have := HJS.out; omega) (cap - k) (by have := HJS.out; omega) (by omega)
                            rw [show j - k = m by have := HJM.out; omega] at hsub ⊢
                            exact conv_bytes hsub _ _ Tryd.underlying22 Tryd.underlying5 _ Tryd.underlying9
                          obtain ⟨tx, htx⟩ : ∃ tx, tx = (s.drop k).take m := ⟨_, rfl⟩
                          rw [← htx] at hcv
                          have HTX := hid htx
                          clear htx
                          have T2 := HRW.out.later ((Ext.refl none' wc).alloc (.cells #[.int .i64 0, .string ⟨tx.toArray⟩, .int .i64 k] 48))
                          have O2 := hid T2.rn
                          have src2 : Src Tryd.prog 3 31 (.slice (some ⟨wc.heap.size, 0, none⟩) 1 1) 1 (tokCells ⟨0, tx, k⟩) (wc.alloc (.cells #[.int .i64 0, .string ⟨tx.toArray⟩, .int .i64 k] 48)) := tok_srcR (t := 48) (fz := (0, 0)) (heap_alloc_at rfl _) rfl (by simp [tokCells, Value.oneCell'])
                          have S2 := hid src2
                          have HT2 := hid T2
                          clear T2 src2
                          go_wp2_with (at_builtin; refine wpList_app _ rfl (.tmp 117) (.tmp 125) 31 31 rfl w.heap.size 48 i0 _ 3 32 Tryd.underlying31 I0.out I1.out I2.out I3.out rfl _ n.length (tokVals n) rfl O2.out _ 1 _ rfl S2.out ?_ ?_ ?_ ?_)
                          · have := HNL.out; unfold maxLen; omega
                          · have := HNL.out; omega
                          · have := XW.out.size; have := HT2.out.hx.size; first | omega | (simp at *; omega)
                          intro v3 w3 own3 grow3 blk3 _
                          have TT := HT2.out.snocN own3 grow3 (by simpa using blk3)
                          rw [HTX.out] at TT
                          have N := hid (HR.out.next hk HS5.out TT)
                          clear own3 grow3 blk3 TT hcv
                          go_wp2_with fail
                          go_roundw
                          case rel => exact ⟨j, _, _, f - 1, rfl, N.out⟩
                          case measure => have := HKJ.out; have := HJS.out; simp [RowKit.intOf]; omega
              | none =>
                have HS4 : Hid (stepP s k l n = _) := hid HS3.out
                simp only at HS4
                have CL := hid fun W => rletter_any c.toNat W
                have CF := hid fun W => rfigure_any c.toNat W
                · as_aux_lemma =>
                    rw [show noteN k .none = 0 from rfl] at CN
                    obtain ⟨lb, hlb⟩ : ∃ x, letterB c.toNat = x := ⟨_, rfl⟩
                    obtain ⟨fb, hfb⟩ : ∃ x, figB c.toNat = x := ⟨_, rfl⟩
                    rw [hlb] at CL HS4
                    rw [hfb] at CF HS4
                    have HIDB : Hid (idB c = (lb || fb)) := hid (by rw [← hlb, ← hfb]; rfl)
                    clear hlb hfb
                    cases lb with
                    | true =>
                      go_wp2_with (go_at_call 22; refine (CN.out _ XW.out).mono ?_; rintro e w2 ⟨rfl, rfl⟩)
                      refine (CL.out _).mono ?_
                      rintro e w2 ⟨rfl, rfl⟩
                      go_wp2_with fail
                      go_loop [11] (fun z => ∃ a : Nat, z = .int .i64 a ∧ k < a ∧ a ≤ s.length ∧ Hid (∀ x ∈ (s.drop k).take (a - k), idB x = true)) (fun z => s.length - (RowKit.intOf z).toNat)
                      case atStart => exact ⟨k + 1, by go_num, by omega, by omega, hid (by
                        rw [drop_at hk, HCC.out, show k + 1 - k = 1 by omega]
                        intro x hx
                        simp at hx
                        rw [hx]; exact HIDB.out)⟩
                      case round =>
                        obtain ⟨a, rfl, hka, haj, HA⟩ := hrel
                        by_cases hi : a < s.length
                        · have ca := HC.out ⟨wc, Ext.refl _ _⟩ a hi
                          have hta : (s.drop k).take (a + 1 - k) = (s.drop k).take (a - k) ++ [s[a]] := by
                            rw [show a + 1 - k = (a - k) + 1 by omega, List.take_add_one, List.getElem?_drop, show k + (a - k) = a by omega, List.getElem?_eq_getElem hi]
                            rfl
                          have hga : (s.drop k)[a - k]? = some s[a] := by rw [List.getElem?_drop, show k + (a - k) = a by omega, List.getElem?_eq_getElem hi]
                          obtain ⟨y, hy⟩ : ∃ y, s[a] = y := ⟨_, rfl⟩
                          rw [hy] at hta hga
                          simp only [hy] at ca
                          have CLy := hid (rletter_any y.toNat wc)
                          have CFy := hid (rfigure_any y.toNat wc)
                          obtain ⟨lb2, hlb2⟩ : ∃ x, letterB y.toNat = x := ⟨_, rfl⟩
                          obtain ⟨fb2, hfb2⟩ : ∃ x, figB y.toNat = x := ⟨_, rfl⟩
                          rw [hlb2] at CLy
                          rw [hfb2] at CFy
                          have HIY : Hid (idB y = (lb2 || fb2)) := hid (by rw [← hlb2, ← hfb2]; rfl)
                          have HTA := hid hta
                          have HGA := hid hga
                          clear hta hga hy hlb2 hfb2
                          by_cases hid2 : (lb2 || fb2) = true
                          · have N : Hid (∀ x ∈ (s.drop k).take (a + 1 - k), idB x = true) := hid (by
                              rw [HTA.out]
                              intro x hx
                              rcases List.mem_append.1 hx with hx | hx
                              · exact HA.out x hx
                              · rw [List.mem_singleton] at hx; rw [hx, HIY.out]; exact hid2)
                            have hcase : lb2 = true ∨ (lb2 = false ∧ fb2 = true) := by cases lb2 <;> simp_all
                            clear hid2
                            rcases hcase with rfl | ⟨rfl, rfl⟩
                            all_goals
                              go_wp2_with (first | (go_at_call 23; refine CLy.out.mono ?_; rintro e w2 ⟨rfl, rfl⟩) | (go_at_call 24; refine CFy.out.mono ?_; rintro e w2 ⟨rfl, rfl⟩))
                              go_round
                              case rel => exact ⟨a + 1, by go_num, by omega, by omega, N⟩
                              case measure => simp [RowKit.intOf]; omega
                          · have hlen : idLen (s.drop k) = a - k := takeWhile_at' _ _ (by rw [List.length_drop]; omega) HA.out (fun x hx => by rw [HGA.out] at hx; cases hx; rw [HIY.out]; simpa using hid2)
                            have hcase : lb2 = false ∧ fb2 = false := by cases lb2 <;> cases fb2 <;> simp_all
                            obtain ⟨rfl, rfl⟩ := hcase
                            clear hid2
                            go_wp2_with (first | (go_at_call_of 23 (Value.int .u8 y.toNat); refine CLy.out.mono ?_; rintro e w2 ⟨rfl, rfl⟩) | (go_at_call 24; refine CFy.out.mono ?_; rintro e w2 ⟨rfl, rfl⟩))
                            refine (CL.out _).mono ?_
                            rintro e w2 ⟨rfl, rfl⟩
                            obtain ⟨m, hm⟩ : ∃ m, m = a - k := ⟨_, rfl⟩
                            rw [← hm] at hlen
                            obtain ⟨kd, hkd⟩ : ∃ kd, kd = 1 + wordK ((s.drop k).take m) := ⟨_, rfl⟩
                            have HS5 : Hid (stepP s k l n = some (a, l ++ [⟨kd, (s.drop k).take m, k⟩], n)) := hid (by
                              rw [HS4.out, if_pos trivial, hlen, show k + m = a by omega, hkd])
                            obtain ⟨j, hj⟩ : ∃ j, j = a := ⟨_, rfl⟩
                            subst hj
                            have HKJ := hid hka
                            have HJS := hid haj
                            have HJM := hid (show j = k + m by omega)
                            have RW := rword_any ((s.drop k).take m) wc
                            have hkd3 : kd ≤ 3 := by have := wordK_le ((s.drop k).take m); omega
                            have hkd1 : 1 ≤ kd := by omega
                            have HKD := hid (show (1 : Int) + (wordK ((s.drop k).take m) : Nat) = (kd : Nat) by omega)
                            have hwb : (wordK ((s.drop k).take m) : Nat) ≤ 2 := wordK_le _
                            have hcv : (convert 22 9 (.slice (some ⟨b, off + k, none⟩) (j - k) (cap - k))).run Tryd.prog wc = .ok (.string ⟨((s.drop k).take m).toArray⟩) wc := by
                              have hsub := (HV.out.keep XW.out).sub k j (by have := HKJ.out; omega) (by have := HJS.out; omega) (cap - k) (by have := HJS.out; omega) (by omega)
                              rw [show j - k = m by have := HJM.out; omega] at hsub ⊢
                              exact conv_bytes hsub _ _ Tryd.underlying22 Tryd.underlying5 _ Tryd.underlying9
                            have hc1 : s.length ≤ cap := h1
                            clear hlen hm hkd
                            go_wp2_with fail
                            refine RW.mono ?_
                            rintro e W ⟨rfl, hX⟩
                            have HRW := hid (HR.out.rows.later hX)
                            clear hX RW hcv
                            go_upto_region 42 with (fail)
                            rw [HKD.out]
                            clear hwb
                            have hcv : (convert 22 9 (.slice (some ⟨b, off + k, none⟩) (j - k) (cap - k))).run Tryd.prog W = .ok (.string ⟨((s.drop k).take m).toArray⟩) W := by
                              have hsub := (HV.out.keep (HRW.out.hx)).sub k j (by have := HKJ.out; omega) (by have := HJS.out; omega) (cap - k) (by have := HJS.out; omega) (by omega)
                              rw [show j - k = m by have := HJM.out; omega] at hsub ⊢
                              exact conv_bytes hsub _ _ Tryd.underlying22 Tryd.underlying5 _ Tryd.underlying9
                            obtain ⟨tx, htx⟩ : ∃ tx, tx = (s.drop k).take m := ⟨_, rfl⟩
                            rw [← htx] at hcv
                            have HTX := hid htx
                            clear htx
                            have hkj : k < j := HKJ.out
                            have hjs : j ≤ s.length := HJS.out
                            have hc1 : s.length ≤ cap := h1
                            have T2 := HRW.out.later ((Ext.refl none' W).alloc (.cells #[.int .i64 kd, .string ⟨tx.toArray⟩, .int .i64 k] 48))
                            have O2 := hid T2.rl
                            have src2 : Src Tryd.prog 3 31 (.slice (some ⟨W.heap.size, 0, none⟩) 1 1) 1 (tokCells ⟨kd, tx, k⟩) (W.alloc (.cells #[.int .i64 kd, .string ⟨tx.toArray⟩, .int .i64 k] 48)) := tok_srcR (t := 48) (fz := (0, 0)) (heap_alloc_at rfl _) rfl (by simp [tokCells, Value.oneCell'])
                            have S2 := hid src2
                            have HT2 := hid T2
                            clear T2 src2
                            go_wp2_with (at_builtin; refine wpList_app _ rfl (.tmp 178) (.tmp 187) 31 31 rfl w.heap.size 48 i0 _ 3 32 Tryd.underlying31 I0.out I1.out I2.out I3.out rfl _ l.length (tokVals l) rfl O2.out _ 1 _ rfl S2.out ?_ ?_ ?_ ?_)
                            · have := HLL.out; unfold maxLen; omega
                            · have := HLL.out; omega
                            · have := XW.out.size; have := HT2.out.hx.size; first | omega | (simp at *; omega)
                            intro v3 w3 own3 grow3 blk3 _
                            have TT := HT2.out.snocL own3 grow3 (by simpa using blk3)
                            rw [HTX.out] at TT
                            have N := hid (HR.out.next hk HS5.out TT)
                            clear own3 grow3 blk3 TT hcv
                            go_wp2_with fail
                            go_roundw
                            case rel => exact ⟨j, _, _, f - 1, rfl, N.out⟩
                            case measure => have := HKJ.out; have := HJS.out; simp [RowKit.intOf]; omega
                        · have hlen : idLen (s.drop k) = a - k := takeWhile_at' _ _ (by rw [List.length_drop]; omega) HA.out (fun x hx => by rw [List.getElem?_eq_none (by rw [List.length_drop]; omega)] at hx; cases hx)
                          go_wp2_with fail
                          refine (CL.out _).mono ?_
                          rintro e w2 ⟨rfl, rfl⟩
                          obtain ⟨m, hm⟩ : ∃ m, m = a - k := ⟨_, rfl⟩
                          rw [← hm] at hlen
                          obtain ⟨kd, hkd⟩ : ∃ kd, kd = 1 + wordK ((s.drop k).take m) := ⟨_, rfl⟩
                          have HS5 : Hid (stepP s k l n = some (a, l ++ [⟨kd, (s.drop k).take m, k⟩], n)) := hid (by
                            rw [HS4.out, if_pos trivial, hlen, show k + m = a by omega, hkd])
                          obtain ⟨j, hj⟩ : ∃ j, j = a := ⟨_, rfl⟩
                          subst hj
                          have HKJ := hid hka
                          have HJS := hid haj
                          have HJM := hid (show j = k + m by omega)
                          have RW := rword_any ((s.drop k).take m) wc
                          have hkd3 : kd ≤ 3 := by have := wordK_le ((s.drop k).take m); omega
                          have hkd1 : 1 ≤ kd := by omega
                          have HKD := hid (show (1 : Int) + (wordK ((s.drop k).take m) : Nat) = (kd : Nat) by omega)
                          have hwb : (wordK ((s.drop k).take m) : Nat) ≤ 2 := wordK_le _
                          have hcv : (convert 22 9 (.slice (some ⟨b, off + k, none⟩) (j - k) (cap - k))).run Tryd.prog wc = .ok (.string ⟨((s.drop k).take m).toArray⟩) wc := by
                            have hsub := (HV.out.keep XW.out).sub k j (by have := HKJ.out; omega) (by have := HJS.out; omega) (cap - k) (by have := HJS.out; omega) (by omega)
                            rw [show j - k = m by have := HJM.out; omega] at hsub ⊢
                            exact conv_bytes hsub _ _ Tryd.underlying22 Tryd.underlying5 _ Tryd.underlying9
                          have hc1 : s.length ≤ cap := h1
                          clear hlen hm hkd
                          go_wp2_with fail
                          refine RW.mono ?_
                          rintro e W ⟨rfl, hX⟩
                          have HRW := hid (HR.out.rows.later hX)
                          clear hX RW hcv
                          go_upto_region 42 with (fail)
                          rw [HKD.out]
                          clear hwb
                          have hcv : (convert 22 9 (.slice (some ⟨b, off + k, none⟩) (j - k) (cap - k))).run Tryd.prog W = .ok (.string ⟨((s.drop k).take m).toArray⟩) W := by
                            have hsub := (HV.out.keep (HRW.out.hx)).sub k j (by have := HKJ.out; omega) (by have := HJS.out; omega) (cap - k) (by have := HJS.out; omega) (by omega)
                            rw [show j - k = m by have := HJM.out; omega] at hsub ⊢
                            exact conv_bytes hsub _ _ Tryd.underlying22 Tryd.underlying5 _ Tryd.underlying9
                          obtain ⟨tx, htx⟩ : ∃ tx, tx = (s.drop k).take m := ⟨_, rfl⟩
                          rw [← htx] at hcv
                          have HTX := hid htx
                          clear htx
                          have hkj : k < j := HKJ.out
                          have hjs : j ≤ s.length := HJS.out
                          have hc1 : s.length ≤ cap := h1
                          have T2 := HRW.out.later ((Ext.refl none' W).alloc (.cells #[.int .i64 kd, .string ⟨tx.toArray⟩, .int .i64 k] 48))
                          have O2 := hid T2.rl
                          have src2 : Src Tryd.prog 3 31 (.slice (some ⟨W.heap.size, 0, none⟩) 1 1) 1 (tokCells ⟨kd, tx, k⟩) (W.alloc (.cells #[.int .i64 kd, .string ⟨tx.toArray⟩, .int .i64 k] 48)) := tok_srcR (t := 48) (fz := (0, 0)) (heap_alloc_at rfl _) rfl (by simp [tokCells, Value.oneCell'])
                          have S2 := hid src2
                          have HT2 := hid T2
                          clear T2 src2
                          go_wp2_with (at_builtin; refine wpList_app _ rfl (.tmp 178) (.tmp 187) 31 31 rfl w.heap.size 48 i0 _ 3 32 Tryd.underlying31 I0.out I1.out I2.out I3.out rfl _ l.length (tokVals l) rfl O2.out _ 1 _ rfl S2.out ?_ ?_ ?_ ?_)
                          · have := HLL.out; unfold maxLen; omega
                          · have := HLL.out; omega
                          · have := XW.out.size; have := HT2.out.hx.size; first | omega | (simp at *; omega)
                          intro v3 w3 own3 grow3 blk3 _
                          have TT := HT2.out.snocL own3 grow3 (by simpa using blk3)
                          rw [HTX.out] at TT
                          have N := hid (HR.out.next hk HS5.out TT)
                          clear own3 grow3 blk3 TT hcv
                          go_wp2_with fail
                          go_roundw
                          case rel => exact ⟨j, _, _, f - 1, rfl, N.out⟩
                          case measure => have := HKJ.out; have := HJS.out; simp [RowKit.intOf]; omega
                    | false =>
                      cases fb with
                      | true =>
                        go_wp2_with (go_at_call 22; refine (CN.out _ XW.out).mono ?_; rintro e w2 ⟨rfl, rfl⟩)
                        refine (CL.out _).mono ?_
                        rintro e w2 ⟨rfl, rfl⟩
                        go_wp2_with (go_at_call 24; refine (CF.out _).mono ?_; rintro e w2 ⟨rfl, rfl⟩)
                        go_loop [11] (fun z => ∃ a : Nat, z = .int .i64 a ∧ k < a ∧ a ≤ s.length ∧ Hid (∀ x ∈ (s.drop k).take (a - k), idB x = true)) (fun z => s.length - (RowKit.intOf z).toNat)
                        case atStart => exact ⟨k + 1, by go_num, by omega, by omega, hid (by
                          rw [drop_at hk, HCC.out, show k + 1 - k = 1 by omega]
                          intro x hx
                          simp at hx
                          rw [hx]; exact HIDB.out)⟩
                        case round =>
                          obtain ⟨a, rfl, hka, haj, HA⟩ := hrel
                          by_cases hi : a < s.length
                          · have ca := HC.out ⟨wc, Ext.refl _ _⟩ a hi
                            have hta : (s.drop k).take (a + 1 - k) = (s.drop k).take (a - k) ++ [s[a]] := by
                              rw [show a + 1 - k = (a - k) + 1 by omega, List.take_add_one, List.getElem?_drop, show k + (a - k) = a by omega, List.getElem?_eq_getElem hi]
                              rfl
                            have hga : (s.drop k)[a - k]? = some s[a] := by rw [List.getElem?_drop, show k + (a - k) = a by omega, List.getElem?_eq_getElem hi]
                            obtain ⟨y, hy⟩ : ∃ y, s[a] = y := ⟨_, rfl⟩
                            rw [hy] at hta hga
                            simp only [hy] at ca
                            have CLy := hid (rletter_any y.toNat wc)
                            have CFy := hid (rfigure_any y.toNat wc)
                            obtain ⟨lb2, hlb2⟩ : ∃ x, letterB y.toNat = x := ⟨_, rfl⟩
                            obtain ⟨fb2, hfb2⟩ : ∃ x, figB y.toNat = x := ⟨_, rfl⟩
                            rw [hlb2] at CLy
                            rw [hfb2] at CFy
                            have HIY : Hid (idB y = (lb2 || fb2)) := hid (by rw [← hlb2, ← hfb2]; rfl)
                            have HTA := hid hta
                            have HGA := hid hga
                            clear hta hga hy hlb2 hfb2
                            by_cases hid2 : (lb2 || fb2) = true
                            · have N : Hid (∀ x ∈ (s.drop k).take (a + 1 - k), idB x = true) := hid (by
                                rw [HTA.out]
                                intro x hx
                                rcases List.mem_append.1 hx with hx | hx
                                · exact HA.out x hx
                                · rw [List.mem_singleton] at hx; rw [hx, HIY.out]; exact hid2)
                              have hcase : lb2 = true ∨ (lb2 = false ∧ fb2 = true) := by cases lb2 <;> simp_all
                              clear hid2
                              rcases hcase with rfl | ⟨rfl, rfl⟩
                              all_goals
                                go_wp2_with (first | (go_at_call 23; refine CLy.out.mono ?_; rintro e w2 ⟨rfl, rfl⟩) | (go_at_call 24; refine CFy.out.mono ?_; rintro e w2 ⟨rfl, rfl⟩))
                                go_round
                                case rel => exact ⟨a + 1, by go_num, by omega, by omega, N⟩
                                case measure => simp [RowKit.intOf]; omega
                            · have hlen : idLen (s.drop k) = a - k := takeWhile_at' _ _ (by rw [List.length_drop]; omega) HA.out (fun x hx => by rw [HGA.out] at hx; cases hx; rw [HIY.out]; simpa using hid2)
                              have hcase : lb2 = false ∧ fb2 = false := by cases lb2 <;> cases fb2 <;> simp_all
                              obtain ⟨rfl, rfl⟩ := hcase
                              clear hid2
                              go_wp2_with (first | (go_at_call_of 23 (Value.int .u8 y.toNat); refine CLy.out.mono ?_; rintro e w2 ⟨rfl, rfl⟩) | (go_at_call 24; refine CFy.out.mono ?_; rintro e w2 ⟨rfl, rfl⟩))
                              refine (CL.out _).mono ?_
                              rintro e w2 ⟨rfl, rfl⟩
                              obtain ⟨m, hm⟩ : ∃ m, m = a - k := ⟨_, rfl⟩
                              rw [← hm] at hlen
                              have HS5 : Hid (stepP s k l n = some (a, l ++ [⟨4, (s.drop k).take m, k⟩], n)) := hid (by
                                rw [HS4.out, if_neg (by decide), if_pos trivial, hlen, show k + m = a by omega])
                              obtain ⟨j, hj⟩ : ∃ j, j = a := ⟨_, rfl⟩
                              subst hj
                              have HRW := hid HR.out.rows
                              have HKJ := hid hka
                              have HJS := hid haj
                              have HJM := hid (show j = k + m by omega)
                              clear hlen hm
                              have hcv : (convert 22 9 (.slice (some ⟨b, off + k, none⟩) (j - k) (cap - k))).run Tryd.prog wc = .ok (.string ⟨((s.drop k).take m).toArray⟩) wc := by
                                have hsub := (HV.out.keep (HRW.out.hx)).sub k j (by have := HKJ.out; omega) (by have := HJS.out; omega) (cap - k) (by have := HJS.out; omega) (by omega)
                                rw [show j - k = m by have := HJM.out; omega] at hsub ⊢
                                exact conv_bytes hsub _ _ Tryd.underlying22 Tryd.underlying5 _ Tryd.underlying9
                              obtain ⟨tx, htx⟩ : ∃ tx, tx = (s.drop k).take m := ⟨_, rfl⟩
                              rw [← htx] at hcv
                              have HTX := hid htx
                              clear htx
                              have hkj : k < j := HKJ.out
                              have hjs : j ≤ s.length := HJS.out
                              have hc1 : s.length ≤ cap := h1
                              have T2 := HRW.out.later ((Ext.refl none' wc).alloc (.cells #[.int .i64 4, .string ⟨tx.toArray⟩, .int .i64 k] 48))
                              have O2 := hid T2.rl
                              have src2 : Src Tryd.prog 3 31 (.slice (some ⟨wc.heap.size, 0, none⟩) 1 1) 1 (tokCells ⟨4, tx, k⟩) (wc.alloc (.cells #[.int .i64 4, .string ⟨tx.toArray⟩, .int .i64 k] 48)) := tok_srcR (t := 48) (fz := (0, 0)) (heap_alloc_at rfl _) rfl (by simp [tokCells, Value.oneCell'])
                              have S2 := hid src2
                              have HT2 := hid T2
                              clear T2 src2
                              go_wp2_with (at_builtin; refine wpList_app _ rfl (.tmp 178) (.tmp 187) 31 31 rfl w.heap.size 48 i0 _ 3 32 Tryd.underlying31 I0.out I1.out I2.out I3.out rfl _ l.length (tokVals l) rfl O2.out _ 1 _ rfl S2.out ?_ ?_ ?_ ?_)
                              · have := HLL.out; unfold maxLen; omega
                              · have := HLL.out; omega
                              · have := XW.out.size; have := HT2.out.hx.size; first | omega | (simp at *; omega)
                              intro v3 w3 own3 grow3 blk3 _
                              have TT := HT2.out.snocL own3 grow3 (by simpa using blk3)
                              rw [HTX.out] at TT
                              have N := hid (HR.out.next hk HS5.out TT)
                              clear own3 grow3 blk3 TT hcv
                              go_wp2_with fail
                              go_roundw
                              case rel => exact ⟨j, _, _, f - 1, rfl, N.out⟩
                              case measure => have := HKJ.out; have := HJS.out; simp [RowKit.intOf]; omega
                          · have hlen : idLen (s.drop k) = a - k := takeWhile_at' _ _ (by rw [List.length_drop]; omega) HA.out (fun x hx => by rw [List.getElem?_eq_none (by rw [List.length_drop]; omega)] at hx; cases hx)
                            go_wp2_with fail
                            refine (CL.out _).mono ?_
                            rintro e w2 ⟨rfl, rfl⟩
                            obtain ⟨m, hm⟩ : ∃ m, m = a - k := ⟨_, rfl⟩
                            rw [← hm] at hlen
                            have HS5 : Hid (stepP s k l n = some (a, l ++ [⟨4, (s.drop k).take m, k⟩], n)) := hid (by
                              rw [HS4.out, if_neg (by decide), if_pos trivial, hlen, show k + m = a by omega])
                            obtain ⟨j, hj⟩ : ∃ j, j = a := ⟨_, rfl⟩
                            subst hj
                            have HRW := hid HR.out.rows
                            have HKJ := hid hka
                            have HJS := hid haj
                            have HJM := hid (show j = k + m by omega)
                            clear hlen hm
                            have hcv : (convert 22 9 (.slice (some ⟨b, off + k, none⟩) (j - k) (cap - k))).run Tryd.prog wc = .ok (.string ⟨((s.drop k).take m).toArray⟩) wc := by
                              have hsub := (HV.out.keep (HRW.out.hx)).sub k j (by have := HKJ.out; omega) (by have := HJS.out; omega) (cap - k) (by have := HJS.out; omega) (by omega)
                              rw [show j - k = m by have := HJM.out; omega] at hsub ⊢
                              exact conv_bytes hsub _ _ Tryd.underlying22 Tryd.underlying5 _ Tryd.underlying9
                            obtain ⟨tx, htx⟩ : ∃ tx, tx = (s.drop k).take m := ⟨_, rfl⟩
                            rw [← htx] at hcv
                            have HTX := hid htx
                            clear htx
                            have hkj : k < j := HKJ.out
                            have hjs : j ≤ s.length := HJS.out
                            have hc1 : s.length ≤ cap := h1
                            have T2 := HRW.out.later ((Ext.refl none' wc).alloc (.cells #[.int .i64 4, .string ⟨tx.toArray⟩, .int .i64 k] 48))
                            have O2 := hid T2.rl
                            have src2 : Src Tryd.prog 3 31 (.slice (some ⟨wc.heap.size, 0, none⟩) 1 1) 1 (tokCells ⟨4, tx, k⟩) (wc.alloc (.cells #[.int .i64 4, .string ⟨tx.toArray⟩, .int .i64 k] 48)) := tok_srcR (t := 48) (fz := (0, 0)) (heap_alloc_at rfl _) rfl (by simp [tokCells, Value.oneCell'])
                            have S2 := hid src2
                            have HT2 := hid T2
                            clear T2 src2
                            go_wp2_with (at_builtin; refine wpList_app _ rfl (.tmp 178) (.tmp 187) 31 31 rfl w.heap.size 48 i0 _ 3 32 Tryd.underlying31 I0.out I1.out I2.out I3.out rfl _ l.length (tokVals l) rfl O2.out _ 1 _ rfl S2.out ?_ ?_ ?_ ?_)
                            · have := HLL.out; unfold maxLen; omega
                            · have := HLL.out; omega
                            · have := XW.out.size; have := HT2.out.hx.size; first | omega | (simp at *; omega)
                            intro v3 w3 own3 grow3 blk3 _
                            have TT := HT2.out.snocL own3 grow3 (by simpa using blk3)
                            rw [HTX.out] at TT
                            have N := hid (HR.out.next hk HS5.out TT)
                            clear own3 grow3 blk3 TT hcv
                            go_wp2_with fail
                            go_roundw
                            case rel => exact ⟨j, _, _, f - 1, rfl, N.out⟩
                            case measure => have := HKJ.out; have := HJS.out; simp [RowKit.intOf]; omega
                      | false =>
                        have HS5' := hid (HS4.out.trans ((if_neg (by decide)).trans (if_neg (by decide))))
                        by_cases hq : c = 34 ∨ c = 96
                        · have CQ := rquoted_any B s _ k wc (HV.out.keep XW.out) hk (by rw [HCC.out]; exact hq) (by omega)
                          rw [HCC.out] at CQ
                          have HS6 := hid (HS5'.out.trans (if_pos hq))
                          obtain ⟨qo, hqo⟩ : ∃ x, quo c false (s.drop (k + 1)) = x := ⟨_, rfl⟩
                          rw [hqo] at CQ HS6
                          have HQO := hid hqo
                          have HCQ := hid CQ
                          clear CQ hqo
                          cases qo with
                          | none =>
                            have HS7 : Hid (stepP s k l n = none) := hid HS6.out
                            have HPP : Hid (p = .bad k 3) := hid (by
                              rw [HP.out]
                              unfold runR
                              rw [← HQ0.out, HR.out.run, runP_step hk HR.out.fuel, HS7.out])
                            rcases hq with rfl | rfl
                            all_goals
                              go_wp2_with (go_at_call 22; refine (CN.out _ XW.out).mono ?_; rintro e w2 ⟨rfl, rfl⟩)
                              refine (CL.out _).mono ?_
                              rintro e w2 ⟨rfl, rfl⟩
                              go_wp2_with (go_at_call 24; refine (CF.out _).mono ?_; rintro e w2 ⟨rfl, rfl⟩)
                              refine HCQ.out.mono ?_
                              rintro e w2 ⟨rfl, hX⟩
                              have XQ := hid (XW.out.trans hX)
                              clear hX
                              simp only [Option.map_none, endQ]
                              go_wp2_with fail
                              rw [HPP.out]
                              exact bodyPost_ret (v := .tuple #[.slice none 0 0, .slice none 0 0, .int .i64 k, .int .i64 3]) (by simp [results, Tryd.results12, go_sem]) rfl ⟨_, _, rfl, Toks.nil _ _, Toks.nil _ _, XQ.out⟩
                          | some mm =>
                            have hle2 := quo_le c _ _ _ HQO.out
                            rw [List.length_drop] at hle2
                            obtain ⟨m, hm⟩ : ∃ m, m = mm + 1 := ⟨_, rfl⟩
                            obtain ⟨j, hj⟩ : ∃ j, j = k + m := ⟨_, rfl⟩
                            have HS5 : Hid (stepP s k l n = some (j, l ++ [⟨5, (s.drop k).take m, k⟩], n)) := hid (by
                              rw [HS6.out, hj, hm]
                              show some (k + 1 + mm, _, _) = some (k + (mm + 1), _, _)
                              rw [show k + 1 + mm = k + (mm + 1) by omega])
                            have HKJ := hid (show k < j by omega)
                            have HJS := hid (show j ≤ s.length by omega)
                            have HJM := hid hj
                            have hend : endQ ((some mm).map (· + (k + 1))) = ((j : Nat) : Int) := by
                              show (((mm + (k + 1) : Nat)) : Int) = _
                              omega
                            have HEND := hid hend
                            clear hle2 hm hj hend
                            rcases hq with rfl | rfl
                            all_goals
                              go_wp2_with (go_at_call 22; refine (CN.out _ XW.out).mono ?_; rintro e w2 ⟨rfl, rfl⟩)
                              refine (CL.out _).mono ?_
                              rintro e w2 ⟨rfl, rfl⟩
                              go_wp2_with (go_at_call 24; refine (CF.out _).mono ?_; rintro e w2 ⟨rfl, rfl⟩)
                              refine HCQ.out.mono ?_
                              rintro e w2 ⟨rfl, hX⟩
                              have HRW := hid (HR.out.rows.later hX)
                              rw [HEND.out]
                              clear hX
                              have hcv : (convert 22 9 (.slice (some ⟨b, off + k, none⟩) (j - k) (cap - k))).run Tryd.prog w2 = .ok (.string ⟨((s.drop k).take m).toArray⟩) w2 := by
                                have hsub := (HV.out.keep (HRW.out.hx)).sub k j (by have := HKJ.out; omega) (by have := HJS.out; omega) (cap - k) (by have := HJS.out; omega) (by omega)
                                rw [show j - k = m by have := HJM.out; omega] at hsub ⊢
                                exact conv_bytes hsub _ _ Tryd.underlying22 Tryd.underlying5 _ Tryd.underlying9
                              obtain ⟨tx, htx⟩ : ∃ tx, tx = (s.drop k).take m := ⟨_, rfl⟩
                              rw [← htx] at hcv
                              have HTX := hid htx
                              clear htx
                              have hkj : k < j := HKJ.out
                              have hjs : j ≤ s.length := HJS.out
                              have hc1 : s.length ≤ cap := h1
                              have T2 := HRW.out.later ((Ext.refl none' w2).alloc (.cells #[.int .i64 5, .string ⟨tx.toArray⟩, .int .i64 k] 48))
                              have O2 := hid T2.rl
                              have src2 : Src Tryd.prog 3 31 (.slice (some ⟨w2.heap.size, 0, none⟩) 1 1) 1 (tokCells ⟨5, tx, k⟩) (w2.alloc (.cells #[.int .i64 5, .string ⟨tx.toArray⟩, .int .i64 k] 48)) := tok_srcR (t := 48) (fz := (0, 0)) (heap_alloc_at rfl _) rfl (by simp [tokCells, Value.oneCell'])
                              have S2 := hid src2
                              have HT2 := hid T2
                              clear T2 src2
                              go_wp2_with (at_builtin; refine wpList_app _ rfl (.tmp 178) (.tmp 187) 31 31 rfl w.heap.size 48 i0 _ 3 32 Tryd.underlying31 I0.out I1.out I2.out I3.out rfl _ l.length (tokVals l) rfl O2.out _ 1 _ rfl S2.out ?_ ?_ ?_ ?_)
                              · have := HLL.out; unfold maxLen; omega
                              · have := HLL.out; omega
                              · have := XW.out.size; have := HT2.out.hx.size; first | omega | (simp at *; omega)
                              intro v3 w3 own3 grow3 blk3 _
                              have TT := HT2.out.snocL own3 grow3 (by simpa using blk3)
                              rw [HTX.out] at TT
                              have N := hid (HR.out.next hk HS5.out TT)
                              clear own3 grow3 blk3 TT hcv
                              go_wp2_with fail
                              go_roundw
                              case rel => exact ⟨j, _, _, f - 1, rfl, N.out⟩
                              case measure => have := HKJ.out; have := HJS.out; simp [RowKit.intOf]; omega
                        · have e34 : ((c.toNat : Int) == 34) = false := by have := u8ne (fun h => hq (.inl h)); simp at this ⊢; omega
                          have e96 : ((c.toNat : Int) == 96) = false := by have := u8ne (fun h => hq (.inr h)); simp at this ⊢; omega
                          have HS6 := hid (HS5'.out.trans (if_neg hq))
                          clear hq
                          have CS := rsign_any B s _ k wc (HV.out.keep XW.out) hk (by omega)
                          have hle2 := signP_le (s.drop k)
                          rw [List.length_drop] at hle2
                          obtain ⟨m, hsg⟩ : ∃ x, signP (s.drop k) = x := ⟨_, rfl⟩
                          rw [hsg] at CS HS6 hle2
                          have HCS := hid CS
                          clear CS hsg
                          by_cases hm0 : m = 0
                          · subst hm0
                            have HS7 : Hid (stepP s k l n = none) := hid (HS6.out.trans (if_pos rfl))
                            have HPP : Hid (p = .bad k 3) := hid (by
                              rw [HP.out]
                              unfold runR
                              rw [← HQ0.out, HR.out.run, runP_step hk HR.out.fuel, HS7.out])
                            go_wp2_with (go_at_call 22; refine (CN.out _ XW.out).mono ?_; rintro e w2 ⟨rfl, rfl⟩)
                            refine (CL.out _).mono ?_
                            rintro e w2 ⟨rfl, rfl⟩
                            go_wp2_with (go_at_call 24; refine (CF.out _).mono ?_; rintro e w2 ⟨rfl, rfl⟩)
                            refine HCS.out.mono ?_
                            rintro e w2 ⟨rfl, hX⟩
                            have XQ := hid (XW.out.trans hX)
                            clear hX
                            go_wp2_with fail
                            rw [HPP.out]
                            exact bodyPost_ret (v := .tuple #[.slice none 0 0, .slice none 0 0, .int .i64 k, .int .i64 3]) (by simp [results, Tryd.results12, go_sem]) rfl ⟨_, _, rfl, Toks.nil _ _, Toks.nil _ _, XQ.out⟩
                          · obtain ⟨j, hj⟩ : ∃ j, j = k + m := ⟨_, rfl⟩
                            have HS5 : Hid (stepP s k l n = some (j, l ++ [⟨6, (s.drop k).take m, k⟩], n)) := hid (by rw [HS6.out, if_neg hm0, hj])
                            have HKJ := hid (show k < j by omega)
                            have HJS := hid (show j ≤ s.length by omega)
                            have HJM := hid hj
                            have HSUM := hid (show (k : Int) + (m : Nat) = (j : Nat) by omega)
                            have ejk : ((j : Int) == k) = false := by simp; omega
                            clear hle2 hm0 hj
                            go_wp2_with (go_at_call 22; refine (CN.out _ XW.out).mono ?_; rintro e w2 ⟨rfl, rfl⟩)
                            refine (CL.out _).mono ?_
                            rintro e w2 ⟨rfl, rfl⟩
                            go_wp2_with (go_at_call 24; refine (CF.out _).mono ?_; rintro e w2 ⟨rfl, rfl⟩)
                            refine HCS.out.mono ?_
                            rintro e w2 ⟨rfl, hX⟩
                            have HRW := hid (HR.out.rows.later hX)
                            clear hX
                            have hkm : (k : Int) + (m : Nat) ≤ 9223372036854775807 := by rw [HSUM.out]; have := HJS.out; omega
                            go_upto_region 12 with (fail)
                            rw [HSUM.out]
                            clear hkm
                            have hcv : (convert 22 9 (.slice (some ⟨b, off + k, none⟩) (j - k) (cap - k))).run Tryd.prog w2 = .ok (.string ⟨((s.drop k).take m).toArray⟩) w2 := by
                              have hsub := (HV.out.keep (HRW.out.hx)).sub k j (by have := HKJ.out; omega) (by have := HJS.out; omega) (cap - k) (by have := HJS.out; omega) (by omega)
                              rw [show j - k = m by have := HJM.out; omega] at hsub ⊢
                              exact conv_bytes hsub _ _ Tryd.underlying22 Tryd.underlying5 _ Tryd.underlying9
                            obtain ⟨tx, htx⟩ : ∃ tx, tx = (s.drop k).take m := ⟨_, rfl⟩
                            rw [← htx] at hcv
                            have HTX := hid htx
                            clear htx
                            have hkj : k < j := HKJ.out
                            have hjs : j ≤ s.length := HJS.out
                            have hc1 : s.length ≤ cap := h1
                            have T2 := HRW.out.later ((Ext.refl none' w2).alloc (.cells #[.int .i64 6, .string ⟨tx.toArray⟩, .int .i64 k] 48))
                            have O2 := hid T2.rl
                            have src2 : Src Tryd.prog 3 31 (.slice (some ⟨w2.heap.size, 0, none⟩) 1 1) 1 (tokCells ⟨6, tx, k⟩) (w2.alloc (.cells #[.int .i64 6, .string ⟨tx.toArray⟩, .int .i64 k] 48)) := tok_srcR (t := 48) (fz := (0, 0)) (heap_alloc_at rfl _) rfl (by simp [tokCells, Value.oneCell'])
                            have S2 := hid src2
                            have HT2 := hid T2
                            clear T2 src2
                            go_wp2_with (at_builtin; refine wpList_app _ rfl (.tmp 178) (.tmp 187) 31 31 rfl w.heap.size 48 i0 _ 3 32 Tryd.underlying31 I0.out I1.out I2.out I3.out rfl _ l.length (tokVals l) rfl O2.out _ 1 _ rfl S2.out ?_ ?_ ?_ ?_)
                            · have := HLL.out; unfold maxLen; omega
                            · have := HLL.out; omega
                            · have := XW.out.size; have := HT2.out.hx.size; first | omega | (simp at *; omega)
                            intro v3 w3 own3 grow3 blk3 _
                            have TT := HT2.out.snocL own3 grow3 (by simpa using blk3)
                            rw [HTX.out] at TT
                            have N := hid (HR.out.next hk HS5.out TT)
                            clear own3 grow3 blk3 TT hcv
                            go_wp2_with fail
                            go_roundw
                            case rel => exact ⟨j, _, _, f - 1, rfl, N.out⟩
                            case measure => have := HKJ.out; have := HJS.out; simp [RowKit.intOf]; omega
    · as_aux_lemma =>
        obtain rfl : k = s.length := by omega
        have hkind : ∀ t ∈ l, 1 ≤ t.kind ∧ t.kind ≤ 6 := fun t ht => ⟨(R.inv.good t ht).2.2, (R.inv.good t ht).1⟩
        have hshort : ∀ t ∈ l, t.text.length ≤ 1000000 := fun t ht => by have := R.inv.short t ht; omega
        have CE := hid (rends_any _ l _ wr (Toks.of_owns R.rl) (by have := R.inv.ll; omega) hkind hshort)
        have HLL := hid (show l.length ≤ 65536 by have := R.inv.ll; omega)
        have hst := HQ0.out.symm.trans (R.run.trans (runP_end (Nat.le_refl _)))
        have hq : runR s = .good (lineP l s.length) n := by unfold runR; rw [hst]
        have HPP := hid (HP.out.trans hq)
        have HR := hid R.rows
        obtain ⟨i0, hi, hz0, hz1, hz2⟩ := info_parts infoR
        have I0 := hid hi
        have I1 := hid hz0
        have I2 := hid hz1
        have I3 := hid hz2
        clear hi hz0 hz1 hz2 hkind hshort hst hq R
        go_wp2_with fail
        refine CE.out.mono ?_
        rintro e W ⟨rfl, hX⟩
        have T := HR.out.later hX
        cases hE : endsP l with
        | true =>
          have hlp : lineP l s.length = l ++ [⟨6, [10], s.length⟩] := by unfold lineP; rw [if_pos hE]
          have HL := hid hlp
          have T1 := T.later ((Ext.refl none' W).alloc (.cells #[.int .i64 6, .string ⟨#[10]⟩, .int .i64 s.length] 48))
          have O1 := hid T1.rl
          have src : Src Tryd.prog 3 31 (.slice (some ⟨W.heap.size, 0, none⟩) 1 1) 1 (tokCells ⟨6, [10], s.length⟩) (W.alloc (.cells #[.int .i64 6, .string ⟨#[10]⟩, .int .i64 s.length] 48)) := tok_srcR (t := 48) (fz := (0, 0)) (heap_alloc_at rfl _) rfl (by simp [tokCells, Value.oneCell'])
          have S1 := hid src
          have HT1 := hid T1
          clear hE hlp T T1 src hX
          go_wp2_with (at_builtin; refine wpList_app _ rfl (.tmp 192) (.tmp 196) 31 31 rfl w.heap.size 48 i0 _ 3 32 Tryd.underlying31 I0.out I1.out I2.out I3.out rfl _ l.length (tokVals l) rfl O1.out _ 1 _ rfl S1.out ?_ ?_ ?_ ?_)
          · have := HLL.out; unfold maxLen; omega
          · have := HLL.out; omega
          · have := HT1.out.hx.size; first | omega | (simp at *; omega)
          intro v2 w2 own2 grow2 blk2 _
          have TT := HT1.out.snocL own2 grow2 (by simpa using blk2)
          rw [← HL.out] at TT
          have HTT := hid TT
          clear own2 grow2 blk2 TT
          go_wp2_with fail
          rw [HPP.out]
          exact bodyPost_ret (by simp [results, Tryd.results12, go_sem]; exact ⟨rfl, rfl⟩) rfl ⟨_, _, rfl, Toks.of_owns HTT.out.rl, Toks.of_owns HTT.out.rn, HTT.out.hx⟩
        | false =>
          have hlp : lineP l s.length = l := by unfold lineP; rw [if_neg (by rw [hE]; decide)]
          have HPQ := HPP.out
          rw [hlp] at HPQ
          have HPR := hid HPQ
          have HTT := hid T
          clear hE hlp T hX HPQ
          go_wp2_with fail
          rw [HPR.out]
          exact bodyPost_ret (by simp [results, Tryd.results12, go_sem]; exact ⟨rfl, rfl⟩) rfl ⟨_, _, rfl, Toks.of_owns HTT.out.rl, Toks.of_owns HTT.out.rn, HTT.out.hx⟩
end Go.Proofs.YtokjnalmjdighaaDoor
