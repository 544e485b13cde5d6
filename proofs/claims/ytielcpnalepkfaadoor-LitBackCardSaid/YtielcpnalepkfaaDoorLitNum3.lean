import Derived.Test.YtielcpnalepkfaaDoorLitNum2
import Derived.Deep.CutRange
namespace Go.Proofs.YtielcpnalepkfaaDoor
open Go.RowKit Go.Lib Go.BigFrame
def NumPost (p : List UInt8 × Nat) (w : World) (e : Ending) (w' : World) : Prop := e = .returned (.tuple #[.string ⟨p.1.toArray⟩, .int .i64 p.2]) ∧ Ext none' w w'
def revB (l : List Nat) : List UInt8 := l.reverse.map fun x => UInt8.ofNat (48 + x)
theorem revB_drop {l : List Nat} {j : Nat} (h : j < l.length) : revB (l.drop j) = revB (l.drop (j + 1)) ++ [UInt8.ofNat (48 + l[j]'h)] := by
  unfold revB
  rw [List.drop_eq_getElem_cons h, List.reverse_cons, List.map_append]
  rfl
theorem revB_len (l : List Nat) : (revB l).length = l.length := by simp [revB]
theorem baseP_r (s : List UInt8) : (baseP s).1 = 10 ∨ (baseP s).1 = 16 ∨ (baseP s).1 = 2 ∨ (baseP s).1 = 8 := by
  rcases baseP_cases s with ⟨h, _⟩ | ⟨h, _⟩
  · exact .inl h
  · exact .inr h
theorem baseP_len (s : List UInt8) : (baseP s).2.length ≤ s.length := by
  rcases baseP_cases s with ⟨_, h, _⟩ | ⟨_, h, _⟩
  · rw [h]; exact Nat.le_refl _
  · omega
theorem baseP_zero {s : List UInt8} (h : (baseP s).1 = 10) (hl : 2 ≤ (baseP s).2.length) : (baseP s).2.head? ≠ some 48 := by
  rcases baseP_cases s with ⟨_, h2, h3⟩ | ⟨h2, _⟩
  · rw [h2] at hl ⊢
    rcases h3 with h3 | h3
    · omega
    · exact h3
  · omega
set_option maxRecDepth 100000 in
set_option maxHeartbeats 6400000 in
theorem number_any (s : List UInt8) (w : World) (hs : s.length ≤ 1000000) : Calls Tryd.prog 10 #[.string ⟨s.toArray⟩] w (NumPost (numP s) w) := by
  obtain ⟨p, hp⟩ : ∃ p, p = numP s := ⟨_, rfl⟩
  rw [← hp]
  have HP := hid hp
  clear hp
  by_cases h200 : 200 < s.length
  · have e : Hid (p = ([], 12)) := hid (by rw [HP.out]; unfold numP; rw [if_pos h200])
    go_enter Tryd.func10, Tryd.ntmps10
    go_wp2_with fail
    go_ret2
    rw [e.out]
    exact ⟨rfl, Ext.refl _ _⟩
  · have hs2 : s.length ≤ 200 := by omega
    have CB := base_any s w hs
    have h1 := baseP_r s
    have h2 := baseP_len s
    have h3 := fun a b => baseP_zero (s := s) a b
    have HP1 : Hid (p = if (baseP s).1 = 10 ∧ ((baseP s).2 = [] ∨ (baseP s).2.head? = some 95) then ([], 4) else goP (baseP s).1 0 [] (digsP (baseP s).1 false (baseP s).2)) := hid (by
      rw [HP.out]; unfold numP; rw [if_neg h200])
    obtain ⟨r, hr⟩ : ∃ r, (baseP s).1 = r := ⟨_, rfl⟩
    obtain ⟨q, hq⟩ : ∃ q, (baseP s).2 = q := ⟨_, rfl⟩
    unfold BasePost at CB
    rw [hr, hq] at HP1 h3 CB
    rw [hr] at h1
    rw [hq] at h2
    have HCB := hid CB
    have HR := hid h1
    have HZ := hid h3
    have hq2 : q.length ≤ 200 := by omega
    have hr16 : r ≤ 16 := by omega
    clear hr hq h1 h3 h200 CB HP
    obtain ⟨bb, hbb⟩ : ∃ bb, bb = decide (r = 10 ∧ (q = [] ∨ q.head? = some 95)) := ⟨_, rfl⟩
    have HBB := hid hbb
    clear hbb
    obtain ⟨i0, hi, hz0, hz1, hz2⟩ : ∃ i0, Tryd.prog.info? 5 = some i0 ∧ i0.zero = some (.int .u8 0) ∧ i0.size = 1 ∧ i0.bytes = 1 := ⟨_, rfl, rfl, rfl, rfl⟩
    have I0 := hid hi
    have I1 := hid hz0
    have I2 := hid hz1
    have I3 := hid hz2
    clear hi hz0 hz1 hz2
    go_enter Tryd.func10, Tryd.ntmps10
    go_wp2_with fail
    refine HCB.out.mono ?_
    rintro e w1 ⟨rfl, X1⟩
    have X1 := hid X1
    go_upto_region 4 with (fail)
    go_cut [32] from 22 to 32 (fun z wx => z = .bool bb ∧ wx = w1)
    case first =>
      by_cases hr10 : r = 10
      · have n10 : ((r : Int) == 10) = true := by rw [hr10]; rfl
        by_cases hq0 : q = []
        · have hb : bb = true := by rw [HBB.out]; simp [hr10, hq0]
          subst hq0
          clear hr10
          go_wp2_with fail
          go_meet
          case rel => exact ⟨by rw [hb], rfl⟩
        · have e0 : (q == []) = false := by simpa using hq0
          have hl0 : 0 < q.length := List.length_pos_iff.2 hq0
          have hix := byte_at q 0 hl0
          have hh : q.head? = some (q[0]'hl0) := by rw [List.head?_eq_getElem?, List.getElem?_eq_getElem hl0]
          obtain ⟨c, hc⟩ : ∃ c, q[0]'hl0 = c := ⟨_, rfl⟩
          rw [hc] at hix hh
          have HB2 : Hid (bb = decide (c = 95)) := hid (by rw [HBB.out, hh]; simp [hr10, hq0])
          clear hr10 hc hh hq0
          by_cases h95 : c = 95
          · have hb : bb = true := by rw [HB2.out]; simp [h95]
            have n1 : ((c.toNat : Int) == 95) = true := by rw [h95]; rfl
            clear h95
            go_wp2_with fail
            go_meet
            case rel => exact ⟨by rw [hb], rfl⟩
          · have hb : bb = false := by rw [HB2.out]; simp [h95]
            have n1 : ((c.toNat : Int) == 95) = false := by have := u8n h95; simp at this ⊢; omega
            clear h95
            go_wp2_with fail
            go_meet
            case rel => exact ⟨by rw [hb], rfl⟩
      · have n10 : ((r : Int) == 10) = false := by simp; omega
        have hb : bb = false := by rw [HBB.out]; simp [hr10]
        clear hr10
        go_wp2_with fail
        go_meet
        case rel => exact ⟨by rw [hb], rfl⟩
    case rest =>
      obtain ⟨rfl, rfl⟩ := hcut
      cases bb with
      | true =>
        have hb : r = 10 ∧ (q = [] ∨ q.head? = some 95) := by simpa using HBB.out.symm
        have e : Hid (p = ([], 4)) := hid (by rw [HP1.out, if_pos hb])
        clear hb
        go_wp2_with fail
        go_ret2
        rw [e.out]
        exact ⟨rfl, X1.out⟩
      | false =>
        have hb : ¬ (r = 10 ∧ (q = [] ∨ q.head? = some 95)) := by simpa using HBB.out.symm
        have HP2 : Hid (p = goP r 0 [] (digsP r false q)) := hid (by rw [HP1.out, if_neg hb])
        clear hb HP1
        have R0 : Hid (NumRel wc.heap.size q r p wc (wc.alloc (.stringIter ⟨q.toArray⟩ 0)) (.slice none 0 0) 0 false 0 []) := hid
          ⟨by omega, heap_alloc_at rfl _, (Ext.refl _ _).alloc _, ⟨World.ownsRow_nil _ _ _ _⟩, by simp, by simp, by omega, by rw [List.drop_zero]; exact HP2.out⟩
        obtain ⟨it, hit0⟩ : ∃ it, it = wc.heap.size := ⟨_, rfl⟩
        have HIT := hid hit0
        rw [← hit0] at R0
        clear HP2
        go_wp2_with fail
        rw [← hit0]
        clear hit0
        go_loopw [6, 7, 8, 10, 11] (fun v ln m _ _ wr => ∃ pos line many l, ln = .bool line ∧ m = .int .i64 (many : Nat) ∧ Hid (NumRel it q r p wc wr v pos line many l)) (fun _ _ _ _ _ wr => q.length - wr.iterPos it)
        case atStart => exact ⟨0, false, 0, [], rfl, rfl, R0⟩
        case round =>
          obtain ⟨pos, line, many, l, rfl, rfl, R⟩ := hrel
          have hle := R.out.le
          have hpi := hid (iterPos_of R.out.hit)
          by_cases hpl : pos < q.length
          · obtain ⟨d, hd⟩ : ∃ d, Utf8.decode ⟨q.toArray⟩ pos = d := ⟨_, rfl⟩
            have hnx : ∀ ty, (Instr.next (.pointer (some ⟨it, 0, none⟩)) true ty).run Tryd.prog wr = .ok (.tuple #[.bool true, .int .i64 pos, .int .i32 d.1]) (wr.iterAt it ⟨q.toArray⟩ (pos + d.2)) :=
              fun ty => by rw [← hd]; exact run_next_any_at wr it ⟨q.toArray⟩ pos ty R.out.hit (by rw [bsize]; exact hpl)
            have Hd := (decode_drop q pos).symm.trans hd
            have hdr : q.drop pos = q[pos] :: q.drop (pos + 1) := List.drop_eq_getElem_cons hpl
            obtain ⟨c, hc⟩ : ∃ c, q[pos]'hpl = c := ⟨_, rfl⟩
            rw [hc] at hdr
            have hdh := dec_head c (q.drop (pos + 1))
            rw [← hdr, Hd] at hdh
            obtain ⟨d1, d2⟩ := d
            simp only at hdh hnx
            have hd1 : d1 ≤ 1114111 := by
              have := rune_le ⟨q.toArray⟩ pos
              rw [hd] at this; exact this
            have X1 : Ext none' wc (wr.iterAt it ⟨q.toArray⟩ (pos + d2)) := R.out.hx.iterAt (.inr (by rw [HIT.out]; exact Nat.le_refl _)) _ _
            have hit2 : Hid ((wr.iterAt it ⟨q.toArray⟩ (pos + d2)).heap[it]? = some (.stringIter ⟨q.toArray⟩ (pos + d2))) := hid (iterAt_heap _ _ _ _ _ R.out.hit)
            have hrow : DigRel wc.heap.size (wr.iterAt it ⟨q.toArray⟩ (pos + d2)) u6 l := ⟨by
              have xx : Ext (one it) wr (wr.iterAt it ⟨q.toArray⟩ (pos + d2)) := (Ext.refl (one it) wr).iterAt (.inl (show it = it from rfl)) _ _
              refine ownsRow_ext R.out.row.own xx fun g hg hf => ?_
              have hf : g = it := hf
              subst hf
              rcases R.out.row.own.2 with ⟨h, _⟩ | ⟨g', cap, cur, h, _, hgg, _⟩
              · rw [h] at hg; cases hg
              · rw [h] at hg
                injection hg with hg
                subst hg
                have := R.out.hit
                rw [hgg] at this
                cases this⟩
            have HROW := hid hrow
            have HX1 := hid X1
            have hres := R.out.res
            rw [hdr] at hres
            have HRES := hid hres
            have HDH := hid hdh.1
            have CD := hid (digit_any d1 (wr.iterAt it ⟨q.toArray⟩ (pos + d2)) hd1)
            have hlen := R.out.len
            have hmny := R.out.mny
            have hdig := hid R.out.dig
            have HCW := hid hdh.2.2
            have H95 := hid hdh.2.1
            clear hd Hd hdr hc hrow X1 hres hdh
            by_cases m1 : c = 95 ∧ line = false
            · obtain ⟨rfl, rfl⟩ := m1
              have e95 : d1 = 95 := H95.out.2 rfl
              have ed2 : d2 = 1 := by have := HCW.out (by decide); injection this
              subst e95 ed2
              rw [HDH.out] at CD
              have N : Hid (NumRel it q r p wc (wr.iterAt it ⟨q.toArray⟩ (pos + 1)) u6 (pos + 1) true many l) := hid
                ⟨by omega, hit2.out, HX1.out, HROW.out, hdig.out, by omega, by omega, by rw [HRES.out]; rfl⟩
              have NI := hid (iterPos_of hit2.out)
              clear R
              go_wp2_with fail
              refine CD.out.mono ?_
              rintro e w2 ⟨rfl, rfl⟩
              go_wp2_with fail
              go_roundw
              case rel => exact ⟨pos + 1, true, many, l, rfl, rfl, N⟩
              case measure => rw [NI.out, hpi.out]; omega
            · have hcond : (((d1 : Int) == 95) = true ∧ line = true) ∨ ((d1 : Int) == 95) = false := by
                by_cases h : d1 = 95
                · left
                  refine ⟨by rw [h]; rfl, ?_⟩
                  have := H95.out.1 h
                  cases line with
                  | true => rfl
                  | false => exact absurd ⟨this, rfl⟩ m1
                · right; simp; omega
              have hds : digsP r line (c :: q.drop (pos + 1)) = (match digN c.toNat with
                | none => none
                | some d => if r ≤ d then none else (digsP r false (q.drop (pos + 1))).map (d :: ·)) := by
                conv => lhs; unfold digsP
                rw [if_neg m1]
                cases digN c.toNat <;> rfl
              have HDS := hid hds
              clear hds m1
              rw [HDH.out] at CD
              rw [HDS.out] at HRES
              cases hdn : digN c.toNat with
              | none =>
                rw [hdn] at CD HRES
                have e : Hid (p = ([], 4)) := hid (by rw [HRES.out]; rfl)
                simp only [digV] at CD
                clear HRES hdn HDS HDH R
                rcases hcond with ⟨hcc, rfl⟩ | hcc
                all_goals
                  go_wp2_with fail
                  refine CD.out.mono ?_
                  rintro e' w2 ⟨rfl, rfl⟩
                  go_wp2_with fail
                  go_ret2
                  rw [e.out]
                  exact ⟨rfl, X1.out.trans HX1.out⟩
              | some dd =>
                rw [hdn] at CD HRES
                simp only [digV] at CD HRES
                have hdd := digN_le hdn
                have hc128 := hdd.2.1
                have ecw := HCW.out hc128
                injection ecw with ecw1 ecw2
                have hc95 : ((d1 : Int) == 95) = false := by
                  rcases hcond with ⟨h, _⟩ | h
                  · have h' : d1 = 95 := by have := eq_of_beq h; omega
                    have := H95.out.1 h'
                    subst this
                    rw [show ((95 : UInt8).toNat) = 95 from rfl, digN_95] at hdn
                    cases hdn
                  · exact h
                have hd15 := hdd.1
                subst ecw2
                clear hcond hdn HDS HDH hdd ecw1 hc128
                by_cases hrd : r ≤ dd
                · have e : Hid (p = ([], 4)) := hid (by rw [HRES.out, if_pos hrd]; rfl)
                  clear HRES R
                  go_wp2_with fail
                  refine CD.out.mono ?_
                  rintro e' w2 ⟨rfl, rfl⟩
                  go_wp2_with fail
                  go_ret2
                  rw [e.out]
                  exact ⟨rfl, X1.out.trans HX1.out⟩
                · have hrd' : dd < r := by omega
                  have HRES2 : Hid (p = goP r (many + 1) (timesP l r dd) (digsP r false (q.drop (pos + 1)))) := hid (by
                    rw [HRES.out, if_neg hrd]
                    cases digsP r false (q.drop (pos + 1)) with
                    | none => rfl
                    | some ds => simp [goP])
                  have CT := hid (times_any wc.heap.size u6 l r dd (wr.iterAt it ⟨q.toArray⟩ (pos + 1)) HROW.out HX1.out.size hr16 hd15 hdig.out (by omega))
                  have HTL := hid (timesP_len (l := l) hr16 hd15 hdig.out)
                  clear HRES hrd R
                  go_wp2_with fail
                  refine CD.out.mono ?_
                  rintro e' w2 ⟨rfl, rfl⟩
                  go_wp2_with fail
                  refine CT.out.mono ?_
                  rintro e' w3 ⟨v3, rfl, R3, X3, B3⟩
                  have hit3 : w3.heap[it]? = some (.stringIter ⟨q.toArray⟩ (pos + 1)) := X3.heap hit2.out (fun hf => by
                    rcases HROW.out.own.2 with ⟨h, _⟩ | ⟨g', cap, cur, h, _, hgg, _⟩
                    · rw [h] at hf; cases hf
                    · rw [h] at hf
                      injection hf with hf
                      subst hf
                      have := hit2.out
                      rw [hgg] at this
                      cases this)
                  have X33 : Ext none' wc w3 := HX1.out.trans' X3 (fun i hi h => by
                    have := (HROW.out.own.lt i h).1
                    omega)
                  have N : Hid (NumRel it q r p wc w3 v3 (pos + 1) false (many + 1) (timesP l r dd)) := hid
                    ⟨by omega, hit3, X33, R3, timesP_dig, by have := HTL.out; omega, by omega, HRES2.out⟩
                  have NI := hid (iterPos_of hit3)
                  clear R3 X3 B3 hit3 X33
                  go_wp2_with fail
                  go_roundw
                  case rel => exact ⟨pos + 1, false, many + 1, _, rfl, by go_num, N⟩
                  case measure => rw [NI.out, hpi.out]; omega
          · have hpq : pos = q.length := by omega
            have hnx : ∀ ty, (Instr.next (.pointer (some ⟨it, 0, none⟩)) true ty).run Tryd.prog wr = _ := fun ty => run_next_end_at wr it ⟨q.toArray⟩ pos ty R.out.hit (by rw [bsize]; exact hpl)
            have hres := R.out.res
            rw [hpq, List.drop_length] at hres
            have HRES := hid hres
            have HLN := hid R.out.len
            have HMN := hid R.out.mny
            have HRX := hid R.out.hx
            have HDG := hid R.out.dig
            have HRW := hid R.out.row
            clear hres hpl R hpi
            subst hpq
            go_upto_region 20 with (fail)
            go_cut [78] from 61 to 78 (fun z wx => z = .bool (line || decide (many = 0)) ∧ wx = wr)
            case first =>
              cases line with
              | true =>
                go_wp2_with fail
                go_meet
                case rel => exact ⟨rfl, rfl⟩
              | false =>
                by_cases hm0 : many = 0
                · subst hm0
                  go_wp2_with fail
                  go_meet
                  case rel => exact ⟨rfl, rfl⟩
                · have e0 : ((many : Int) == 0) = false := by simp; omega
                  have HED : Hid ((false || decide (many = 0)) = false) := hid (by simp [hm0])
                  by_cases hr10 : r = 10
                  · have n10 : ((r : Int) == 10) = true := by rw [hr10]; rfl
                    by_cases hm1 : 1 < many
                    · have hql : 2 ≤ q.length := by have := HMN.out; omega
                      have hix := byte_at q 0 (by omega)
                      have hh : q.head? = some (q[0]'(by omega)) := by rw [List.head?_eq_getElem?, List.getElem?_eq_getElem (by omega)]
                      have hz := HZ.out hr10 hql
                      rw [hh] at hz
                      obtain ⟨c, hc⟩ : ∃ c, q[0]'(by omega) = c := ⟨_, rfl⟩
                      rw [hc] at hix hz
                      have n48 : ((c.toNat : Int) == 48) = false := by
                        have : c ≠ 48 := fun e => hz (by rw [e])
                        have := u8n this; simp at this ⊢; omega
                      clear hr10 hc hh hz hm0
                      go_wp2_with fail
                      go_meet
                      case rel => exact ⟨by rw [HED.out], rfl⟩
                    · have hm1' : many ≤ 1 := by omega
                      clear hr10 hm0 hm1
                      go_wp2_with fail
                      go_meet
                      case rel => exact ⟨by rw [HED.out], rfl⟩
                  · have n10 : ((r : Int) == 10) = false := by simp; omega
                    clear hr10 hm0
                    go_wp2_with fail
                    go_meet
                    case rel => exact ⟨by rw [HED.out], rfl⟩
            case rest =>
              obtain ⟨rfl, rfl⟩ := hcut
              by_cases hbad : (line || decide (many = 0)) = true
              · have e : Hid (p = ([], 4)) := hid (by
                  rw [HRES.out]
                  cases line with
                  | true => rfl
                  | false =>
                    have hm0 : many = 0 := by simpa using hbad
                    subst hm0
                    rfl)
                rw [hbad]
                clear hbad HRES
                go_wp2_with fail
                go_ret2
                rw [e.out]
                exact ⟨rfl, X1.out.trans HRX.out⟩
              · have hb : (line || decide (many = 0)) = false := by simpa using hbad
                have e : Hid (p = (showP l, 0)) := hid (by
                  rw [HRES.out]
                  simp only [Bool.or_eq_false_iff, decide_eq_false_iff_not] at hb
                  obtain ⟨rfl, hm0⟩ := hb
                  simp [goP, digsP, hm0])
                rw [hb]
                clear hbad hb HRES
                have hll : l.length ≤ 400 := by have := HLN.out; omega
                obtain ⟨a, cp, hu6⟩ := own_slice HRW.out.own
                subst hu6
                obtain ⟨K, hK⟩ : ∃ K, K = l.length + 1 := ⟨_, rfl⟩
                have hKi : ((l.length : Nat) : Int) + 1 = (K : Nat) := by omega
                have HKI := hid hKi
                obtain ⟨w5, hrun, own5, grow5⟩ := run_make_own (P := Tryd.prog) wc wc.heap.size 23 5 i0 _ 1 Tryd.underlying23 I0.out I1.out I2.out .i64 .i64 K (by rw [I3.out]; omega) (by unfold maxLen; omega) (Nat.le_refl _)
                rw [← HKI.out] at hrun
                have X5 : Ext none' wc w5 := (Ext.refl none' wc).grown grow5 (fun k hk => by cases hk)
                have HO5 := hid own5
                have HX5 := hid X5
                have HDR := hid (HRW.out.later X5 (fun _ _ h => h))
                clear hK hKi own5 grow5 X5
                go_wp2_with fail
                rw [HKI.out]
                clear hrun
                obtain ⟨gb, hgb⟩ : ∃ gb, gb = wc.heap.size := ⟨_, rfl⟩
                go_loopw [12, 13] (fun vo z wr => ∃ k : Nat, z = .int .i64 ((k : Int) - 1) ∧ k ≤ l.length ∧ Hid (OutRel wc wr vo (revB (l.drop k)))) (fun _ z _ => (RowKit.intOf z + 1).toNat)
                case atStart => exact ⟨l.length, rfl, Nat.le_refl _, hid ⟨by rw [List.drop_length]; exact HO5.out, HX5.out⟩⟩
                case round =>
                  obtain ⟨k, rfl, hk, HOR⟩ := hrel
                  cases k with
                  | zero =>
                    rw [show (((0 : Nat) : Int) - 1) = -1 by omega]
                    rw [List.drop_zero] at HOR
                    obtain ⟨a2, c2, hu12⟩ := own_slice HOR.out.own
                    subst hu12
                    have HOR2 := HOR
                    rw [revB_len] at *
                    by_cases hl0 : l = []
                    · subst hl0
                      have HQ : Hid (showP [] = (revB []) ++ [48]) := hid rfl
                      have O2 := hid (HOR2.out.later ((Ext.refl none' wr).alloc (.cells (byteVals [48]).toArray 5)))
                      have S2 : Hid (Src Tryd.prog 1 23 (.slice (some ⟨wr.heap.size, 0, none⟩) 1 1) 1 (byteVals [48]) (wr.alloc (.cells (byteVals [48]).toArray 5))) := hid (Src.lits (bs := [48]) Tryd.underlying23 (heap_alloc_at rfl _))
                      have HSZ := hid HOR2.out.hx.size
                      go_wp2_with (at_builtin; refine wpList_app _ rfl (.tmp 102) (.tmp 103) 23 23 rfl wc.heap.size 5 i0 _ 1 1 Tryd.underlying23 I0.out I1.out I2.out I3.out rfl _ 0 (byteVals []) rfl O2.out.own _ 1 _ rfl S2.out ?_ ?_ ?_ ?_)
                      · unfold maxLen; omega
                      · omega
                      · have := HSZ.out; simp; omega
                      intro v3 w3 own3 grow3 blk3 _
                      have N := hid (O2.out.app (cs := [48]) own3 grow3)
                      rw [← HQ.out] at N
                      have hcv := conv_bytes (Bytes.of_owns N.out.own) 23 5 Tryd.underlying23 Tryd.underlying5 9 Tryd.underlying9
                      clear own3 grow3 blk3
                      go_wp2_with fail
                      go_ret2
                      rw [e.out]
                      exact ⟨rfl, (X1.out.trans HRX.out).trans N.out.hx⟩
                    · have hl1 : 0 < l.length := List.length_pos_iff.2 hl0
                      have HQ : Hid (showP l = revB l) := hid (by unfold showP; rw [if_neg hl0]; rfl)
                      have e0 : ((l.length : Int) == 0) = false := by simp; omega
                      have hcv := conv_bytes (Bytes.of_owns HOR2.out.own) 23 5 Tryd.underlying23 Tryd.underlying5 9 Tryd.underlying9
                      clear hl0
                      go_wp2_with fail
                      go_ret2
                      rw [e.out, HQ.out]
                      exact ⟨rfl, (X1.out.trans HRX.out).trans HOR2.out.hx⟩
                  | succ j =>
                    have hjl : j < l.length := by omega
                    rw [show (((j + 1 : Nat) : Int) - 1) = (j : Nat) by omega]
                    have HRV := hid (revB_drop hjl)
                    have RW := (HRW.out.later HOR.out.hx (fun _ _ h => h)).own
                    obtain ⟨x, hx⟩ : ∃ x, l[j]'hjl = x := ⟨_, rfl⟩
                    have hx9 : x ≤ 9 := by rw [← hx]; exact HDG.out _ (List.getElem_mem hjl)
                    rw [hx] at HRV
                    cases a with
                    | none =>
                      rcases RW.2 with ⟨_, h⟩ | ⟨g, cap, cur, h, _⟩
                      · omega
                      · injection h with h _ _; cases h
                    | some ad =>
                      obtain ⟨b, off, spot⟩ := ad
                      obtain ⟨rfl, rfl⟩ : off = 0 ∧ spot = none := by
                        rcases RW.2 with ⟨h, _⟩ | ⟨g, cap, cur, h, _⟩
                        · injection h with h _ _; cases h
                        · injection h with h _ _; injection h with h; injection h with h1 h2 h3; exact ⟨h2, h3⟩
                      have cj := RW.cellAt j (by omega)
                      rw [intVals_at hjl, hx] at cj
                      have hbl : (revB (l.drop (j + 1))).length ≤ 400 := by rw [revB_len, List.length_drop]; omega
                      obtain ⟨bs, hbs⟩ : ∃ bs, bs = revB (l.drop (j + 1)) := ⟨_, rfl⟩
                      rw [← hbs] at HOR HRV hbl
                      obtain ⟨y, hy⟩ : ∃ y, y = UInt8.ofNat (48 + x) := ⟨_, rfl⟩
                      have hu8 : 48 + (x : Int) = (y.toNat : Nat) := by rw [hy, UInt8.toNat_ofNat']; omega
                      rw [← hy] at HRV
                      have HU8 := hid hu8
                      have O2 : Hid (OutRel wc (wr.alloc (.cells #[.int .u8 (48 + (x : Int))] 5)) u12 bs) := hid (HOR.out.later ((Ext.refl none' wr).alloc _))
                      have S2 : Hid (Src Tryd.prog 1 23 (.slice (some ⟨wr.heap.size, 0, none⟩) 1 1) 1 (byteVals [y]) (wr.alloc (.cells #[.int .u8 (48 + (x : Int))] 5))) := hid (by
                        rw [hu8]; exact Src.lits (bs := [y]) Tryd.underlying23 (heap_alloc_at rfl _))
                      have HSZ := hid HOR.out.hx.size
                      have HNX : Hid (revB (l.drop j) = bs ++ [y]) := hid HRV.out
                      clear hbs hx RW HRV hu8 hy
                      go_wp2_with (at_builtin; refine wpList_app _ rfl (.tmp 90) (.tmp 97) 23 23 rfl wc.heap.size 5 i0 _ 1 1 Tryd.underlying23 I0.out I1.out I2.out I3.out rfl _ bs.length (byteVals bs) rfl O2.out.own _ 1 _ rfl S2.out ?_ ?_ ?_ ?_)
                      · unfold maxLen; omega
                      · omega
                      · have := HSZ.out; simp; omega
                      intro v3 w3 own3 grow3 blk3 _
                      have N := hid (O2.out.app (cs := [y]) own3 grow3)
                      rw [← HNX.out] at N
                      clear own3 grow3 blk3
                      go_wp2_with fail
                      go_roundw
                      case rel => exact ⟨j, rfl, by omega, N⟩
                      case measure => simp [RowKit.intOf]
end Go.Proofs.YtielcpnalepkfaaDoor
