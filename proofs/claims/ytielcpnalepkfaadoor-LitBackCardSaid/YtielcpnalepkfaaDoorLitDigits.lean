import Derived.Test.YtielcpnalepkfaaDoorLitTextP
import Derived.Test.YtielcpnalepkfaaDoorLitNum2
import Derived.Deep.CutRange
namespace Go.Proofs.YtielcpnalepkfaaDoor
open Go.RowKit Go.Lib Go.BigFrame
def gaveW : Value := .iface 45 (.agg #[])
theorem wneed_yes (w : World) : Calls Tryd.prog 24 #[.bool true] w fun e w' => e = .returned (.tuple #[]) ∧ w = w' := by
  go_enter Tryd.func24, Tryd.ntmps24
  go_wp2
  go_end0
  exact ⟨rfl, rfl⟩
theorem wneed_no (w : World) : Calls Tryd.prog 24 #[.bool false] w fun e w' => e = .panicked [{ v := gaveW, recovered := false }] ∧ w = w' := by
  go_enter Tryd.func24, Tryd.ntmps24
  go_wp2
  exact ⟨rfl, rfl, rfl⟩
theorem valL_cons {r v d : Nat} {c : UInt8} {t : List UInt8} (h : digN c.toNat = some d) : valL r v (c :: t) = if r ≤ d then none else valL r (v * r + d) t := by
  conv => lhs; unfold valL
  rw [h]
def DgPost (o : Option Nat) (w : World) (e : Ending) (w' : World) : Prop :=
  match o with
  | some v => e = .returned (.int .i64 (v : Nat)) ∧ Ext none' w w'
  | none => e = .panicked [{ v := gaveW, recovered := false }] ∧ Ext none' w w'
structure DgRel (it : Nat) (q : List UInt8) (r : Nat) (p : Option Nat) (w wr : World) (pos v : Nat) : Prop where
  le : pos ≤ q.length
  hit : wr.heap[it]? = some (.stringIter ⟨q.toArray⟩ pos)
  hx : Ext none' w wr
  lt : v < 16 ^ pos
  res : p = valL r v (q.drop pos)
set_option maxRecDepth 100000 in
set_option maxHeartbeats 3200000 in
theorem digits_any (s : List UInt8) (n r : Nat) (w : World) (hn : n ≤ 8) (hr : r ≤ 16) (_hs : s.length ≤ 1000000) : Calls Tryd.prog 49 #[.string ⟨s.toArray⟩, .int .i64 n, .int .i64 r] w (DgPost (digitsP r n s) w) := by
  obtain ⟨p, hp⟩ : ∃ p, p = digitsP r n s := ⟨_, rfl⟩
  rw [← hp]
  have HP := hid hp
  clear hp
  by_cases hns : n ≤ s.length
  · have HP1 : Hid (p = valL r 0 (s.take n)) := hid (by rw [HP.out]; unfold digitsP; rw [if_pos hns])
    have hex : (⟨s.toArray⟩ : ByteArray).extract 0 n = ⟨(s.take n).toArray⟩ := by rw [extract_eq, List.drop_zero, Nat.sub_zero]
    have HEX := hid hex
    obtain ⟨q, hq⟩ : ∃ q, s.take n = q := ⟨_, rfl⟩
    have hql : q.length = n := by rw [← hq, List.length_take]; omega
    rw [hq] at HEX HP1
    clear hex hq
    subst hql
    go_enter Tryd.func49, Tryd.ntmps49
    go_wp2_with fail
    refine (wneed_yes _).mono ?_
    rintro e w1 ⟨rfl, rfl⟩
    go_wp2_with fail
    rw [HEX.out]
    have R0 : Hid (DgRel w.heap.size q r p w (w.alloc (.stringIter ⟨q.toArray⟩ 0)) 0 0) := hid ⟨by omega, heap_alloc_at rfl _, (Ext.refl _ _).alloc _, by simp, by rw [List.drop_zero]; exact HP1.out⟩
    obtain ⟨it, hit0⟩ : ∃ it, it = w.heap.size := ⟨_, rfl⟩
    have HIT := hid hit0
    rw [← hit0] at R0
    rw [← hit0]
    clear hit0
    go_loopw [7, 9, 10] (fun z _ _ wr => ∃ pos v : Nat, z = .int .i64 v ∧ Hid (DgRel it q r p w wr pos v)) (fun _ _ _ wr => q.length - wr.iterPos it)
    case atStart => exact ⟨0, 0, rfl, R0⟩
    case round =>
      obtain ⟨pos, v, rfl, R⟩ := hrel
      have hle := R.out.le
      have hpi := hid (iterPos_of R.out.hit)
      by_cases hpl : pos < q.length
      · obtain ⟨d, hd⟩ : ∃ d, Utf8.decode ⟨q.toArray⟩ pos = d := ⟨_, rfl⟩
        have hnx : ∀ ty, (Instr.next (.pointer (some ⟨it, 0, none⟩)) true ty).run Tryd.prog wr = .ok (.tuple #[.bool true, .int .i64 pos, .int .i32 d.1]) (wr.iterAt it ⟨q.toArray⟩ (pos + d.2)) :=
          fun ty => by rw [← hd]; exact run_next_any_at wr it ⟨q.toArray⟩ pos ty R.out.hit (by rw [bsize]; exact hpl)
        have Hd := (decode_drop q pos).symm.trans hd
        have hdr : q.drop pos = q[pos] :: q.drop (pos + 1) := List.drop_eq_getElem_cons hpl
        obtain ⟨c, hc⟩ : ∃ c, q[pos]'hpl = c := ⟨_, rfl⟩
        rw [hc] at hdr
        have hdh := dec_head c (q.drop (pos + 1))
        rw [← hdr, Hd] at hdh
        obtain ⟨d1, d2⟩ := d
        simp only at hdh hnx
        have hd1 : d1 ≤ 1114111 := by
          have := rune_le ⟨q.toArray⟩ pos
          rw [hd] at this; exact this
        have X1 : Ext none' w (wr.iterAt it ⟨q.toArray⟩ (pos + d2)) := R.out.hx.iterAt (.inr (by rw [HIT.out]; exact Nat.le_refl _)) _ _
        have hit2 : Hid ((wr.iterAt it ⟨q.toArray⟩ (pos + d2)).heap[it]? = some (.stringIter ⟨q.toArray⟩ (pos + d2))) := hid (iterAt_heap _ _ _ _ _ R.out.hit)
        have HX1 := hid X1
        have hres := R.out.res
        rw [hdr] at hres
        have hlt := R.out.lt
        have CD := digit_any d1 (wr.iterAt it ⟨q.toArray⟩ (pos + d2)) hd1
        rw [hdh.1] at CD
        have HCW := hid hdh.2.2
        clear hd Hd hdr hc X1 hdh R
        cases hdn : digN c.toNat with
        | none =>
          rw [hdn] at CD
          have e : Hid (p = none) := hid (by rw [hres]; unfold valL; rw [hdn])
          simp only [digV] at CD
          have HCD := hid CD
          clear hres hdn CD
          go_wp2_with fail
          refine HCD.out.mono ?_
          rintro e' w2 ⟨rfl, rfl⟩
          go_wp2_with fail
          refine (wneed_no _).mono ?_
          rintro e' w2 ⟨rfl, rfl⟩
          go_wp2_with fail
          rw [e.out]
          exact ⟨rfl, rfl, HX1.out⟩
        | some dd =>
          rw [hdn] at CD
          simp only [digV] at CD
          have hdd := digN_le hdn
          have hd15 := hdd.1
          have ecw := HCW.out hdd.2.1
          injection ecw with ecw1 ecw2
          subst ecw2
          have hres2 : p = if r ≤ dd then none else valL r (v * r + dd) (q.drop (pos + 1)) := by rw [hres, valL_cons hdn]
          have HCD := hid CD
          clear hres hdn CD hdd ecw1
          by_cases hrd : r ≤ dd
          · have e : Hid (p = none) := hid (by rw [hres2, if_pos hrd])
            have hdec : decide (dd < r) = false := by simp; omega
            clear hres2
            go_wp2_with fail
            refine HCD.out.mono ?_
            rintro e' w2 ⟨rfl, rfl⟩
            go_wp2_with fail
            refine (wneed_no _).mono ?_
            rintro e' w2 ⟨rfl, rfl⟩
            go_wp2_with fail
            rw [e.out]
            exact ⟨rfl, rfl, HX1.out⟩
          · have hrd' : dd < r := by omega
            have hp7 : 16 ^ pos ≤ 16 ^ 7 := Nat.pow_le_pow_right (by omega) (by omega)
            have hv7 : v < 268435456 := Nat.lt_of_lt_of_le hlt hp7
            have hvr : v * r ≤ 268435455 * 16 := Nat.mul_le_mul (by omega) hr
            have hvi : (v : Int) * r = ((v * r : Nat) : Int) := by push_cast; rfl
            have hm0 : (0 : Int) ≤ (v : Int) * r := by rw [hvi]; omega
            have hm1 : (v : Int) * r ≤ 4294967280 := by rw [hvi]; omega
            have hlt2 : v * r + dd < 16 ^ (pos + 1) := by
              have : v * r ≤ v * 16 := Nat.mul_le_mul_left _ hr
              rw [Nat.pow_succ]; omega
            have HVI : Hid ((v : Int) * r + dd = ((v * r + dd : Nat) : Int)) := hid (by push_cast; rfl)
            have N : Hid (DgRel it q r p w (wr.iterAt it ⟨q.toArray⟩ (pos + 1)) (pos + 1) (v * r + dd)) := hid
              ⟨by omega, hit2.out, HX1.out, hlt2, by rw [hres2, if_neg hrd]⟩
            have NI := hid (iterPos_of hit2.out)
            have hdec : decide (dd < r) = true := by simp; omega
            clear hres2 hrd hp7 hv7 hvr hvi hlt2 hlt
            go_wp2_with fail
            refine HCD.out.mono ?_
            rintro e' w2 ⟨rfl, rfl⟩
            go_wp2_with fail
            refine (wneed_yes _).mono ?_
            rintro e' w2 ⟨rfl, rfl⟩
            go_wp2_with fail
            rw [HVI.out]
            go_roundw
            case rel => exact ⟨pos + 1, _, rfl, N⟩
            case measure => rw [NI.out, hpi.out]; omega
      · have hpq : pos = q.length := by omega
        have hnx : ∀ ty, (Instr.next (.pointer (some ⟨it, 0, none⟩)) true ty).run Tryd.prog wr = _ := fun ty => run_next_end_at wr it ⟨q.toArray⟩ pos ty R.out.hit (by rw [bsize]; exact hpl)
        have e : Hid (p = some v) := hid (by rw [R.out.res, hpq, List.drop_length]; rfl)
        have HX := hid R.out.hx
        clear R hpi
        go_wp2_with fail
        go_ret
        rw [e.out]
        exact ⟨rfl, HX.out⟩
  · have e : Hid (p = none) := hid (by rw [HP.out]; unfold digitsP; rw [if_neg hns])
    go_enter Tryd.func49, Tryd.ntmps49
    go_wp2_with fail
    refine (wneed_no _).mono ?_
    rintro e' w1 ⟨rfl, rfl⟩
    go_wp2_with fail
    rw [e.out]
    exact ⟨rfl, rfl, Ext.refl _ _⟩
end Go.Proofs.YtielcpnalepkfaaDoor
