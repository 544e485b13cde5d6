import Derived.Test.YteomiafndjcmiaaDoorPlaceWrong
import Derived.Test.YteomiafndjcmiaaDoorAppend
namespace Go.Proofs.YteomiafndjcmiaaDoor
open Go.RowKit Go.Lib
theorem count_take (s : List UInt8) (i : Nat) (h : i < s.length) : (s.take (i + 1)).count 10 = (s.take i).count 10 + (if s[i].toNat = 10 then 1 else 0) := by
  rw [List.take_add_one, List.getElem?_eq_getElem h, List.count_append]
  have : s[i] = 10 ↔ s[i].toNat = 10 := ⟨fun h => by rw [h]; rfl, fun h => UInt8.toNat_inj.1 h⟩
  by_cases e : s[i].toNat = 10
  · rw [if_pos e, this.2 e]; simp
  · rw [if_neg e]; simp only [Option.toList_some, List.count_cons, List.count_nil]
    rw [if_neg (by simpa using fun h => e (this.1 h))]
theorem ref_lines (B : Nat) (s : List UInt8) (v : Value) (w : World) (hv : Bytes B w v s) (hs : s.length ≤ 1000000) :
    Calls Tryd.prog 7 #[v] w (RetInt ((s.count 10 : Nat) + 1) w) := by
  obtain ⟨aa, cap, rfl, h1, h2, h3, h4⟩ := hv
  have H4 := hid h4
  clear h3 h4
  go_enter Tryd.func7, Tryd.ntmps7
  go_wp2
  go_loop [3, 4] (fun n z => ∃ (i : Nat), z = .int .i64 i ∧ i ≤ s.length ∧ n = .int .i64 (((s.take i).count 10 : Nat) + 1)) (fun _ z => s.length - (RowKit.intOf z).toNat)
  case atStart => exact ⟨0, rfl, by omega, rfl⟩
  case round =>
    obtain ⟨i, rfl, hle, rfl⟩ := hrel
    by_cases hi : i < s.length
    · have hne : s ≠ [] := by intro e; subst e; simp at hi
      obtain ⟨b, off, rfl, hbB, hbw, hcell⟩ := H4.out hne
      have g := hcell i hi
      have hcnt := count_take s i hi
      have hc0 : (s.take i).count 10 ≤ (s.take i).length := List.count_le_length
      rw [List.length_take] at hc0
      obtain ⟨x, hx⟩ : ∃ x, s[i].toNat = x := ⟨_, rfl⟩
      rw [hx] at g hcnt
      have HC := hid hcnt
      clear hcell hcnt
      by_cases e : x = 10
      · subst e
        go_wp2
        go_round
        case rel =>
          refine ⟨i + 1, by go_num, by omega, ?_⟩
          rw [HC.out]; go_num
        case measure => simp [RowKit.intOf]; omega
      · have e' : ((x : Int) == 10) = false := by simp; omega
        have E := hid e
        clear e
        go_wp2
        go_round
        case rel =>
          refine ⟨i + 1, by go_num, by omega, ?_⟩
          rw [HC.out, if_neg E.out]; rfl
        case measure => simp [RowKit.intOf]; omega
    · have e : i = s.length := by omega
      subst e
      rw [List.take_length]
      go_wp2
      go_ret
      exact ⟨rfl, rfl⟩
set_option maxHeartbeats 800000 in
theorem law_wrong_long (aa : Option Addr) (len cap : Nat) (w : World) (h : 1000 < len) (hm : len ≤ 9223372036854775807) : Calls Tryd.prog 3 #[.slice aa len cap] w (TruePost w) := by
  go_enter Tryd.func3, Tryd.ntmps3
  go_wp2
  go_ret
  exact ⟨rfl, Ext.refl _ _⟩
set_option maxHeartbeats 1600000 in
theorem law_wrong (s : List UInt8) (v : Value) (w : World) (hv : Bytes w.heap.size w v s) (hT : Tabs w) (hs : s.length ≤ 1000) : Calls Tryd.prog 3 #[v] w (TruePost w) := by
  have HV := hid hv
  have HT := hid hT
  obtain ⟨i0, hi, hz0, hz1, hz2⟩ : ∃ i0, Tryd.prog.info? 5 = some i0 ∧ i0.zero = some (.int .u8 0) ∧ i0.size = 1 ∧ i0.bytes = 1 := ⟨_, rfl, rfl, rfl, rfl⟩
  have I0 := hid hi
  have I1 := hid hz0
  have I2 := hid hz1
  have I3 := hid hz2
  clear hi hz0 hz1 hz2
  obtain ⟨aa, cap, rfl, h1, h2, h3, h4⟩ := hv
  clear h3 h4 hT
  have E0 : Ext none' w (w.alloc (.cells #[] 5)) := (Ext.refl none' w).alloc _
  have own0 : (w.alloc (.cells #[] 5)).ownsRow w.heap.size 5 1 (.slice (some ⟨w.heap.size, 0, none⟩) 0 0) 0 [] := World.ownsRow_lit w #[] 0 (Nat.le_refl _) (by decide) rfl
  have S0 := Src.bytes Tryd.underlying22 (HV.out.keep E0)
  have O0 := hid own0
  have S0 := hid S0
  clear own0
  go_enter Tryd.func3, Tryd.ntmps3
  go_wp2_with (at_builtin; refine wpList_app _ rfl (.tmp 6) (.tmp 7) 22 22 rfl w.heap.size 5 i0 (.int .u8 0) 1 1 Tryd.underlying22 I0.out I1.out I2.out I3.out rfl _ 0 [] rfl O0.out _ s.length (byteVals s) rfl S0.out ?_ ?_ ?_ ?_)
  · unfold maxLen; omega
  · omega
  · simp
  intro v1 w1 own1 grow1 blk1 _
  have X1 : Ext none' w w1 := E0.grown grow1 (fun k hk => .inr (by simp [Value.ownBlock] at hk; omega))
  have B1 := hid (Bytes.of_owns own1)
  have X1 := hid X1
  clear own1 grow1 blk1 O0 S0 E0
  have T1 := hid (HT.out.ext X1.out)
  go_wp2_with fail
  refine (wrong_any _ s _ w1 B1.out T1.out (by omega)).mono ?_
  rintro e w2 ⟨rfl, X2⟩
  have X2 := hid (X1.out.trans X2)
  go_wp2_with fail
  refine (ref_wrong _ s _ w2 (HV.out.keep X2.out) (by omega)).mono ?_
  rintro e w3 ⟨rfl, rfl⟩
  go_wp2_with fail
  refine (lines_any _ s _ w2 (HV.out.keep X2.out) (by omega)).mono ?_
  rintro e w3 ⟨rfl, X3⟩
  have X3 := hid (X2.out.trans X3)
  go_wp2_with fail
  refine (ref_lines _ s _ w3 (HV.out.keep X3.out) (by omega)).mono ?_
  rintro e w4 ⟨rfl, rfl⟩
  go_wp2_with fail
  refine (awake_any w3).mono ?_
  rintro e w4 ⟨rfl, X4⟩
  have X4 := hid (X3.out.trans X4)
  go_wp2_with fail
  go_ret
  exact ⟨rfl, X4.out⟩
end Go.Proofs.YteomiafndjcmiaaDoor
