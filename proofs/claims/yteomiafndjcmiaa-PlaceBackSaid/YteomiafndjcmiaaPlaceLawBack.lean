import Derived.Test.YteomiafndjcmiaaPlaceAwake
import Derived.Test.YteomiafndjcmiaaPlaceFacts
namespace Go.Proofs.Yteomiafndjcmiaa
open Go.RowKit Go.Lib Go.BigFrame
theorem back_long (aa : Option Addr) (len cap : Nat) (i j : Int) (w : World) (h : 300 < len) (hm : len ≤ 9223372036854775807) : Calls Try.prog 6 #[.slice aa len cap, .int .i64 i, .int .i64 j] w (TruePost w) := by
  go_enter Try.func6, Try.ntmps6
  go_wp2
  go_ret
  exact ⟨rfl, Ext.refl _ _⟩
theorem ofI_nat (s : List UInt8) (k : Nat) (h : k ≤ s.length) : ofI s (k : Int) = ofP s k := by unfold ofI; rw [if_neg (by omega), Int.toNat_natCast]
set_option maxHeartbeats 3200000 in
theorem back_any (s : List UInt8) (v : Value) (i j : Int) (w : World) (hv : Bytes w.heap.size w v s) (hs : s.length ≤ 300) : Calls Try.prog 6 #[v, .int .i64 i, .int .i64 j] w (TruePost w) := by
  have HV := hid hv
  obtain ⟨aa, cap, rfl, h1, h2, _, _⟩ := hv
  have CO := hid fun (k : Nat) (hk : k ≤ s.length) (w' : World) (hx : Ext none' w w') => by
    have := of_any _ s _ (k : Int) w' (HV.out.keep hx) hx.size (by omega)
    rwa [ofI_nat s k hk] at this
  have CA := hid fun (p : Int × Int) (w' : World) (hx : Ext none' w w') => at_any _ s _ p.1 p.2 w' (HV.out.keep hx) hx.size (by omega)
  have CS := hid fun (k : Nat) (hk : k < s.length) (w' : World) (hx : Ext none' w w') => by
    have := sign_bytes _ s _ k w' (HV.out.keep hx) hk (by omega)
    exact this
  go_enter Try.func6, Try.ntmps6
  go_wp2_with fail
  go_loopw [7] (fun x wr => ∃ k : Nat, x = .int .i64 k ∧ k ≤ s.length ∧ Hid (Stands s k) ∧ Hid (Ext none' w wr)) (fun x _ => s.length - (RowKit.intOf x).toNat)
  case atStart => exact ⟨0, rfl, Nat.zero_le _, Stands.zero s, Ext.refl _ _⟩
  case round =>
    obtain ⟨k, rfl, hk, HS, HX⟩ := hrel
    have CO1 := hid (CO.out k hk)
    have CA1 := hid (CA.out (ofP s k))
    have HB := hid HS.out.back
    obtain ⟨p1, p2, hp⟩ : ∃ p1 p2, ofP s k = (p1, p2) := ⟨_, _, rfl⟩
    rw [hp] at CO1 CA1 HB
    rw [HB.out] at CA1
    clear hp
    by_cases hlt : k < s.length
    · have hne : ((k : Int) == (s.length : Int)) = false := by simp; omega
      have CS1 := hid (CS.out k hlt)
      have hw1 := dw1 (s.drop k)
      have hw2 := dwle (s.drop k) (drop_ne hlt)
      rw [List.length_drop] at hw2
      have HN := hid (HS.out.next hlt)
      obtain ⟨q1, q2, hq⟩ : ∃ q1 q2, signL (s.drop k) = (q1, q2) := ⟨_, _, rfl⟩
      have hw := signL_w (s.drop k)
      rw [hq] at CS1 hw
      simp only at hw
      subst hw
      obtain ⟨d, hd⟩ : ∃ d, (decodeL (s.drop k)).2 = d := ⟨_, rfl⟩
      rw [hd] at CS1 hw1 hw2 HN
      clear hd hq
      go_wp2_with fail
      refine (CO1.out _ HX.out).mono ?_
      rintro e w2 ⟨rfl, X2⟩
      have X2 := hid (HX.out.trans X2)
      go_wp2_with fail
      refine (CA1.out _ X2.out).mono ?_
      rintro e w3 ⟨rfl, X3⟩
      have X3 := hid (X2.out.trans X3)
      go_wp2_with fail
      refine (CS1.out _ X3.out).mono ?_
      rintro e w4 ⟨rfl, rfl⟩
      go_wp2_with fail
      go_roundw
      case rel => exact ⟨k + d, by go_num, by omega, HN, X3⟩
      case measure => simp [RowKit.intOf]; omega
    · obtain rfl : k = s.length := by omega
      clear hlt hk
      have CA2 := hid (CA.out (i, j))
      have CO2 := fun (n : Nat) (hn : n ≤ s.length) => CO.out n hn
      have hb := atP_back s (i, j)
      obtain ⟨z, hz⟩ : ∃ z, atP s (i, j) = z := ⟨_, rfl⟩
      rw [hz] at CA2 hb
      clear hz
      have CO2 := hid CO2
      have HBK := hid hb
      clear hb
      go_wp2_with fail
      refine (CO1.out _ HX.out).mono ?_
      rintro e w2 ⟨rfl, X2⟩
      have X2 := hid (HX.out.trans X2)
      go_wp2_with fail
      refine (CA1.out _ X2.out).mono ?_
      rintro e w3 ⟨rfl, X3⟩
      have X3 := hid (X2.out.trans X3)
      go_wp2_with fail
      refine (CA2.out _ (X3.out.alloc _)).mono ?_
      rintro e w4 ⟨rfl, X4⟩
      have hP : w4.heap[w3.heap.size]? = some (.cells (pcells i j) 26 (0, 0)) := X4.heap (heap_alloc_at rfl _) (fun h => h)
      have a0 : ∀ t : Later w4, t.w.cell? ⟨w3.heap.size, 0, none⟩ = some (.int .i64 i) := fun t => cell_at (t.x.heap hP (fun h => h)) 0
      have a1 : ∀ t : Later w4, t.w.cell? ⟨w3.heap.size, 1, none⟩ = some (.int .i64 j) := fun t => cell_at (t.x.heap hP (fun h => h)) 1
      have X4 := hid ((X3.out.alloc _).trans X4)
      clear hP X3 X2
      rcases HBK.out with rfl | ⟨n, rfl, hn, ho⟩
      · clear HBK
        go_wp2_with fail
        refine region_later w4 (by kernel_rfl) (by kernel_rfl) (Ext.refl _ _) ?_
        repeat (go_big_quiet_step ((first | (go_at_call 10; exact Calls.later (awake_any _)))))
        refine wpQuiet_nil ?_
        rintro _ ⟨⟨w5, X5⟩, rfl⟩
        have X5 := hid X5
        go_wp2_with fail
        go_ret
        exact ⟨rfl, X4.out.trans X5.out⟩
      · clear HBK
        have n1 : ((n : Int) == -1) = false := beq_eq_false_iff_ne.2 (by omega)
        have n2 : decide ((0 : Int) ≤ (n : Int)) = true := by simp
        have n3 : decide ((n : Int) ≤ (s.length : Int)) = true := decide_eq_true (by omega)
        have CO3 := hid (CO2.out n hn)
        rw [ho] at CO3
        clear ho
        go_wp2_with fail
        refine region_later w4 (by kernel_rfl) (by kernel_rfl) (Ext.refl _ _) ?_
        repeat (go_big_quiet_step ((first | (go_at_call 10; exact Calls.later (awake_any _)) | (go_at_call 9; exact Calls.later (CO3.out _ (X4.out.trans (Later.x _)))))))
        refine wpQuiet_nil ?_
        rintro _ ⟨⟨w5, X5⟩, rfl⟩
        have X5 := hid X5
        go_wp2_with fail
        go_ret
        exact ⟨rfl, X4.out.trans X5.out⟩
end Go.Proofs.Yteomiafndjcmiaa
