import Derived.Test.YteomiafndjcmiaaPlaceAwake
import Derived.Test.YteomiafndjcmiaaPlaceFacts
import Derived.Test.YteomiafndjcmiaaAppend
namespace Go.Proofs.Yteomiafndjcmiaa
open Go.RowKit Go.Lib Go.BigFrame
theorem info5 : (Try.prog.info? 5).map (fun i => (i.zero, i.size, i.bytes)) = some (some (.int .u8 0), 1, 1) := by kernel_rfl
theorem joins_long (aa bb : Option Addr) (la ca lb cb : Nat) (i : Int) (w : World) (h : 300 < la ∨ 300 < lb) (hm : la ≤ 9223372036854775807) (hm2 : lb ≤ 9223372036854775807) : Calls Try.prog 5 #[.slice aa la ca, .slice bb lb cb, .int .u16 i] w (TruePost w) := by
  by_cases h1 : 300 < la
  · go_enter Try.func5, Try.ntmps5
    go_wp2
    go_ret
    exact ⟨rfl, Ext.refl _ _⟩
  · have h2 : 300 < lb := by omega
    go_enter Try.func5, Try.ntmps5
    go_wp2
    go_ret
    exact ⟨rfl, Ext.refl _ _⟩
set_option maxHeartbeats 3200000 in
theorem joins_any (a b : List UInt8) (va vb : Value) (j : Nat) (w : World) (ha : Bytes w.heap.size w va a) (hb : Bytes w.heap.size w vb b) (hla : a.length ≤ 300) (hlb : b.length ≤ 300) (hj : j ≤ 65535) : Calls Try.prog 5 #[va, vb, .int .u16 j] w (TruePost w) := by
  have HA := hid ha
  have HB := hid hb
  obtain ⟨aa, ca, rfl, a1, a2, _, _⟩ := ha
  obtain ⟨bb, cb, rfl, b1, b2, _, _⟩ := hb
  obtain ⟨i0, hi, hz0, hz1, hz2⟩ := info_parts info5
  have I0 := hid hi
  have I1 := hid hz0
  have I2 := hid hz1
  have I3 := hid hz2
  clear hi hz0 hz1 hz2
  have hz : ((b.length : Int) + 1 == 0) = false := by simp; omega
  have E0 : Ext none' w (w.alloc (.cells #[] 5)) := (Ext.refl none' w).alloc _
  have own0 : (w.alloc (.cells #[] 5)).ownsRow w.heap.size 5 1 (.slice (some ⟨w.heap.size, 0, none⟩) 0 0) 0 [] := World.ownsRow_lit w #[] 0 (Nat.le_refl _) (by decide) rfl
  have S0 := Src.bytes Try.underlying22 (HA.out.keep E0)
  have O0 := hid own0
  have S0 := hid S0
  clear own0
  go_enter Try.func5, Try.ntmps5
  go_wp2_with (at_builtin; refine wpList_app _ rfl (.tmp 19) (.tmp 20) 22 22 rfl w.heap.size 5 i0 (.int .u8 0) 1 1 Try.underlying22 I0.out I1.out I2.out I3.out rfl _ 0 [] rfl O0.out _ a.length (byteVals a) rfl S0.out ?_ ?_ ?_ ?_)
  · unfold maxLen; omega
  · omega
  · simp
  intro v1 w1 own1 grow1 blk1 _
  have X1 : Ext none' w w1 := E0.grown grow1 (fun k hk => .inr (by simp [Value.ownBlock] at hk; omega))
  have b1lt := (own1.alloc (.cells #[.int .u8 10] 5)).lt
  have O1 := hid (own1.alloc (.cells #[.int .u8 10] 5))
  have S1 := hid (Src.one Try.underlying22 w1 (.int .u8 10) 5 rfl)
  have X1 := hid X1
  clear own1 grow1 blk1 O0 S0 E0
  have X1s := X1.out.size
  go_wp2_with (at_builtin; refine wpList_app _ rfl (.tmp 21) (.tmp 22) 22 22 rfl w.heap.size 5 i0 (.int .u8 0) 1 1 Try.underlying22 I0.out I1.out I2.out I3.out rfl _ a.length (byteVals a) rfl O1.out _ 1 [.int .u8 10] rfl S1.out ?_ ?_ ?_ ?_)
  · unfold maxLen; omega
  · omega
  · simp; omega
  intro v2 w2 own2 grow2 blk2 _
  have X2 : Ext none' w w2 := (X1.out.alloc _).grown grow2 (fun k hk => .inr (b1lt k hk).1)
  have hbt : byteVals a ++ [.int .u8 10] = byteVals (a ++ [10]) := by rw [byteVals_append]; rfl
  rw [hbt] at own2
  have b2lt := own2.lt
  have O2 := hid own2
  have X2 := hid X2
  have S2 := hid (Src.bytes Try.underlying22 (HB.out.keep X2.out))
  clear own2 grow2 blk2 O1 S1 b1lt X1s hbt
  have X2s := X2.out.size
  go_wp2_with (at_builtin; refine wpList_app _ rfl (.tmp 23) (.tmp 24) 22 22 rfl w.heap.size 5 i0 (.int .u8 0) 1 1 Try.underlying22 I0.out I1.out I2.out I3.out rfl _ (a.length + 1) (byteVals (a ++ [10])) rfl O2.out _ b.length (byteVals b) rfl S2.out ?_ ?_ ?_ ?_)
  · unfold maxLen; omega
  · omega
  · omega
  intro v3 w3 own3 grow3 blk3 _
  have X3 : Ext none' w w3 := X2.out.grown grow3 (fun k hk => .inr (b2lt k hk).1)
  obtain ⟨c, hc⟩ : ∃ c, c = a ++ 10 :: b := ⟨_, rfl⟩
  have hcl : c.length = a.length + 1 + b.length := by rw [hc]; simp; omega
  have hcv : byteVals (a ++ [10]) ++ byteVals b = byteVals c := by rw [hc, ← byteVals_append]; simp
  rw [hcv, ← hcl] at own3
  have BC := Bytes.of_owns own3
  clear own3 grow3 blk3 O2 S2 b2lt X2s hcv
  obtain ⟨k, hk⟩ : ∃ k, k = j % (b.length + 1) := ⟨_, rfl⟩
  have hkl : k ≤ b.length := by have := Nat.mod_lt j (show 0 < b.length + 1 by omega); omega
  have hke : ((j : Int) % ((b.length : Int) + 1)) = (k : Int) := by rw [hk]; push_cast; rfl
  have hjn := joins a b k hkl
  have hcn := count_join a b
  rw [← hc] at hjn hcn
  have hend := ofP_end a
  obtain ⟨p1, p2, hp⟩ : ∃ p1 p2, ofP b k = (p1, p2) := ⟨_, _, rfl⟩
  obtain ⟨r1, r2, hr⟩ : ∃ p1 p2, ofP a a.length = (p1, p2) := ⟨_, _, rfl⟩
  obtain ⟨na, hna⟩ : ∃ n : Nat, a.count 10 = n := ⟨_, rfl⟩
  obtain ⟨nb, hnb⟩ : ∃ n : Nat, b.count 10 = n := ⟨_, rfl⟩
  have hp1 := (ofP_bounds b k hkl)
  have hca : a.count 10 ≤ a.length := List.count_le_length
  have hcb : b.count 10 ≤ b.length := List.count_le_length
  rw [hp, hnb] at hp1
  rw [hp, hr] at hjn
  rw [hr, hna] at hend
  rw [hna, hnb] at hcn
  simp only at hjn hend hp1
  have CB : ∀ w', Ext none' w3 w' → Calls Try.prog 9 #[.slice bb b.length cb, .int .i64 k] w' (PlPost (p1, p2) w') := fun w' hx => by
    have := of_any _ b _ (k : Int) w' (HB.out.keep (X3.trans hx)) (X3.trans hx).size (by omega)
    rwa [show ofI b (k : Int) = (p1, p2) by unfold ofI; rw [if_neg (by omega), Int.toNat_natCast, hp]] at this
  have CAL : ∀ w', Ext none' w3 w' → Calls Try.prog 9 #[.slice aa a.length ca, .int .i64 a.length] w' (PlPost (r1, r2) w') := fun w' hx => by
    have := of_any _ a _ (a.length : Int) w' (HA.out.keep (X3.trans hx)) (X3.trans hx).size (by omega)
    rwa [show ofI a (a.length : Int) = (r1, r2) by unfold ofI; rw [if_neg (by omega), Int.toNat_natCast, hr]] at this
  have LA : ∀ w', Ext none' w3 w' → Calls Try.prog 11 #[.slice aa a.length ca] w' (IntPost (na + 1) w') := fun w' hx => by
    have := lines_any _ a _ w' (HA.out.keep (X3.trans hx)) (by omega)
    rwa [hna] at this
  have LB : ∀ w', Ext none' w3 w' → Calls Try.prog 11 #[.slice bb b.length cb] w' (IntPost (nb + 1) w') := fun w' hx => by
    have := lines_any _ b _ w' (HB.out.keep (X3.trans hx)) (by omega)
    rwa [hnb] at this
  have CC : ∀ w', Ext none' w3 w' → ∀ z : Int, z = (a.length : Int) + 1 + k → Calls Try.prog 9 #[v3, .int .i64 z] w' (PlPost (p1 + r1, p2) w') := fun w' hx z hz => by
    have := of_any _ c _ z w' (BC.keep hx) hx.size (by omega)
    rwa [show ofI c z = (p1 + r1, p2) by unfold ofI; rw [if_neg (by omega), hz, show ((a.length : Int) + 1 + (k : Int)).toNat = a.length + 1 + k by omega, hjn]] at this
  have LC : ∀ w', Ext none' w3 w' → Calls Try.prog 11 #[v3] w' (IntPost ((na : Int) + 1 + (nb + 1)) w') := fun w' hx => by
    have := lines_any _ c _ w' (BC.keep hx) (by omega)
    rwa [hcn, show ((na + 1 + nb : Nat) : Int) + 1 = (na : Int) + 1 + (nb + 1) by omega] at this
  have CB := hid CB
  have CAL := hid CAL
  have LA := hid LA
  have LB := hid LB
  have CC := hid CC
  have LC := hid LC
  have hkl2 : 0 ≤ (k : Int) ∧ (k : Int) ≤ 300 := by omega
  have hna2 : (na : Int) ≤ 300 ∧ (nb : Int) ≤ 300 ∧ p1 ≤ 301 ∧ 1 ≤ p1 ∧ r1 ≤ 301 ∧ 1 ≤ r1 := by omega
  have HKE := hid hke
  have X3 := hid X3
  clear hca hcb hjn hcn hend hp hr hna hnb hke hk hkl hp1 hc hcl BC
  go_wp2_with fail
  rw [HKE.out]
  refine (CB.out _ (Ext.refl _ _)).mono ?_
  rintro e w4 ⟨rfl, X4⟩
  have X4 := hid X4
  simp only []
  go_wp2_with fail
  refine (CC.out _ X4.out _ rfl).mono ?_
  rintro e w5 ⟨rfl, X5⟩
  have X5 := hid (X4.out.trans X5)
  simp only []
  obtain ⟨w6, hw6⟩ : ∃ w6, (w5.alloc (.cells #[.int .i64 p1, .int .i64 p2] 26)).alloc (.cells #[.int .i64 (p1 + r1), .int .i64 p2] 26) = w6 := ⟨_, rfl⟩
  have X6 : Ext none' w3 w6 := by rw [← hw6]; exact (X5.out.alloc _).alloc _
  have hP : w6.heap[w5.heap.size]? = some (.cells (pcells p1 p2) 26 (0, 0)) := by rw [← hw6]; exact heap_alloc_keep (heap_alloc_at rfl _) _
  have hQ : w6.heap[w5.heap.size + 1]? = some (.cells (pcells (p1 + r1) p2) 26 (0, 0)) := by rw [← hw6]; exact heap_alloc_at (by simp) _
  have c0 : ∀ t : Later w6, t.w.cell? ⟨w5.heap.size, 0, none⟩ = some (.int .i64 p1) := fun t => cell_at (t.x.heap hP (fun h => h)) 0
  have c1 : ∀ t : Later w6, t.w.cell? ⟨w5.heap.size, 1, none⟩ = some (.int .i64 p2) := fun t => cell_at (t.x.heap hP (fun h => h)) 1
  have d0 : ∀ t : Later w6, t.w.cell? ⟨w5.heap.size + 1, 0, none⟩ = some (.int .i64 (p1 + r1)) := fun t => cell_at (t.x.heap hQ (fun h => h)) 0
  have d1 : ∀ t : Later w6, t.w.cell? ⟨w5.heap.size + 1, 1, none⟩ = some (.int .i64 p2) := fun t => cell_at (t.x.heap hQ (fun h => h)) 1
  have fld : ∀ (x y : Int) (w : World), (Instr.field 26 (.agg #[.int .i64 x, .int .i64 y]) 0).run Try.prog w = .ok (.int .i64 x) w := fun x y w => by kernel_rfl
  have X6 := hid X6
  have hW := hid hw6
  clear hw6 hP hQ
  go_wp2_with fail
  rw [hW.out]
  refine region_later w6 (by kernel_rfl) (by kernel_rfl) (Ext.refl _ _) ?_
  repeat (go_big_quiet_step ((first | (go_at_call 11; exact Calls.later (LA.out _ (X6.out.trans (Later.x _)))) | (go_at_call 11; exact Calls.later (LB.out _ (X6.out.trans (Later.x _)))) | (go_at_call 11; exact Calls.later (LC.out _ (X6.out.trans (Later.x _)))) | (go_at_call 9; exact Calls.later (CAL.out _ (X6.out.trans (Later.x _)))) | (go_at_call 10; exact Calls.later (awake_any _)))))
  refine wpQuiet_nil ?_
  rintro _ ⟨⟨w7, X7⟩, rfl⟩
  have X7 := hid X7
  go_wp2_with fail
  go_ret
  exact ⟨rfl, X3.out.trans (X6.out.trans X7.out)⟩
end Go.Proofs.Yteomiafndjcmiaa
