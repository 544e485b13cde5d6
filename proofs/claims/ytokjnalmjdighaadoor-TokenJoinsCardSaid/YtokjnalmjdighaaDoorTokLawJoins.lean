import Derived.Test.YtokjnalmjdighaaDoorTokAwake
import Derived.Test.YtokjnalmjdighaaDoorTokJoin
import Derived.Test.YtokjnalmjdighaaDoorAppend
import Derived.Deep.CutRange
namespace Go.Proofs.YtokjnalmjdighaaDoor
open Go.RowKit Go.Lib Go.BigFrame
set_option maxRecDepth 100000 in
theorem law_joins_long (aa : Option Addr) (len cap : Nat) (w : World) (h : 1000 < len) (hm : len ≤ 9223372036854775807) : Calls Tryd.prog 3 #[.slice aa len cap] w (TruePost w) := by
  go_enter Tryd.func3, Tryd.ntmps3
  go_wp2
  go_ret
  exact ⟨rfl, Ext.refl _ _⟩
theorem joinT_take : ∀ (l : List Tok) (i : Nat), (joinT (l.take i)).length ≤ (joinT l).length
  | [], i => by simp
  | t :: l, 0 => by simp [joinT]
  | t :: l, i + 1 => by
    have := joinT_take l i
    simp only [List.take_succ_cons, joinT, List.length_append]
    omega
theorem joinT_next {l : List Tok} {i : Nat} (h : i < l.length) : joinT (l.take (i + 1)) = joinT (l.take i) ++ ((l[i]'h).text ++ (if (l[i]'h).text = [10] then [] else [32])) := by
  have e : l.take (i + 1) = l.take i ++ [l[i]'h] := by rw [List.take_add_one, List.getElem?_eq_getElem h]; rfl
  rw [e, joinT_snoc]
theorem kt_at {l m : List Tok} (h : kt m = kt l) {i : Nat} (hi : i < l.length) (hm : i < m.length) : (m[i]'hm).kind = (l[i]'hi).kind ∧ (m[i]'hm).text = (l[i]'hi).text := by
  have := congrArg (fun x => x[i]?) h
  simp only [kt, List.getElem?_map, List.getElem?_eq_getElem hi, List.getElem?_eq_getElem hm, Option.map_some, Option.some.injEq, Prod.mk.injEq] at this
  exact this
theorem Src.str {P : Program} {tx : TypeId} (hk : P.underlying tx = some .string) (s : List UInt8) (w : World) : Src P 1 tx (.string ⟨s.toArray⟩) s.length (byteVals s) w := by
  have h := Src.ofString (P := P) w hk ⟨s.toArray⟩
  rw [bsize] at h
  exact h
theorem byteVals_len (s : List UInt8) : (byteVals s).length = s.length := byteVals_length s
set_option maxRecDepth 100000 in
set_option maxHeartbeats 6400000 in
theorem law_joins (s : List UInt8) (v : Value) (w : World) (hv : Bytes w.heap.size w v s) (hT : Tabs w) (hm : MaxL w) (hs : s.length ≤ 1000) : Calls Tryd.prog 3 #[v] w (TruePost w) := by
  have C := hid (Scan_any _ s v w hv hT hm (by omega))
  have AW := hid fun w' (x : Ext none' w w') => awake_any w' (hT.ext x) (hm.ext x (fun h => h))
  have HTT := hid hT
  have HMM := hid hm
  obtain ⟨aa, cap, rfl, h1, h2, h3, h4⟩ := hv
  clear h3 h4 hT hm
  cases hr : scanR s with
  | bad p c =>
    have hc0 : ((c : Int) != 0) = true := by have := (scanR_bad hr).1; simp; omega
    rw [hr] at C
    clear hr
    go_enter Tryd.func3, Tryd.ntmps3
    go_wp2_with fail
    refine C.out.mono ?_
    rintro e w1 ⟨v, rfl, T, X1⟩
    rw [show (ScR.bad p c).err = c from rfl, show (ScR.bad p c).pos = p from rfl]
    have X1 := hid X1
    clear T
    go_wp2_with fail
    refine (AW.out _ X1.out).mono ?_
    rintro e w2 ⟨rfl, X2⟩
    have X2 := hid (X1.out.trans X2)
    go_wp2_with fail
    go_ret
    exact ⟨rfl, X2.out⟩
  | good l n =>
    obtain ⟨hjl, m, hsc, hkt⟩ := scanR_join hr (by omega)
    have HSC := hid hsc
    have HKT := hid hkt
    have hml : m.length = l.length := by have := congrArg List.length hkt; simpa [kt] using this
    have HML := hid hml
    obtain ⟨hll, hsh⟩ : l.length ≤ 1001 ∧ ∀ t ∈ l, t.text.length ≤ 1000 := by
      obtain ⟨l1, I, rfl⟩ := scanR_ind (fun k l n => Inv s k l n) (Inv.start s) (fun _ _ _ _ _ _ hk hQ hst _ => Inv.stp hk hQ hst) hr
      have := I.ll
      have := lineP_len' l1 s.length
      refine ⟨by omega, ?_⟩
      by_cases h0 : s = []
      · subst h0
        have : l1 = [] := List.eq_nil_of_length_eq_zero (by simp at *; omega)
        subst this
        intro t ht
        simp [lineP, endsP] at ht
      · exact lineP_all (fun t ht => by have := I.short t ht; omega) (by simp)
    have HSH := hid hsh
    rw [hr] at C
    clear hr hsc hkt hml hsh
    obtain ⟨i0, hi, hz0, hz1, hz2⟩ : ∃ i0, Tryd.prog.info? 5 = some i0 ∧ i0.zero = some (.int .u8 0) ∧ i0.size = 1 ∧ i0.bytes = 1 := ⟨_, rfl, rfl, rfl, rfl⟩
    have I0 := hid hi
    have I1 := hid hz0
    have I2 := hid hz1
    have I3 := hid hz2
    clear hi hz0 hz1 hz2
    go_enter Tryd.func3, Tryd.ntmps3
    go_wp2_with fail
    refine C.out.mono ?_
    rintro e w1 ⟨v, rfl, ⟨a1, c1, rfl, T1⟩, X1⟩
    rw [show (ScR.good l n).err = 0 from rfl, show (ScR.good l n).pos = 0 from rfl, show (ScR.good l n).toks = l from rfl] at *
    have X1 := hid X1
    have HT1 := hid T1
    clear T1
    go_wp2_with fail
    go_loopw [6, 7] (fun vc z wr => ∃ i : Nat, z = .int .i64 i ∧ i ≤ l.length ∧ Hid (wr.ownsRow w1.heap.size 5 1 vc (joinT (l.take i)).length (byteVals (joinT (l.take i)))) ∧ Hid (Ext none' w1 wr)) (fun _ z _ => l.length - (RowKit.intOf z).toNat)
    case atStart => exact ⟨0, rfl, by omega, hid (World.ownsRow_nil _ _ _ _), hid (Ext.refl _ _)⟩
    case round =>
      obtain ⟨i, rfl, hle, HO, HX⟩ := hrel
      by_cases hil : i < l.length
      · obtain ⟨g, rfl, hglo, hgs, hc⟩ := HT1.out (by intro e; subst e; simp at hil)
        have c1 := (HX.out.cell (p := ⟨g, i * 3 + 1, none⟩) hgs (fun h => h)).trans (hc i hil).2.1
        have HJ := hid (joinT_next hil)
        have hjt := joinT_take l (i + 1)
        have htl := HSH.out _ (List.getElem_mem hil)
        obtain ⟨tx, htx⟩ : ∃ tx, (l[i]'hil).text = tx := ⟨_, rfl⟩
        rw [htx] at c1 HJ htl
        have hj0 := joinT_take l i
        obtain ⟨J, hJ⟩ : ∃ J, joinT (l.take i) = J := ⟨_, rfl⟩
        rw [hJ] at HO HJ hj0
        have HHX := hid HX.out.size
        have HC := hid (htx ▸ (hc i hil).2.1)
        have HGS := hid hgs
        clear hc htx hJ hgs
        have src : Src Tryd.prog 1 9 (.string ⟨tx.toArray⟩) tx.length (byteVals tx) wr := Src.str Tryd.underlying9 tx wr
        have HSR := hid src
        clear src
        go_wp2_with (at_builtin; refine wpList_app _ rfl (.tmp 30) (.tmp 35) 22 9 rfl w1.heap.size 5 i0 _ 1 1 Tryd.underlying22 I0.out I1.out I2.out I3.out rfl _ J.length (byteVals J) rfl HO.out _ tx.length _ rfl HSR.out ?_ ?_ ?_ ?_)
        · unfold maxLen; omega
        · omega
        · exact HHX.out
        intro v2 w2 own2 grow2 blk2 _
        rw [← byteVals_append, ← List.length_append] at own2
        have X2 : Ext none' w1 w2 := HX.out.grown grow2 (fun k hk => .inr (HO.out.lt k hk).1)
        have c1 := (X2.cell (p := ⟨g, i * 3 + 1, none⟩) HGS.out (fun h => h)).trans HC.out
        by_cases h10 : tx = [10]
        · subst h10
          rw [if_pos rfl, List.append_nil] at HJ
          have N : Hid (w2.ownsRow w1.heap.size 5 1 v2 (joinT (l.take (i + 1))).length (byteVals (joinT (l.take (i + 1))))) := hid (by rw [HJ.out]; exact own2)
          have X2 := hid X2
          clear own2 grow2 blk2
          go_wp2_with fail
          go_roundw
          case rel => exact ⟨i + 1, by go_num, by omega, N, X2⟩
          case measure => simp [RowKit.intOf]; omega
        · have e10 : (tx == [10]) = false := by simpa using h10
          rw [if_neg h10] at HJ
          have hjl2 : J.length + tx.length + 1 ≤ (joinT l).length := by
            have := HJ.out
            have h := congrArg List.length this
            simp only [List.length_append, List.length_cons, List.length_nil] at h
            omega
          have O2 := hid (ownsRow_ext own2 ((Ext.refl none' w2).alloc (.cells #[.int .u8 32] 5)) (fun _ _ h => h))
          have S2 : Hid (Src Tryd.prog 1 22 (.slice (some ⟨w2.heap.size, 0, none⟩) 1 1) 1 (byteVals [32]) (w2.alloc (.cells #[.int .u8 32] 5))) := hid (Src.one Tryd.underlying22 w2 (.int .u8 32) 5 rfl)
          have XB := hid X2
          have HS2 := hid X2.size
          clear own2 grow2 blk2 h10 X2
          go_wp2_with (at_builtin; refine wpList_app _ rfl (.tmp 43) (.tmp 44) 22 22 rfl w1.heap.size 5 i0 _ 1 1 Tryd.underlying22 I0.out I1.out I2.out I3.out rfl _ (J ++ tx).length (byteVals (J ++ tx)) rfl O2.out _ 1 _ rfl S2.out ?_ ?_ ?_ ?_)
          · rw [List.length_append]; unfold maxLen; omega
          · rw [List.length_append]; omega
          · have := HS2.out; simp; omega
          intro v3 w3 own3 grow3 blk3 _
          rw [← byteVals_append, show (J ++ tx ++ [32] : List UInt8) = joinT (l.take (i + 1)) by rw [HJ.out, List.append_assoc], show J.length + tx.length + 1 = (joinT (l.take (i + 1))).length by rw [HJ.out]; simp; omega] at own3
          have X3 := hid ((XB.out.alloc (.cells #[.int .u8 32] 5)).grown grow3 (fun k hk => .inr (O2.out.lt k hk).1))
          have N := hid own3
          clear own3 grow3 blk3
          go_wp2_with fail
          go_roundw
          case rel => exact ⟨i + 1, by go_num, by omega, N, X3⟩
          case measure => simp [RowKit.intOf]; omega
      · obtain rfl : i = l.length := by omega
        have hb : Bytes wr.heap.size wr u6 (joinT l) := Bytes.of_owns (base := w1.heap.size) (e := 5) (by have := HO.out; rw [List.take_length] at this; exact this)
        have XR := hid (X1.out.trans HX.out)
        have SC := hid (Scan_any _ _ _ wr hb (HTT.out.ext XR.out) (HMM.out.ext XR.out (fun h => h)) (by omega))
        rw [HSC.out] at SC
        clear hb HO
        go_wp2_with fail
        refine SC.out.mono ?_
        rintro e w2 ⟨v, rfl, ⟨a2, c2, rfl, T2⟩, X2⟩
        rw [show (ScR.good m []).err = 0 from rfl, show (ScR.good m []).pos = 0 from rfl, show (ScR.good m []).toks = m from rfl] at *
        have HX2 := hid (HX.out.trans X2)
        have XW := hid (XR.out.trans X2)
        have HT2 := hid T2
        rw [HML.out]
        clear T2 SC
        go_wp2_with fail
        go_loopw [11] (fun z wq => ∃ a : Nat, z = .int .i64 a ∧ a ≤ l.length ∧ Hid (Ext none' w2 wq)) (fun z _ => l.length - (RowKit.intOf z).toNat)
        case atStart => exact ⟨0, rfl, by omega, hid (Ext.refl _ _)⟩
        case round =>
          obtain ⟨a, rfl, ha, HQ⟩ := hrel
          by_cases hal : a < l.length
          · have ham : a < m.length := by rw [HML.out]; exact hal
            obtain ⟨g1, rfl, _, hg1, hc1⟩ := HT1.out (by intro e; subst e; simp at hal)
            obtain ⟨g2, rfl, _, hg2, hc2⟩ := HT2.out (by intro e; subst e; simp at ham)
            obtain ⟨ek, et⟩ := kt_at HKT.out hal ham
            have d0 : ∀ t : LaterF none' wr, t.w.cell? ⟨g1, a * 3, none⟩ = some (.int .i64 (l[a]'hal).kind) := fun t => (((HX2.out.trans HQ.out).trans t.x).cell (p := ⟨g1, a * 3, none⟩) hg1 (fun h => h)).trans (hc1 a hal).1
            have d1 : ∀ t : LaterF none' wr, t.w.cell? ⟨g1, a * 3 + 1, none⟩ = some (.string ⟨(l[a]'hal).text.toArray⟩) := fun t => (((HX2.out.trans HQ.out).trans t.x).cell (p := ⟨g1, a * 3 + 1, none⟩) hg1 (fun h => h)).trans (hc1 a hal).2.1
            have d2 : ∀ t : LaterF none' wr, t.w.cell? ⟨g2, a * 3, none⟩ = some (.int .i64 (l[a]'hal).kind) := fun t => by rw [← ek]; exact ((HQ.out.trans t.x).cell (p := ⟨g2, a * 3, none⟩) hg2 (fun h => h)).trans (hc2 a ham).1
            have d3 : ∀ t : LaterF none' wr, t.w.cell? ⟨g2, a * 3 + 1, none⟩ = some (.string ⟨(l[a]'hal).text.toArray⟩) := fun t => by rw [← et]; exact ((HQ.out.trans t.x).cell (p := ⟨g2, a * 3 + 1, none⟩) hg2 (fun h => h)).trans (hc2 a ham).2.1
            obtain ⟨kd, hkd⟩ : ∃ kd, (l[a]'hal).kind = kd := ⟨_, rfl⟩
            obtain ⟨tx, htx⟩ : ∃ tx, (l[a]'hal).text = tx := ⟨_, rfl⟩
            simp only [hkd, htx] at d0 d1 d2 d3
            have hXW := hid (HQ.out.drew)
            clear hc1 hc2 ek et hkd htx hg1 hg2 HQ
            go_wp2_with fail
            refine region_in none' wr [0, 1, 2, 3, 4, 5, 6, 7, 8, 9, 10, 11, 12, 13, 14, 15, 16, 17, 18, 19, 20, 21, 22, 23] [] (by kernel_rfl) (by kernel_rfl) (fun dst v c a w h => by cases dst <;> exact h) (Ext.refl _ _) ?_
            simp only [sel, List.getElem?_cons_succ, List.getElem?_cons_zero]
            repeat (go_big_quiet_step (fail))
            refine wpQuiet_nil ?_
            simp only [wpChain]
            clear d0 d1 d2 d3
            go_wp2_with fail
            go_roundw
            case rel => exact ⟨a + 1, by go_num, by omega, hXW⟩
            case measure => simp [RowKit.intOf]; omega
          · have XE := hid (XW.out.trans HQ.out)
            go_wp2_with fail
            refine (AW.out _ XE.out).mono ?_
            rintro e w5 ⟨rfl, X5⟩
            have X5 := hid (XE.out.trans X5)
            go_wp2_with fail
            go_ret
            exact ⟨rfl, X5.out⟩
end Go.Proofs.YtokjnalmjdighaaDoor
