import Derived.Test.YtokjnalmjdighaaDoorTokAwake
import Derived.Test.YtokjnalmjdighaaDoorTokStp
import Derived.Test.YtokjnalmjdighaaDoorTokName
namespace Go.Proofs.YtokjnalmjdighaaDoor
open Go.RowKit Go.Lib Go.BigFrame
theorem law_kinds_long (aa : Option Addr) (len cap : Nat) (w : World) (h : 1000 < len) (hm : len ≤ 9223372036854775807) : Calls Tryd.prog 9 #[.slice aa len cap] w (TruePost w) := by
  go_enter Tryd.func9, Tryd.ntmps9
  go_wp2
  go_ret
  exact ⟨rfl, Ext.refl _ _⟩
theorem scanR_inv {s : List UInt8} {l n : List Tok} (h : scanR s = .good l n) : ∃ l1, Inv s s.length l1 n ∧ l = lineP l1 s.length :=
  scanR_ind (fun k l n => Inv s k l n) (Inv.start s) (fun _ _ _ _ _ _ hk hQ hst _ => Inv.stp hk hQ hst) h
theorem scanR_len {s : List UInt8} {l n : List Tok} (h : scanR s = .good l n) (hs : s.length ≤ 99999) : l.length ≤ 100000 := by
  obtain ⟨l1, I, rfl⟩ := scanR_inv h
  have := I.ll
  have := lineP_len' l1 s.length
  omega
theorem scanR_short {s : List UInt8} {l n : List Tok} (h : scanR s = .good l n) (hs : s.length ≤ 99999) : ∀ t ∈ l, t.text.length ≤ 100000 := by
  obtain ⟨l1, I, rfl⟩ := scanR_inv h
  exact lineP_all (fun t ht => by have := I.short t ht; omega) (by simp)
set_option maxRecDepth 100000 in
set_option maxHeartbeats 1600000 in
theorem law_kinds (s : List UInt8) (v : Value) (w : World) (hv : Bytes w.heap.size w v s) (hT : Tabs w) (hm : MaxL w) (hs : s.length ≤ 1000) : Calls Tryd.prog 9 #[v] w (TruePost w) := by
  have C := hid (Scan_any _ s v w hv hT hm (by omega))
  have AW := hid fun w' (x : Ext none' w w') => awake_any w' (hT.ext x) (hm.ext x (fun h => h))
  obtain ⟨aa, cap, rfl, h1, h2, h3, h4⟩ := hv
  clear h3 h4 hT hm
  cases hr : scanR s with
  | bad p c =>
    have hc0 : ((c : Int) != 0) = true := by have := (scanR_bad hr).1; simp; omega
    rw [hr] at C
    clear hr
    go_enter Tryd.func9, Tryd.ntmps9
    go_wp2_with fail
    refine C.out.mono ?_
    rintro e w1 ⟨v, rfl, T, X1⟩
    rw [show (ScR.bad p c).err = c from rfl, show (ScR.bad p c).pos = p from rfl]
    have X1 := hid X1
    clear T
    go_wp2_with fail
    refine (AW.out _ X1.out).mono ?_
    rintro e w2 ⟨rfl, X2⟩
    have X2 := hid (X1.out.trans X2)
    go_wp2_with fail
    go_ret
    exact ⟨rfl, X2.out⟩
  | good l n =>
    have HK := hid (scanR_kinds hr)
    have Hll := hid (scanR_len hr (by omega))
    have Hsh := hid (scanR_short hr (by omega))
    rw [hr] at C
    clear hr
    go_enter Tryd.func9, Tryd.ntmps9
    go_wp2_with fail
    refine C.out.mono ?_
    rintro e w1 ⟨v, rfl, ⟨a, cc, rfl, hT⟩, X1⟩
    rw [show (ScR.good l n).err = 0 from rfl, show (ScR.good l n).pos = 0 from rfl, show (ScR.good l n).toks = l from rfl] at *
    have HT := hid hT
    have X1 := hid X1
    have hll : l.length ≤ 100000 := Hll.out
    clear hT
    go_wp2_with fail
    go_loopw [6, 7, 8] (fun z _ _ wr => ∃ (i : Nat), z = .int .i64 i ∧ i ≤ l.length ∧ Hid (Ext none' w1 wr)) (fun z _ _ _ => l.length - (RowKit.intOf z).toNat)
    case atStart => exact ⟨0, rfl, by omega, hid (Ext.refl _ _)⟩
    case round =>
      obtain ⟨i, rfl, hle, XR⟩ := hrel
      by_cases hi : i < l.length
      · obtain ⟨g, rfl, _, hgs, hc⟩ := HT.out (by intro e; subst e; simp at hi)
        have c0 : ∀ t : LaterF none' wr, t.w.cell? ⟨g, i * 3, none⟩ = some (.int .i64 l[i].kind) := fun t => by rw [(XR.out.trans t.x).cell (p := ⟨g, i * 3, none⟩) hgs (fun h => h)]; exact (hc i hi).1
        have c1 : ∀ t : LaterF none' wr, t.w.cell? ⟨g, i * 3 + 1, none⟩ = some (.string ⟨l[i].text.toArray⟩) := fun t => by rw [(XR.out.trans t.x).cell (p := ⟨g, i * 3 + 1, none⟩) hgs (fun h => h)]; exact (hc i hi).2.1
        have KT := HK.out _ (List.getElem_mem hi)
        have TS := Hsh.out _ (List.getElem_mem hi)
        have XW := hid (XR.out.drew)
        clear hc hgs XR
        obtain ⟨⟨kd, tx, ps⟩, ht⟩ : ∃ t, l[i] = t := ⟨_, rfl⟩
        rw [ht] at KT TS
        simp only [ht] at c0 c1 KT TS
        clear ht
        have hlo := KT.lo
        have hhi := KT.hi
        have HKT := hid KT
        simp only at hlo hhi
        clear KT
        go_wp2_with fail
        refine region_in none' wr [0, 1, 2, 3, 4, 5, 6, 7, 8, 9, 10, 11] [] (by kernel_rfl) (by kernel_rfl) (fun dst v c a w h => by cases dst <;> exact h) (Ext.refl _ _) ?_
        simp only [sel, List.getElem?_cons_succ, List.getElem?_cons_zero]
        repeat (go_big_quiet_step (fail))
        refine wpQuiet_nil ?_
        simp only [wpChain]
        clear c0 c1
        have CN := hid (name_any tx wr.drew (by omega))
        have CW := hid fun w' => word_any tx w'
        have hkn := HKT.out.name
        have hw1 := HKT.out.w1
        have hw2 := HKT.out.w2
        simp only at hkn hw1 hw2
        rw [hkn] at CN
        have hk6 : kd = 1 ∨ kd = 2 ∨ kd = 3 ∨ kd = 4 ∨ kd = 5 ∨ kd = 6 := by omega
        rcases hk6 with rfl | rfl | rfl | rfl | rfl | rfl
        · have hw0 : wordK tx = 0 := by have := wordK_cases tx; omega
          simp only [hw0] at CW
          clear hkn hw1 hw2 hw0
          go_wp2_with fail
          refine CN.out.mono ?_
          rintro e w2 ⟨rfl, X2⟩
          have X2 := hid (XW.out.trans X2)
          go_wp2_with (go_at_call 17; refine (CW.out _).mono ?_; rintro e w1 ⟨rfl, rfl⟩)
          go_roundw
          case rel => exact ⟨i + 1, by go_num, by omega, X2⟩
          case measure => simp [RowKit.intOf]; omega
        · have hw0 : wordK tx = 1 := by have := wordK_cases tx; omega
          simp only [hw0] at CW
          clear hkn hw1 hw2 hw0
          go_wp2_with fail
          refine CN.out.mono ?_
          rintro e w2 ⟨rfl, X2⟩
          have X2 := hid (XW.out.trans X2)
          go_wp2_with (go_at_call 17; refine (CW.out _).mono ?_; rintro e w1 ⟨rfl, rfl⟩)
          go_roundw
          case rel => exact ⟨i + 1, by go_num, by omega, X2⟩
          case measure => simp [RowKit.intOf]; omega
        · have hw0 : wordK tx = 2 := by have := wordK_cases tx; omega
          simp only [hw0] at CW
          clear hkn hw1 hw2 hw0
          go_wp2_with fail
          refine CN.out.mono ?_
          rintro e w2 ⟨rfl, X2⟩
          have X2 := hid (XW.out.trans X2)
          go_wp2_with (go_at_call 17; refine (CW.out _).mono ?_; rintro e w1 ⟨rfl, rfl⟩)
          go_roundw
          case rel => exact ⟨i + 1, by go_num, by omega, X2⟩
          case measure => simp [RowKit.intOf]; omega
        · have hw0 : wordK tx = 0 := by have := wordK_cases tx; omega
          simp only [hw0] at CW
          obtain ⟨c, u, htx, hf⟩ := HKT.out.num rfl
          simp only at htx
          have hl0 : 0 < tx.length := by rw [htx]; simp
          obtain ⟨x, hx⟩ : ∃ x, c.toNat = x := ⟨_, rfl⟩
          have hix : ((⟨tx.toArray⟩ : ByteArray)[0]'(by rw [bsize]; exact hl0)).toNat = x := by
            rw [← hx]
            show ((tx.toArray)[0]'_).toNat = _
            simp [htx]
          have hb : 48 ≤ x ∧ x ≤ 57 := by rw [hx] at hf; unfold figB at hf; simpa using hf
          obtain ⟨hb1, hb2⟩ := hb
          clear hkn hw1 hw2 hw0 htx hf hx
          go_wp2_with fail
          refine CN.out.mono ?_
          rintro e w2 ⟨rfl, X2⟩
          have X2 := hid (XW.out.trans X2)
          go_wp2_with (go_at_call 17; refine (CW.out _).mono ?_; rintro e w1 ⟨rfl, rfl⟩)
          go_roundw
          case rel => exact ⟨i + 1, by go_num, by omega, X2⟩
          case measure => simp [RowKit.intOf]; omega
        · have hw0 : wordK tx = 0 := by have := wordK_cases tx; omega
          simp only [hw0] at CW
          obtain ⟨c, u, htx, hf⟩ := HKT.out.quote rfl
          simp only at htx
          have hl0 : 0 < tx.length := by rw [htx]; simp
          have hix : ((⟨tx.toArray⟩ : ByteArray)[0]'(by rw [bsize]; exact hl0)).toNat = c.toNat := by
            show ((tx.toArray)[0]'_).toNat = _
            simp [htx]
          clear hkn hw1 hw2 hw0 htx
          rcases hf with rfl | rfl
          all_goals
            go_wp2_with fail
            refine CN.out.mono ?_
            rintro e w2 ⟨rfl, X2⟩
            have X2 := hid (XW.out.trans X2)
            go_wp2_with (go_at_call 17; refine (CW.out _).mono ?_; rintro e w1 ⟨rfl, rfl⟩)
            go_roundw
            case rel => exact ⟨i + 1, by go_num, by omega, X2⟩
            case measure => simp [RowKit.intOf]; omega
        · have hw0 : wordK tx = 0 := by have := wordK_cases tx; omega
          simp only [hw0] at CW
          clear hkn hw1 hw2 hw0
          go_wp2_with fail
          refine CN.out.mono ?_
          rintro e w2 ⟨rfl, X2⟩
          have X2 := hid (XW.out.trans X2)
          go_wp2_with (go_at_call 17; refine (CW.out _).mono ?_; rintro e w1 ⟨rfl, rfl⟩)
          go_roundw
          case rel => exact ⟨i + 1, by go_num, by omega, X2⟩
          case measure => simp [RowKit.intOf]; omega
      · obtain rfl : i = l.length := by omega
        go_wp2_with fail
        refine (AW.out _ (X1.out.trans XR.out)).mono ?_
        rintro e w2 ⟨rfl, X2⟩
        have X2 := hid ((X1.out.trans XR.out).trans X2)
        go_wp2_with fail
        go_ret
        exact ⟨rfl, X2.out⟩
end Go.Proofs.YtokjnalmjdighaaDoor
