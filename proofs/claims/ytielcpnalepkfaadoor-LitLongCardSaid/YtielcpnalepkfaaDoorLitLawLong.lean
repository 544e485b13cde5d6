import Derived.Test.YtielcpnalepkfaaDoorLitAwake
import Derived.Test.YtielcpnalepkfaaDoorLitRep
namespace Go.Proofs.YtielcpnalepkfaaDoor
open Go.RowKit Go.Lib Go.BigFrame
/-- What the loop keeps: the row's first i bytes are c. -/
def LgRel (g K : Nat) (c : UInt8) (w wr : World) (i : Nat) : Prop :=
  ∃ xs, wr.ownsRow g 5 1 (.slice (some ⟨g, 0, none⟩) K K) K xs ∧ Ext none' w wr ∧ ∀ j, j < i → xs[j]? = some (.int .u8 (c.toNat : Nat))
theorem rep_vals (M : Nat) : List.replicate (M * 1) (Value.int .u8 0) = byteVals (List.replicate M 0) := by simp [byteVals]
/-- A row of so many noughts, made and read as bytes. -/
theorem make_bytes (w : World) (M : Nat) (hM : M ≤ 1000000) : ∃ w', (Instr.makeSlice 23 (.int .i64 (M : Nat)) (.int .i64 (M : Nat))).run Tryd.prog w = .ok (.slice (some ⟨w.heap.size, 0, none⟩) M M) w' ∧
    Bytes w'.heap.size w' (.slice (some ⟨w.heap.size, 0, none⟩) M M) (List.replicate M 0) ∧ Ext none' w w' := by
  obtain ⟨i0, hi, hz0, hz1, hz2⟩ : ∃ i0, Tryd.prog.info? 5 = some i0 ∧ i0.zero = some (.int .u8 0) ∧ i0.size = 1 ∧ i0.bytes = 1 := ⟨_, rfl, rfl, rfl, rfl⟩
  obtain ⟨w1, hrun, own1, grow1⟩ := run_make_full (P := Tryd.prog) w w.heap.size 23 5 i0 _ 1 Tryd.underlying23 hi hz0 hz1 .i64 .i64 M (by rw [hz2]; omega) (by unfold maxLen; omega) (Nat.le_refl _)
  rw [show (Value.int .u8 0).cells = #[.int .u8 0] from rfl, toList_madeCells_one, rep_vals] at own1
  have hb : Bytes w1.heap.size w1 (.slice (some ⟨w.heap.size, 0, none⟩) M M) (List.replicate M 0) := Bytes.of_owns (base := w.heap.size) (e := 5) (by rw [List.length_replicate]; exact own1)
  exact ⟨w1, hrun, hb, (Ext.refl none' w).grown grow1 (fun k hk => by cases hk)⟩
theorem text_long {s : List UInt8} (h : 65536 < s.length) : textP s = ([], 12) := by unfold textP; rw [if_pos h]
set_option maxRecDepth 100000 in
set_option maxHeartbeats 3200000 in
theorem law_long (n f : Nat) (w : World) (hn : n < 65536) (hf : f < 256) (hT : Tabs w) (hm : MaxL w) : Calls Tryd.prog 3 #[.int .u16 (n : Nat), .int .u8 (f : Nat)] w (TruePost w) := by
  have AW := hid fun w' (x : Ext none' w w') => lawake_any w' (hT.ext x) (hm.ext x (fun h => h))
  have TXT := hid fun s w' (x : Ext none' w w') (h : s.length ≤ 1000000) => text_any s w' (hT.ext x) (hm.ext x (fun h => h)) h
  clear hT hm
  obtain ⟨K, hK⟩ : ∃ K, K = n % 210 + 1 := ⟨_, rfl⟩
  have HKI : Hid ((n : Int) % 210 + 1 = (K : Nat)) := hid (by omega)
  have hK1 : 1 ≤ K := by omega
  have hK2 : K ≤ 210 := by omega
  clear hK
  obtain ⟨c, hc⟩ : ∃ c : UInt8, c = UInt8.ofNat (49 + f % 9) := ⟨_, rfl⟩
  have hcn : c.toNat = 49 + f % 9 := by rw [hc, UInt8.toNat_ofNat']; omega
  have HC : Hid ((49 : Int) + (f : Int) % 9 = (c.toNat : Nat)) := hid (by rw [hcn]; omega)
  have HFG : Hid (49 ≤ c.toNat ∧ c.toNat ≤ 57) := hid (by omega)
  clear hc hcn
  obtain ⟨w1, hrun, hb1, X1⟩ := make_bytes w K (by omega)
  obtain ⟨i0, hi, hz0, hz1, hz2⟩ : ∃ i0, Tryd.prog.info? 5 = some i0 ∧ i0.zero = some (.int .u8 0) ∧ i0.size = 1 ∧ i0.bytes = 1 := ⟨_, rfl, rfl, rfl, rfl⟩
  obtain ⟨w1', hrun', own1, grow1⟩ := run_make_full (P := Tryd.prog) w w.heap.size 23 5 i0 _ 1 Tryd.underlying23 hi hz0 hz1 .i64 .i64 K (by rw [hz2]; omega) (by unfold maxLen; omega) (Nat.le_refl _)
  have hww : w1 = w1' := by rw [hrun] at hrun'; injection hrun'
  subst hww
  have HO := hid own1
  have HX := hid X1
  rw [← HKI.out] at hrun
  clear hb1 hi hz0 hz1 hz2 hrun' own1 grow1 X1
  go_enter Tryd.func3, Tryd.ntmps3
  go_wp2_with fail
  rw [HKI.out]
  clear hrun
  obtain ⟨g, hg⟩ : ∃ g, g = w.heap.size := ⟨_, rfl⟩
  rw [← hg] at HO ⊢
  have HG := hid hg
  clear hg
  go_loopw [7] (fun z wr => ∃ (i : Nat), z = .int .i64 i ∧ i ≤ K ∧ LgRel g K c w wr i) (fun z _ => K - (RowKit.intOf z).toNat)
  case atStart => exact ⟨0, rfl, by omega, _, HO.out, HX.out, fun j hj => by omega⟩
  case round =>
    obtain ⟨i, rfl, hle, xs, own, x, hxs⟩ := hrel
    by_cases hi : i < K
    · have ci := own.cellAt i (by omega)
      have fi := own.frozenAt i
      have hxl : xs.length = K := by have := own.1; omega
      rw [List.getElem?_eq_getElem (by omega)] at ci
      obtain ⟨u, hu⟩ : ∃ u, xs[i]'(by omega) = u := ⟨_, rfl⟩
      rw [hu] at ci
      have N := hid (show LgRel g K c w (wr.setCell ⟨g, i, none⟩ (.int .u8 (c.toNat : Nat))) (i + 1) from
        ⟨_, (own.stored i (.int .u8 (c.toNat : Nat))).1, x.setNew (by rw [HG.out]; exact Nat.le_refl _) i _, fun j hj => by
          by_cases e : j = i
          · subst e; rw [List.getElem?_set_self (by omega)]
          · rw [List.getElem?_set_ne (fun h => e h.symm)]; exact hxs j (by omega)⟩)
      clear own x hxs hu hxl
      go_wp2_with fail
      rw [HC.out]
      go_roundw
      case rel => exact ⟨i + 1, by go_num, by omega, N.out⟩
      case measure => simp [RowKit.intOf]; omega
    · obtain rfl : i = K := by omega
      have hxl : xs.length = i := by have := own.1; omega
      have hxv : xs = byteVals (List.replicate i c) := by
        apply List.ext_getElem?
        intro j
        by_cases hj : j < i
        · rw [hxs j hj]; simp [byteVals, hj]
        · rw [List.getElem?_eq_none (by omega), List.getElem?_eq_none (by simp [byteVals]; omega)]
      rw [hxv] at own
      obtain ⟨s, hs⟩ : ∃ s, s = List.replicate i c := ⟨_, rfl⟩
      have hsl : s.length = i := by rw [hs]; exact List.length_replicate
      have hb : Bytes wr.heap.size wr (.slice (some ⟨g, 0, none⟩) s.length s.length) s := by
        refine Bytes.of_owns (base := g) (e := 5) ?_
        rw [hs, List.length_replicate]; exact own
      have HNP : Hid (numP s = if 200 < i then ([], 12) else (s, 0)) := hid (by
        by_cases h : 200 < i
        · rw [if_pos h]; unfold numP; rw [if_pos (by omega)]
        · rw [if_neg h]
          have hcs : ∀ d ∈ s, d = c := fun d hd => by rw [hs] at hd; exact List.eq_of_mem_replicate hd
          refine num_plain s (fun d hd => by rw [hcs d hd]; have := HFG.out; omega) (by omega) (fun e => by rw [e] at hsl; simp at hsl; omega) (.inr ?_)
          intro e
          have : (48 : UInt8) ∈ s := List.mem_of_mem_head? e
          have := hcs _ this
          have := HFG.out
          rw [← ‹(48 : UInt8) = c›] at this
          exact absurd this (by decide))
      have HB := hid hb
      have HXW := hid x
      have NUM := hid fun W => number_any s W (by omega)
      have hcv := fun W (y : Ext none' wr W) => conv_bytes (hb.keep y) 23 5 Tryd.underlying23 Tryd.underlying5 9 Tryd.underlying9
      have HCV := hid hcv
      clear own x hxs hxv hb hxl hs hcv
      subst hsl
      have hc1 := HCV.out wr (Ext.refl _ _)
      go_wp2_with fail
      refine (NUM.out _).mono ?_
      rintro e w2 ⟨rfl, X2⟩
      have X2 := hid X2
      clear hc1
      obtain ⟨M, hM⟩ : ∃ M : Nat, M = 65537 := ⟨_, rfl⟩
      obtain ⟨w3, hmk, hb3, X3⟩ := make_bytes w2 M (by omega)
      rw [show ((M : Nat) : Int) = 65537 by omega] at hmk
      have hc3 := conv_bytes hb3 23 5 Tryd.underlying23 Tryd.underlying5 9 Tryd.underlying9
      obtain ⟨z, hz⟩ : ∃ z : List UInt8, z = List.replicate M 0 := ⟨_, rfl⟩
      have hzl : z.length = M := by rw [hz]; exact List.length_replicate
      rw [← hz] at hc3
      have XW3 := hid ((HXW.out.trans X2.out).trans X3)
      have TX := TXT.out z w3 XW3.out (by omega)
      rw [text_long (by omega)] at TX
      have TX := hid TX
      have XR3 := hid (X2.out.trans X3)
      clear hb3 X3 hM hz hzl
      go_wp2_with fail
      refine TX.out.mono ?_
      rintro e w4 ⟨rfl, X4⟩
      have XR4 := hid (XR3.out.trans X4)
      have XW4 := hid (HXW.out.trans XR4.out)
      clear hmk hc3
      by_cases h200 : 200 < s.length
      · have e : Hid (numP s = ([], 12)) := hid (by rw [HNP.out, if_pos h200])
        rw [e.out]
        clear HNP
        go_wp2_with fail
        refine (AW.out _ XW4.out).mono ?_
        rintro e w5 ⟨rfl, X5⟩
        have X5 := hid (XW4.out.trans X5)
        go_wp2_with fail
        go_ret
        exact ⟨rfl, X5.out⟩
      · have e : Hid (numP s = (s, 0)) := hid (by rw [HNP.out, if_neg h200])
        rw [e.out]
        have hc5 := HCV.out w4 XR4.out
        clear HNP
        go_wp2_with fail
        refine (AW.out _ XW4.out).mono ?_
        rintro e w5 ⟨rfl, X5⟩
        have X5 := hid (XW4.out.trans X5)
        go_wp2_with fail
        go_ret
        exact ⟨rfl, X5.out⟩
end Go.Proofs.YtielcpnalepkfaaDoor
