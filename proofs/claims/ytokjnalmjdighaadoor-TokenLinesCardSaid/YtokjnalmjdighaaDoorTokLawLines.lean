import Derived.Test.YtokjnalmjdighaaDoorTokAwake
import Derived.Test.YtokjnalmjdighaaDoorTokStp
namespace Go.Proofs.YtokjnalmjdighaaDoor
open Go.RowKit Go.Lib Go.BigFrame
theorem law_lines_long (aa : Option Addr) (len cap : Nat) (w : World) (h : 1000 < len) (hm : len ≤ 9223372036854775807) : Calls Tryd.prog 4 #[.slice aa len cap] w (TruePost w) := by
  go_enter Tryd.func4, Tryd.ntmps4
  go_wp2
  go_ret
  exact ⟨rfl, Ext.refl _ _⟩
/-- What the last token is not. -/
theorem last_facts {t : Tok} (h : KindT t) (he : endsT t = false) : t.kind ≠ 1 ∧ t.kind ≠ 4 ∧ t.kind ≠ 5 ∧ t.text ≠ [114, 101, 116, 117, 114, 110] ∧ t.text ≠ [41] := by
  obtain ⟨kd, tx, ps⟩ := t
  have h1 := h.lo
  have h2 := h.hi
  have w1 := h.w1
  have w2 := h.w2
  simp only at *
  have hk : kd = 2 ∨ kd = 3 ∨ kd = 6 := by
    unfold endsT at he
    simp only at he
    split at he
    · cases he
    · omega
  refine ⟨by omega, by omega, by omega, ?_, ?_⟩
  · rintro rfl
    have hw : wordK [114, 101, 116, 117, 114, 110] = 1 := by decide
    obtain rfl := w1.1 hw
    simp [endsT, keeps] at he
  · rintro rfl
    have hw : wordK [41] = 0 := by decide
    rw [hw] at w1 w2
    have : kd = 6 := by omega
    subst this
    simp [endsT, shuts] at he
theorem scanR_inv {s : List UInt8} {l n : List Tok} (h : scanR s = .good l n) : ∃ l1, Inv s s.length l1 n ∧ l = lineP l1 s.length :=
  scanR_ind (fun k l n => Inv s k l n) (Inv.start s) (fun _ _ _ _ _ _ hk hQ hst _ => Inv.stp hk hQ hst) h
theorem scanR_len {s : List UInt8} {l n : List Tok} (h : scanR s = .good l n) (hs : s.length ≤ 99999) : l.length ≤ 100000 := by
  obtain ⟨l1, I, rfl⟩ := scanR_inv h
  have := I.ll
  have := lineP_len' l1 s.length
  omega
set_option maxRecDepth 100000 in
set_option maxHeartbeats 1600000 in
theorem law_lines (s : List UInt8) (v : Value) (w : World) (hv : Bytes w.heap.size w v s) (hT : Tabs w) (hm : MaxL w) (hs : s.length ≤ 1000) : Calls Tryd.prog 4 #[v] w (TruePost w) := by
  have C := hid (Scan_any _ s v w hv hT hm (by omega))
  have AW := hid fun w' (x : Ext none' w w') => awake_any w' (hT.ext x) (hm.ext x (fun h => h))
  obtain ⟨aa, cap, rfl, h1, h2, h3, h4⟩ := hv
  clear h3 h4 hT hm
  cases hr : scanR s with
  | bad p c =>
    have hc0 : ((c : Int) != 0) = true := by have := (scanR_bad hr).1; simp; omega
    rw [hr] at C
    clear hr
    go_enter Tryd.func4, Tryd.ntmps4
    go_wp2_with fail
    refine C.out.mono ?_
    rintro e w1 ⟨v, rfl, T, X1⟩
    rw [show (ScR.bad p c).err = c from rfl, show (ScR.bad p c).pos = p from rfl]
    have X1 := hid X1
    clear T
    go_wp2_with fail
    refine (AW.out _ X1.out).mono ?_
    rintro e w2 ⟨rfl, X2⟩
    have X2 := hid (X1.out.trans X2)
    go_wp2_with fail
    go_ret
    exact ⟨rfl, X2.out⟩
  | good l n =>
    have HK := hid (scanR_kinds hr)
    have HL := hid (scanR_lines hr)
    have Hll := hid (scanR_len hr (by omega))
    rw [hr] at C
    clear hr
    go_enter Tryd.func4, Tryd.ntmps4
    go_wp2_with fail
    refine C.out.mono ?_
    rintro e w1 ⟨v, rfl, ⟨a, cc, rfl, hT⟩, X1⟩
    rw [show (ScR.good l n).err = 0 from rfl, show (ScR.good l n).pos = 0 from rfl, show (ScR.good l n).toks = l from rfl] at *
    have HT := hid hT
    have X1 := hid X1
    have hll : l.length ≤ 100000 := Hll.out
    clear hT
    go_wp2_with fail
    go_loop [6] (fun z => ∃ (i : Nat), z = .int .i64 i ∧ i ≤ l.length) (fun z => l.length - (RowKit.intOf z).toNat)
    case atStart => exact ⟨0, rfl, by omega⟩
    case round =>
      obtain ⟨i, rfl, hle⟩ := hrel
      by_cases hi : i < l.length
      · obtain ⟨g, rfl, _, _, hc⟩ := HT.out (by intro e; subst e; simp at hi)
        have ci := (hc i hi).2.1
        by_cases h10 : l[i].text = [10]
        · rw [h10] at ci
          obtain ⟨j, rfl, hj, he⟩ := HL.out.1 i hi h10
          have cj := hc j hj
          obtain ⟨ck, ct, _⟩ := cj
          have KT := HK.out _ (List.getElem_mem hj)
          obtain ⟨kd, hkd⟩ : ∃ kd, l[j].kind = kd := ⟨_, rfl⟩
          obtain ⟨tx, htx⟩ : ∃ tx, l[j].text = tx := ⟨_, rfl⟩
          rw [hkd] at ck
          rw [htx] at ct
          have hlo := KT.lo
          have hhi := KT.hi
          rw [hkd] at hlo hhi
          unfold endsT at he
          rw [hkd, htx] at he
          have HE := hid he
          clear he hkd htx KT hc h10
          by_cases k6 : kd = 6
          · subst k6
            have hsh : tx ∈ shuts := by have := HE.out; simpa using this
            simp only [shuts, List.mem_cons, List.mem_nil_iff, or_false] at hsh
            rcases hsh with rfl | rfl | rfl | rfl | rfl
            all_goals
              go_wp2_with fail
              go_round
              case rel => exact ⟨j + 1 + 1, by go_num, by omega⟩
              case measure => simp [RowKit.intOf]; omega
          · have e6 : ((kd : Int) == 6) = false := by simp; omega
            clear k6
            go_wp2_with fail
            go_round
            case rel => exact ⟨j + 1 + 1, by go_num, by omega⟩
            case measure => simp [RowKit.intOf]; omega
        · obtain ⟨tx, htx⟩ : ∃ tx, l[i].text = tx := ⟨_, rfl⟩
          rw [htx] at ci h10
          have e10 : (tx == [10]) = false := by simpa using h10
          clear hc htx
          go_wp2_with fail
          go_round
          case rel => exact ⟨i + 1, by go_num, by omega⟩
          case measure => simp [RowKit.intOf]; omega
      · obtain rfl : i = l.length := by omega
        by_cases hl0 : l = []
        · subst hl0
          go_wp2_with fail
          refine (AW.out _ X1.out).mono ?_
          rintro e w2 ⟨rfl, X2⟩
          have X2 := hid (X1.out.trans X2)
          go_wp2_with fail
          go_ret
          exact ⟨rfl, X2.out⟩
        · obtain ⟨m, hm⟩ : ∃ m, l.length = m + 1 := ⟨l.length - 1, by have := List.length_pos_iff.2 hl0; omega⟩
          obtain ⟨g, rfl, _, _, hc⟩ := HT.out hl0
          have hml : m < l.length := by omega
          obtain ⟨c0, c1, c2⟩ := hc m hml
          have hlast : endsT l[m] = false := by
            have h := HL.out.2
            unfold endsP at h
            rw [List.getLast?_eq_getElem?, hm, Nat.add_sub_cancel, List.getElem?_eq_getElem hml] at h
            exact h
          have LF := last_facts (HK.out _ (List.getElem_mem hml)) hlast
          obtain ⟨kd, hkd⟩ : ∃ kd, l[m].kind = kd := ⟨_, rfl⟩
          obtain ⟨tx, htx⟩ : ∃ tx, l[m].text = tx := ⟨_, rfl⟩
          obtain ⟨ps, hps⟩ : ∃ ps, l[m].pos = ps := ⟨_, rfl⟩
          rw [hkd] at c0
          rw [htx] at c1
          rw [hps] at c2
          rw [hkd, htx] at LF
          have e1 : ((kd : Int) != 1) = true := by have := LF.1; simp; omega
          have e4 : ((kd : Int) != 4) = true := by have := LF.2.1; simp; omega
          have e5 : ((kd : Int) != 5) = true := by have := LF.2.2.1; simp; omega
          have er := LF.2.2.2.1
          have ep := LF.2.2.2.2
          have er' : (tx == [114, 101, 116, 117, 114, 110]) = false := by simpa using er
          have ep' : (tx == [41]) = false := by simpa using ep
          rw [hm] at hll ⊢
          clear LF hkd htx hps hlast hml hc hle hi hl0 hm HT HL HK
          go_wp2_with fail
          refine (AW.out _ (X1.out.alloc _)).mono ?_
          rintro e w2 ⟨rfl, X2⟩
          have X2 := hid ((X1.out.alloc _).trans X2)
          go_wp2_with fail
          go_ret
          exact ⟨rfl, X2.out⟩
end Go.Proofs.YtokjnalmjdighaaDoor
