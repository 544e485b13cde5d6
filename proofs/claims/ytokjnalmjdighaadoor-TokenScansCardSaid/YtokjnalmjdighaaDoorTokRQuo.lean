import Derived.Test.YtokjnalmjdighaaDoorTokQuo
import Derived.Test.YtokjnalmjdighaaDoorTokState
namespace Go.Proofs.YtokjnalmjdighaaDoor
open Go.RowKit Go.Lib Go.BigFrame
def endQ : Option Nat → Int
  | some m => m
  | none => -1
def EndPost (o : Option Nat) (w : World) (e : Ending) (w' : World) : Prop := e = .returned (.int .i64 (endQ o)) ∧ Ext none' w w'
/-- What the loop keeps. -/
structure RqRel (s : List UInt8) (q : UInt8) (p : Option Nat) (w wr : World) (pos : Nat) : Prop where
  le : pos ≤ s.length + 1
  hx : Ext none' w wr
  hf : p = (quo q false (s.drop pos)).map (· + pos)
theorem drop_at {s : List UInt8} {pos : Nat} (h : pos < s.length) : s.drop pos = s[pos] :: s.drop (pos + 1) := List.drop_eq_getElem_cons h
theorem quo34_cons (y : UInt8) (t : List UInt8) : quo 34 false (y :: t) = if y = 92 then (quo 34 true t).map (· + 1) else if y = 34 then some 1 else if y = 10 then none else (quo 34 false t).map (· + 1) := by
  simp [quo]
theorem quo34_true (y : UInt8) (t : List UInt8) : quo 34 true (y :: t) = if y = 10 then none else (quo 34 false t).map (· + 1) := by simp [quo]
theorem quo96_cons (y : UInt8) (t : List UInt8) : quo 96 false (y :: t) = if y = 96 then some 1 else (quo 96 false t).map (· + 1) := by
  simp [quo]
set_option maxHeartbeats 3200000 in
theorem rquoted_any (B : Nat) (s : List UInt8) (v : Value) (k : Nat) (w : World) (hv : Bytes B w v s) (hk : k < s.length) (hq : s[k] = 34 ∨ s[k] = 96) (hs : s.length ≤ 1000000) :
    Calls Tryd.prog 25 #[v, .int .i64 k] w (EndPost ((quo s[k] false (s.drop (k + 1))).map (· + (k + 1))) w) := by
  obtain ⟨p, hp⟩ : ∃ p, p = (quo s[k] false (s.drop (k + 1))).map (· + (k + 1)) := ⟨_, rfl⟩
  rw [← hp]
  obtain ⟨aa, cap, rfl, h1, h2, h3, h4⟩ := hv
  have hne : s ≠ [] := by intro e; subst e; simp at hk
  obtain ⟨b, off, rfl, hbB, hbw, hcell⟩ := h4 hne
  have HC := hid fun (t : LaterF none' w) j (hj : j < s.length) => (t.x.cell (p := ⟨b, off + j, none⟩) hbw (fun h => h)).trans (hcell j hj)
  clear hcell h3 h4 hne
  rcases hq with hq | hq
  all_goals
    rw [hq] at hp
    have HP := hid hp
    have HQ := hid hq
    clear hp hq
    go_enter Tryd.func25, Tryd.ntmps25
    go_wp2_with fail
  · go_loopw [5] (fun z wr => ∃ pos : Nat, z = .int .i64 pos ∧ RqRel s 34 p w wr pos) (fun z _ => s.length + 1 - (RowKit.intOf z).toNat)
    case atStart => exact ⟨k + 1, by go_num, ⟨by omega, Ext.refl _ _, HP.out⟩⟩
    case round =>
      obtain ⟨pos, rfl, R⟩ := hrel
      have hle := R.le
      by_cases hp : pos < s.length
      · have ck := fun (t : LaterF none' wr) => HC.out ⟨t.w, R.hx.trans t.x⟩ k hk
        have cp := fun (t : LaterF none' wr) => HC.out ⟨t.w, R.hx.trans t.x⟩ pos hp
        simp only [HQ.out] at ck cp
        have qf := quo34_cons s[pos] (s.drop (pos + 1))
        rw [← drop_at hp] at qf
        have hfp := R.hf
        rw [qf] at hfp
        have cn : ∀ (h : pos + 1 < s.length) (t : LaterF none' wr), t.w.cell? ⟨b, off + (pos + 1), none⟩ = some (.int .u8 ((s[pos + 1].toNat : Nat) : Int)) := fun h t => HC.out ⟨t.w, R.hx.trans t.x⟩ (pos + 1) h
        obtain ⟨y, hy⟩ : ∃ y, s[pos] = y := ⟨_, rfl⟩
        rw [hy] at hfp
        simp only [hy] at cp
        have HF := hid hfp
        have HX := hid R.hx
        have NX : ∀ wr2, Ext none' wr wr2 → p = (quo 34 false (s.drop (pos + 1))).map (· + (pos + 1)) → RqRel s 34 p w wr2 (pos + 1) := fun wr2 x h => ⟨by omega, R.hx.trans x, h⟩
        have NX2 : ∀ wr2, Ext none' wr wr2 → p = (quo 34 false (s.drop (pos + 2))).map (· + (pos + 2)) → RqRel s 34 p w wr2 (pos + 2) := fun wr2 x h => ⟨by omega, R.hx.trans x, h⟩
        have HN := hid NX
        have HN2 := hid NX2
        have HCN := hid cn
        clear hy R qf hfp NX NX2 cn
        have ck0 := ck ⟨wr, Ext.refl _ _⟩
        have cp0 := cp ⟨wr, Ext.refl _ _⟩
        have ck1 := ck ⟨wr.drew, (Ext.refl _ _).drew⟩
        have cp1 := cp ⟨wr.drew, (Ext.refl _ _).drew⟩
        simp only at ck0 cp0 ck1 cp1
        have k34 : ((34 : UInt8).toNat : Nat) = 34 := rfl
        simp only [k34] at ck ck0 ck1
        by_cases y10 : y = 10
        · subst y10
          have hpn : Hid (p = none) := hid (by rw [HF.out]; simp)
          clear ck cp
          go_wp2_with fail
          go_ret
          exact ⟨by rw [hpn.out]; rfl, HX.out⟩
        · have e10 : ((y.toNat : Int) == 10) = false := by
            have : y.toNat ≠ 10 := fun h => y10 (UInt8.toNat_inj.1 h)
            simp; omega
          by_cases y34 : y = 34
          · subst y34
            have hpn : Hid (p = some (pos + 1)) := hid (by rw [HF.out]; simp; omega)
            clear y10
            go_wp2_with fail
            refine region_in none' wr [0, 1, 2, 3, 4, 5, 6, 7, 8] [] (by kernel_rfl) (by kernel_rfl) (fun dst v c a w h => by cases dst <;> exact h) (Ext.refl _ _) ?_
            simp only [sel, List.getElem?_cons_succ, List.getElem?_cons_zero]
            repeat (go_big_quiet_step (fail))
            refine wpQuiet_nil ?_
            simp only [wpChain]
            clear ck cp
            go_wp2_with fail
            go_ret
            exact ⟨by rw [hpn.out]; simp [endQ], HX.out.drew⟩
          · have e34 : ((y.toNat : Int) == 34) = false := by
              have : y.toNat ≠ 34 := fun h => y34 (UInt8.toNat_inj.1 h)
              simp; omega
            have e34' : y.toNat ≠ 34 := fun h => y34 (UInt8.toNat_inj.1 h)
            by_cases y92 : y = 92
            · subst y92
              have HF2 : Hid (p = ((quo 34 true (s.drop (pos + 1))).map (· + 1)).map (· + pos)) := hid (by rw [HF.out]; simp)
              clear y10 y34 HF
              by_cases hn : pos + 1 < s.length
              · have cn0 := HCN.out hn ⟨wr.drew, (Ext.refl _ _).drew⟩
                have qt := quo34_true s[pos + 1] (s.drop (pos + 1 + 1))
                rw [← drop_at hn] at qt
                obtain ⟨z, hz⟩ : ∃ z, s[pos + 1] = z := ⟨_, rfl⟩
                rw [hz] at qt
                simp only [hz] at cn0
                have HF3 := hid (HF2.out)
                rw [qt] at HF3
                clear hz qt HF2
                by_cases z10 : z = 10
                · subst z10
                  have hpn : Hid (p = none) := hid (by rw [HF3.out]; simp)
                  go_wp2_with fail
                  refine region_in none' wr [0, 1, 2, 3, 4, 5, 6, 7, 8] [] (by kernel_rfl) (by kernel_rfl) (fun dst v c a w h => by cases dst <;> exact h) (Ext.refl _ _) ?_
                  simp only [sel, List.getElem?_cons_succ, List.getElem?_cons_zero]
                  repeat (go_big_quiet_step (fail))
                  refine wpQuiet_nil ?_
                  simp only [wpChain]
                  clear ck cp
                  go_wp2_with fail
                  go_ret
                  exact ⟨by rw [hpn.out]; rfl, HX.out.drew⟩
                · have ez : ((z.toNat : Int) == 10) = false := by
                    have : z.toNat ≠ 10 := fun h => z10 (UInt8.toNat_inj.1 h)
                    simp; omega
                  have N := hid (HN2.out wr.drew ((Ext.refl _ _).drew) (by rw [HF3.out, if_neg z10, map_map_add, map_map_add]; congr 1; funext j; omega))
                  clear z10
                  go_wp2_with fail
                  refine region_in none' wr [0, 1, 2, 3, 4, 5, 6, 7, 8] [] (by kernel_rfl) (by kernel_rfl) (fun dst v c a w h => by cases dst <;> exact h) (Ext.refl _ _) ?_
                  simp only [sel, List.getElem?_cons_succ, List.getElem?_cons_zero]
                  repeat (go_big_quiet_step (fail))
                  refine wpQuiet_nil ?_
                  simp only [wpChain]
                  clear ck cp
                  go_wp2_with fail
                  go_roundw
                  case rel => exact ⟨pos + 2, by go_num, N.out⟩
                  case measure => simp [RowKit.intOf]; omega
              · have N := hid (HN2.out wr.drew ((Ext.refl _ _).drew) (by rw [HF2.out, List.drop_eq_nil_of_le (by omega), List.drop_eq_nil_of_le (by omega)]; rfl))
                go_wp2_with fail
                refine region_in none' wr [0, 1, 2, 3, 4, 5, 6, 7, 8] [] (by kernel_rfl) (by kernel_rfl) (fun dst v c a w h => by cases dst <;> exact h) (Ext.refl _ _) ?_
                simp only [sel, List.getElem?_cons_succ, List.getElem?_cons_zero]
                repeat (go_big_quiet_step (fail))
                refine wpQuiet_nil ?_
                simp only [wpChain]
                clear ck cp
                go_wp2_with fail
                go_roundw
                case rel => exact ⟨pos + 2, by go_num, N.out⟩
                case measure => simp [RowKit.intOf]; omega
            · have e92 : ((y.toNat : Int) == 92) = false := by
                have : y.toNat ≠ 92 := fun h => y92 (UInt8.toNat_inj.1 h)
                simp; omega
              have N := hid (HN.out wr.drew ((Ext.refl _ _).drew) (by rw [HF.out, if_neg y92, if_neg y34, if_neg y10, map_map_add]; congr 1; funext j; omega))
              clear y10 y34 y92
              go_wp2_with fail
              refine region_in none' wr [0, 1, 2, 3, 4, 5, 6, 7, 8] [] (by kernel_rfl) (by kernel_rfl) (fun dst v c a w h => by cases dst <;> exact h) (Ext.refl _ _) ?_
              simp only [sel, List.getElem?_cons_succ, List.getElem?_cons_zero]
              repeat (go_big_quiet_step (fail))
              refine wpQuiet_nil ?_
              simp only [wpChain]
              clear ck cp
              go_wp2_with fail
              go_roundw
              case rel => exact ⟨pos + 1, by go_num, N.out⟩
              case measure => simp [RowKit.intOf]; omega
      · have hpn : Hid (p = none) := hid (by rw [R.hf, List.drop_eq_nil_of_le (by omega)]; rfl)
        have HX := hid R.hx
        clear R
        go_wp2_with fail
        go_ret
        exact ⟨by rw [hpn.out]; rfl, HX.out⟩
  · go_loopw [5] (fun z wr => ∃ pos : Nat, z = .int .i64 pos ∧ RqRel s 96 p w wr pos) (fun z _ => s.length + 1 - (RowKit.intOf z).toNat)
    case atStart => exact ⟨k + 1, by go_num, ⟨by omega, Ext.refl _ _, HP.out⟩⟩
    case round =>
      obtain ⟨pos, rfl, R⟩ := hrel
      have hle := R.le
      by_cases hp : pos < s.length
      · have ck := fun (t : LaterF none' wr) => HC.out ⟨t.w, R.hx.trans t.x⟩ k hk
        have cp := fun (t : LaterF none' wr) => HC.out ⟨t.w, R.hx.trans t.x⟩ pos hp
        simp only [HQ.out] at ck cp
        have qf := quo96_cons s[pos] (s.drop (pos + 1))
        rw [← drop_at hp] at qf
        have hfp := R.hf
        rw [qf] at hfp
        obtain ⟨y, hy⟩ : ∃ y, s[pos] = y := ⟨_, rfl⟩
        rw [hy] at hfp
        simp only [hy] at cp
        have HF := hid hfp
        have HX := hid R.hx
        have NX : ∀ wr2, Ext none' wr wr2 → p = (quo 96 false (s.drop (pos + 1))).map (· + (pos + 1)) → RqRel s 96 p w wr2 (pos + 1) := fun wr2 x h => ⟨by omega, R.hx.trans x, h⟩
        have HN := hid NX
        clear hy R qf hfp NX
        have ck0 := ck ⟨wr, Ext.refl _ _⟩
        have cp0 := cp ⟨wr, Ext.refl _ _⟩
        have ck1 := ck ⟨wr.drew, (Ext.refl _ _).drew⟩
        have cp1 := cp ⟨wr.drew, (Ext.refl _ _).drew⟩
        simp only at ck0 cp0 ck1 cp1
        have k96 : ((96 : UInt8).toNat : Nat) = 96 := rfl
        simp only [k96] at ck ck0 ck1
        by_cases y96 : y = 96
        · subst y96
          have hpn : Hid (p = some (pos + 1)) := hid (by rw [HF.out]; simp; omega)
          go_wp2_with fail
          refine region_in none' wr [0, 1, 2, 3, 4, 5, 6, 7, 8] [] (by kernel_rfl) (by kernel_rfl) (fun dst v c a w h => by cases dst <;> exact h) (Ext.refl _ _) ?_
          simp only [sel, List.getElem?_cons_succ, List.getElem?_cons_zero]
          repeat (go_big_quiet_step (fail))
          refine wpQuiet_nil ?_
          simp only [wpChain]
          clear ck cp
          go_wp2_with fail
          go_ret
          exact ⟨by rw [hpn.out]; simp [endQ], HX.out.drew⟩
        · have e96 : ((y.toNat : Int) == 96) = false := by
            have : y.toNat ≠ 96 := fun h => y96 (UInt8.toNat_inj.1 h)
            simp; omega
          have e96' : y.toNat ≠ 96 := fun h => y96 (UInt8.toNat_inj.1 h)
          have N := hid (HN.out wr.drew ((Ext.refl _ _).drew) (by rw [HF.out, if_neg y96, map_map_add]; congr 1; funext j; omega))
          clear y96
          go_wp2_with fail
          refine region_in none' wr [0, 1, 2, 3, 4, 5, 6, 7, 8] [] (by kernel_rfl) (by kernel_rfl) (fun dst v c a w h => by cases dst <;> exact h) (Ext.refl _ _) ?_
          simp only [sel, List.getElem?_cons_succ, List.getElem?_cons_zero]
          repeat (go_big_quiet_step (fail))
          refine wpQuiet_nil ?_
          simp only [wpChain]
          clear ck cp
          go_wp2_with fail
          go_roundw
          case rel => exact ⟨pos + 1, by go_num, N.out⟩
          case measure => simp [RowKit.intOf]; omega
      · have hpn : Hid (p = none) := hid (by rw [R.hf, List.drop_eq_nil_of_le (by omega)]; rfl)
        have HX := hid R.hx
        clear R
        go_wp2_with fail
        go_ret
        exact ⟨by rw [hpn.out]; rfl, HX.out⟩
end Go.Proofs.YtokjnalmjdighaaDoor
