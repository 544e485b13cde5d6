import Derived.Test.YtbhpmmofgdppdaaGreatDoorKlFullP
import Derived.Test.YtbhpmmofgdppdaaGreatDoorZAw
import Derived.Test.YtbhpmmofgdppdaaGreatDoorZAv
import Derived.Test.YtbhpmmofgdppdaaGreatDoorZAu
/-
  demoticlaw10.aliased: does a type name an alias?
-/
namespace Go.Proofs.YtbhpmmofgdppdaaGreatDoor
open Go.RowKit Go.Lib Go.BigFrame
set_option linter.unusedSimpArgs false
set_option linter.unusedVariables false
theorem defAt_take {ds : List Df} {n : List UInt8} {i : Nat} (hi : i < ds.length) (h : ∀ d ∈ ds.take i, (d.name == n) = false) (hn : (ds[i].name == n) = true) : defAt ds n = some ds[i] := by
  unfold defAt
  rw [List.find?_eq_some_iff_getElem]
  exact ⟨hn, i, hi, rfl, fun k hk => by rw [h _ (List.mem_take_iff_getElem.2 ⟨k, by omega, rfl⟩)]; rfl⟩
set_option maxRecDepth 100000 in
set_option maxHeartbeats 3200000 in
theorem aliased_any (ds : List Df) (hdl : ds.length ≤ 1000000) (t : Ty) : t.size ≤ bigD → ∀ (dv v : Value) (w : World), IsSl 6 IsDf none' w dv ds → TyV none' w t v → Calls Tryz.prog 15 #[dv, v] w (BoolP (aliasB ds t) w) := by
  induction t using Ty.induct with
  | h k n l ih =>
    intro hsz dv v w hd hv
    obtain ⟨p, hp⟩ : ∃ p, p = aliasB ds (.mk k n l) := ⟨_, rfl⟩
    rw [← hp]
    rw [aliasB, aliasL_any] at hp
    obtain ⟨x, rfl, hx⟩ := hv
    have hx : IsSl 3 IsTy none' w x l := hx
    have HX := hid hx
    obtain ⟨a0, cap0, rfl, _⟩ := hx
    have HD := hid hd
    obtain ⟨ad, capd, rfl, _⟩ := hd
    have HIH := hid ih
    have hll : l.length ≤ bigD := by have := Ty.args_len (.mk k n l); simp only [Ty.args] at this; omega
    unfold bigD at hll
    have HSZ := hid hsz
    have HP := hid hp
    clear ih hsz hp
    show Calls Tryz.prog 15 #[.slice ad ds.length capd, .agg #[.int .i64 k, .string ⟨n.toArray⟩, .slice a0 l.length cap0]] w (BoolP p w)
    obtain ⟨B, hB⟩ : ∃ B, B = w.heap.size := ⟨_, rfl⟩
    have g0 := heap_alloc_at (w := w) hB (.cells #[.int .i64 k, .string ⟨n.toArray⟩, .slice a0 l.length cap0] 32)
    obtain ⟨W1, hW1⟩ : ∃ W1, W1 = w.alloc (.cells #[.int .i64 k, .string ⟨n.toArray⟩, .slice a0 l.length cap0] 32) := ⟨_, rfl⟩
    have X1 : Ext none' w W1 := by rw [hW1]; exact (Ext.refl _ _).alloc _
    rw [← hW1] at g0
    have HX1 := hid (HX.out.ext isTy_good X1 fun _ _ h => h.elim)
    have HD1 := hid (HD.out.ext isDf_good X1 fun _ _ h => h.elim)
    have X1 := hid X1
    have hb1 : Hid (∀ W, Ext none' W1 W → W.cell? ⟨B, 1, none⟩ = some (.string ⟨n.toArray⟩)) := hid fun W X => by rw [cell_at (X.heap g0 (fun h => h))]; rfl
    have hb2 : Hid (∀ W, Ext none' W1 W → W.cell? ⟨B, 2, none⟩ = some (.slice a0 l.length cap0)) := hid fun W X => by rw [cell_at (X.heap g0 (fun h => h))]; rfl
    clear g0
    by_cases h3 : k = 3
    · have hk : (k == 3) = true := by simpa using h3
      have AL : Hid (∀ o, defAt ds n = o → alsAt ds k n = (match o with | some d => d.als | none => false)) := hid fun o ho => by unfold alsAt; rw [hk, ho, Bool.true_and]; cases o <;> rfl
      clear h3
      go_enter Tryz.func15, Tryz.ntmps15
      go_wp2_with fail
      rw [← hW1, ← hB]
      clear hB hW1 hk
      go_loopw [5] (fun z wr => ∃ (i : Nat), z = .int .i64 (i : Nat) ∧ i ≤ ds.length ∧ Hid (∀ d ∈ ds.take i, (d.name == n) = false) ∧ Hid (Ext none' W1 wr)) (fun z _ => ds.length - (RowKit.intOf z).toNat)
      case atStart => exact ⟨0, rfl, by omega, hid (fun d hd => by simp at hd), hid (Ext.refl _ _)⟩
      case round =>
        obtain ⟨i, rfl, hle, HA, X⟩ := hrel
        obtain ⟨wa, hwa⟩ : ∃ wa, wa = wr := ⟨_, rfl⟩
        subst hwa
        by_cases hi : i < ds.length
        · obtain ⟨b, off, cs, rfl, hAb, hbw, hcc, hdf⟩ := (HD1.out.ext isDf_good X.out fun _ _ h => h.elim).at i hi
          obtain ⟨pv, tv, rfl, _, _⟩ := hdf
          have c0 := hcc 0 _ rfl
          have c5 := hcc 5 _ rfl
          simp only [Nat.add_zero] at c0
          have htk : ds.take (i + 1) = ds.take i ++ [ds[i]] := by rw [List.take_add_one, List.getElem?_eq_getElem hi]; rfl
          have hat := fun hn => defAt_take hi HA.out hn
          have HTK := hid htk
          have HAT := hid hat
          obtain ⟨d, hdd⟩ : ∃ d, ds[i] = d := ⟨_, rfl⟩
          rw [hdd] at c0 c5 HTK HAT
          clear hcc htk hat hdd
          obtain ⟨q, hq⟩ : ∃ q, (d.name == n) = q := ⟨_, rfl⟩
          have HQ := hid hq
          obtain ⟨al, hal⟩ : ∃ al, d.als = al := ⟨_, rfl⟩
          rw [hal] at c5
          have HAL := hid hal
          have HC5 := hid fun W (X : Ext none' wa W) => (X.cell (p := ⟨b, off + i * 6 + 5, none⟩) hbw (fun h => h)).trans c5
          clear hal
          go_upto_region 5 with (fail)
          have y0 := fun t' : LaterF none' wa => (t'.x.cell (p := ⟨b, off + i * 6, none⟩) hbw (fun h => h)).trans c0
          have y1 := fun t' : LaterF none' wa => hb1.out _ (X.out.trans t'.x)
          clear c0 c5
          refine region_q none' wa (.qs [0, 1, 2, 3, 4, 5, 6, 7] .fin) (by kernel_rfl) (by kernel_rfl) (fun dst v c a w h => by cases dst <;> exact h) ?_
          refine ⟨In.of (Ext.refl _ _).drew, ?_⟩
          change wpQuiet _ _ (fun w' => ∃ t : LaterF none' wa, w' = t.w) _ _ _
          simp only [sel, List.getElem?_cons_succ, List.getElem?_cons_zero]
          repeat (go_big_quiet_step (fail))
          refine wpQuiet_nil ?_
          simp only [wpTreeQ]
          obtain ⟨WD, hWD⟩ : ∃ WD, WD = wa.drew := ⟨_, rfl⟩
          rw [← hWD]
          have XD : Ext none' wa WD := by rw [hWD]; exact (Ext.refl _ _).drew
          have c5 := HC5.out WD XD
          have XC := hid (X.out.trans XD)
          clear hWD y0 y1 XD
          cases q with
          | true =>
            cases al with
            | true =>
              have E : Hid (p = true) := hid (by rw [HP.out, AL.out _ (HAT.out HQ.out)]; simp only [HAL.out]; rfl)
              go_wp2_with fail
              go_ret
              exact ⟨by rw [E.out]; rfl, X1.out.trans XC.out⟩
            | false =>
              have NA : Hid (alsAt ds k n = false) := hid (by rw [AL.out _ (HAT.out HQ.out)]; exact HAL.out)
              clear hq
              go_wp2_with fail
              go_loopw [6] (fun z wr => ∃ (j : Nat), z = .int .i64 (j : Nat) ∧ j ≤ l.length ∧ Hid (Ext none' W1 wr ∧ ∀ i (h : i < l.length), i < j → aliasB ds l[i] = false)) (fun z _ => l.length - (RowKit.intOf z).toNat)
              case atStart => exact ⟨0, rfl, by omega, hid ⟨XC.out, fun j _ h => by omega⟩⟩
              case round =>
                obtain ⟨j, rfl, hlj, HR⟩ := hrel
                have b2 := hb2.out _ HR.out.1
                by_cases hi : j < l.length
                · obtain ⟨b, off, cs, rfl, hAb, hbw, hcc, hty⟩ := (HX1.out.ext isTy_good HR.out.1 fun _ _ h => h.elim).at j hi
                  obtain ⟨x', rfl, hx'⟩ := hty.parts
                  have c0 := hcc 0 _ rfl
                  have c1 := hcc 1 _ rfl
                  have c2 := hcc 2 _ rfl
                  simp only [Nat.add_zero] at c0
                  have hmem := List.getElem_mem hi
                  have hts : l[j].size ≤ bigD := by have := Ty.size_arg (t := .mk k n l) hmem; have := HSZ.out; omega
                  have HX2 := hid hx'
                  obtain ⟨a', cap', rfl, _⟩ := hx'
                  have CS := hid (HIH.out _ hmem hts _ (.agg #[.int .i64 l[j].kind, .string ⟨l[j].name.toArray⟩, .slice a' l[j].args.length cap']) wr (HD1.out.ext isDf_good HR.out.1 fun _ _ h => h.elim) ⟨_, rfl, HX2.out⟩)
                  obtain ⟨q, hq⟩ : ∃ q, aliasB ds l[j] = q := ⟨_, rfl⟩
                  rw [hq] at CS
                  have HQ := hid hq
                  obtain ⟨t, ht⟩ : ∃ t, l[j] = t := ⟨_, rfl⟩
                  rw [ht] at c0 c1 c2 CS
                  have HM := hid hmem
                  clear hcc hty hq ht hmem hts HX2
                  go_wp2_with fail
                  refine CS.out.mono ?_
                  rintro e w2 ⟨rfl, X2⟩
                  have X2 := hid (HR.out.1.trans X2)
                  cases q with
                  | false =>
                    have N : Hid (Ext none' W1 w2 ∧ ∀ i (h : i < l.length), i < j + 1 → aliasB ds l[i] = false) := hid ⟨X2.out, fun i h hj => by
                      by_cases e : i = j
                      · subst e; exact HQ.out
                      · exact HR.out.2 i h (by omega)⟩
                    go_wp2_with fail
                    go_roundw
                    case rel => exact ⟨j + 1, by go_num, by omega, N⟩
                    case measure => simp [RowKit.intOf]; omega
                  | true =>
                    have E : Hid (p = true) := hid (by rw [HP.out, List.any_eq_true.2 ⟨_, HM.out, HQ.out⟩, Bool.or_true])
                    go_wp2_with fail
                    go_ret
                    exact ⟨by rw [E.out]; rfl, X1.out.trans X2.out⟩
                · have E : Hid (p = false) := hid (by
                    rw [HP.out, NA.out, Bool.false_or, List.any_eq_false]
                    intro y hy
                    obtain ⟨i, hj, rfl⟩ := List.mem_iff_getElem.1 hy
                    rw [HR.out.2 i hj (by omega)]
                    simp)
                  obtain rfl : j = l.length := by omega
                  go_wp2_with fail
                  go_ret
                  exact ⟨by rw [E.out]; rfl, X1.out.trans HR.out.1⟩
          | false =>
            go_wp2_with fail
            go_roundw
            case rel => exact ⟨i + 1, by go_num, by omega, hid (fun x hx => by
              rw [HTK.out] at hx
              rcases List.mem_append.1 hx with hx | hx
              · exact HA.out x hx
              · rw [List.mem_singleton] at hx; subst hx; exact HQ.out), XC⟩
            case measure => simp [RowKit.intOf]; omega
        · obtain rfl : i = ds.length := by omega
          have NA : Hid (alsAt ds k n = false) := hid (by
            have hA := HA.out
            rw [List.take_length] at hA
            exact AL.out none (by unfold defAt; rw [List.find?_eq_none]; intro x hx; rw [hA x hx]; simp))
          have XC := X
          go_wp2_with fail
          go_loopw [6] (fun z wr => ∃ (j : Nat), z = .int .i64 (j : Nat) ∧ j ≤ l.length ∧ Hid (Ext none' W1 wr ∧ ∀ i (h : i < l.length), i < j → aliasB ds l[i] = false)) (fun z _ => l.length - (RowKit.intOf z).toNat)
          case atStart => exact ⟨0, rfl, by omega, hid ⟨XC.out, fun j _ h => by omega⟩⟩
          case round =>
            obtain ⟨j, rfl, hlj, HR⟩ := hrel
            have b2 := hb2.out _ HR.out.1
            by_cases hi : j < l.length
            · obtain ⟨b, off, cs, rfl, hAb, hbw, hcc, hty⟩ := (HX1.out.ext isTy_good HR.out.1 fun _ _ h => h.elim).at j hi
              obtain ⟨x', rfl, hx'⟩ := hty.parts
              have c0 := hcc 0 _ rfl
              have c1 := hcc 1 _ rfl
              have c2 := hcc 2 _ rfl
              simp only [Nat.add_zero] at c0
              have hmem := List.getElem_mem hi
              have hts : l[j].size ≤ bigD := by have := Ty.size_arg (t := .mk k n l) hmem; have := HSZ.out; omega
              have HX2 := hid hx'
              obtain ⟨a', cap', rfl, _⟩ := hx'
              have CS := hid (HIH.out _ hmem hts _ (.agg #[.int .i64 l[j].kind, .string ⟨l[j].name.toArray⟩, .slice a' l[j].args.length cap']) wr (HD1.out.ext isDf_good HR.out.1 fun _ _ h => h.elim) ⟨_, rfl, HX2.out⟩)
              obtain ⟨q, hq⟩ : ∃ q, aliasB ds l[j] = q := ⟨_, rfl⟩
              rw [hq] at CS
              have HQ := hid hq
              obtain ⟨t, ht⟩ : ∃ t, l[j] = t := ⟨_, rfl⟩
              rw [ht] at c0 c1 c2 CS
              have HM := hid hmem
              clear hcc hty hq ht hmem hts HX2
              go_wp2_with fail
              refine CS.out.mono ?_
              rintro e w2 ⟨rfl, X2⟩
              have X2 := hid (HR.out.1.trans X2)
              cases q with
              | false =>
                have N : Hid (Ext none' W1 w2 ∧ ∀ i (h : i < l.length), i < j + 1 → aliasB ds l[i] = false) := hid ⟨X2.out, fun i h hj => by
                  by_cases e : i = j
                  · subst e; exact HQ.out
                  · exact HR.out.2 i h (by omega)⟩
                go_wp2_with fail
                go_roundw
                case rel => exact ⟨j + 1, by go_num, by omega, N⟩
                case measure => simp [RowKit.intOf]; omega
              | true =>
                have E : Hid (p = true) := hid (by rw [HP.out, List.any_eq_true.2 ⟨_, HM.out, HQ.out⟩, Bool.or_true])
                go_wp2_with fail
                go_ret
                exact ⟨by rw [E.out]; rfl, X1.out.trans X2.out⟩
            · have E : Hid (p = false) := hid (by
                rw [HP.out, NA.out, Bool.false_or, List.any_eq_false]
                intro y hy
                obtain ⟨i, hj, rfl⟩ := List.mem_iff_getElem.1 hy
                rw [HR.out.2 i hj (by omega)]
                simp)
              obtain rfl : j = l.length := by omega
              go_wp2_with fail
              go_ret
              exact ⟨by rw [E.out]; rfl, X1.out.trans HR.out.1⟩
    · have hk : (k == 3) = false := by simpa using h3
      have NA : Hid (alsAt ds k n = false) := hid (by unfold alsAt; rw [hk]; rfl)
      have XC := hid (Ext.refl none' W1)
      clear h3
      go_enter Tryz.func15, Tryz.ntmps15
      go_wp2_with fail
      rw [← hW1, ← hB]
      clear hB hW1 hk
      go_loopw [6] (fun z wr => ∃ (j : Nat), z = .int .i64 (j : Nat) ∧ j ≤ l.length ∧ Hid (Ext none' W1 wr ∧ ∀ i (h : i < l.length), i < j → aliasB ds l[i] = false)) (fun z _ => l.length - (RowKit.intOf z).toNat)
      case atStart => exact ⟨0, rfl, by omega, hid ⟨XC.out, fun j _ h => by omega⟩⟩
      case round =>
        obtain ⟨j, rfl, hlj, HR⟩ := hrel
        have b2 := hb2.out _ HR.out.1
        by_cases hi : j < l.length
        · obtain ⟨b, off, cs, rfl, hAb, hbw, hcc, hty⟩ := (HX1.out.ext isTy_good HR.out.1 fun _ _ h => h.elim).at j hi
          obtain ⟨x', rfl, hx'⟩ := hty.parts
          have c0 := hcc 0 _ rfl
          have c1 := hcc 1 _ rfl
          have c2 := hcc 2 _ rfl
          simp only [Nat.add_zero] at c0
          have hmem := List.getElem_mem hi
          have hts : l[j].size ≤ bigD := by have := Ty.size_arg (t := .mk k n l) hmem; have := HSZ.out; omega
          have HX2 := hid hx'
          obtain ⟨a', cap', rfl, _⟩ := hx'
          have CS := hid (HIH.out _ hmem hts _ (.agg #[.int .i64 l[j].kind, .string ⟨l[j].name.toArray⟩, .slice a' l[j].args.length cap']) wr (HD1.out.ext isDf_good HR.out.1 fun _ _ h => h.elim) ⟨_, rfl, HX2.out⟩)
          obtain ⟨q, hq⟩ : ∃ q, aliasB ds l[j] = q := ⟨_, rfl⟩
          rw [hq] at CS
          have HQ := hid hq
          obtain ⟨t, ht⟩ : ∃ t, l[j] = t := ⟨_, rfl⟩
          rw [ht] at c0 c1 c2 CS
          have HM := hid hmem
          clear hcc hty hq ht hmem hts HX2
          go_wp2_with fail
          refine CS.out.mono ?_
          rintro e w2 ⟨rfl, X2⟩
          have X2 := hid (HR.out.1.trans X2)
          cases q with
          | false =>
            have N : Hid (Ext none' W1 w2 ∧ ∀ i (h : i < l.length), i < j + 1 → aliasB ds l[i] = false) := hid ⟨X2.out, fun i h hj => by
              by_cases e : i = j
              · subst e; exact HQ.out
              · exact HR.out.2 i h (by omega)⟩
            go_wp2_with fail
            go_roundw
            case rel => exact ⟨j + 1, by go_num, by omega, N⟩
            case measure => simp [RowKit.intOf]; omega
          | true =>
            have E : Hid (p = true) := hid (by rw [HP.out, List.any_eq_true.2 ⟨_, HM.out, HQ.out⟩, Bool.or_true])
            go_wp2_with fail
            go_ret
            exact ⟨by rw [E.out]; rfl, X1.out.trans X2.out⟩
        · have E : Hid (p = false) := hid (by
            rw [HP.out, NA.out, Bool.false_or, List.any_eq_false]
            intro y hy
            obtain ⟨i, hj, rfl⟩ := List.mem_iff_getElem.1 hy
            rw [HR.out.2 i hj (by omega)]
            simp)
          obtain rfl : j = l.length := by omega
          go_wp2_with fail
          go_ret
          exact ⟨by rw [E.out]; rfl, X1.out.trans HR.out.1⟩
end Go.Proofs.YtbhpmmofgdppdaaGreatDoor
