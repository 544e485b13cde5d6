import Derived.Test.YtmlhkgocilpobaaUnMoreP
/-
  demoticlaw12.few: are types few, and small?
-/
namespace Go.Proofs.Ytmlhkgocilpobaa
open Go.RowKit Go.Lib Go.BigFrame
def smallT (t : Ty) : Bool := decide (t.size ≤ 40)
def fewP (ts : List Ty) : Bool := decide (ts.length ≤ 10) && ts.all smallT
set_option maxRecDepth 100000 in
set_option maxHeartbeats 3200000 in
theorem few_any (ts : List Ty) (hsz : ∀ t ∈ ts, t.size ≤ bigD) (v : Value) (w : World) (hv : IsSl 3 IsTy none' w v ts) : Calls Try.prog 6 #[v] w (BoolP (fewP ts) w) := by
  have HX := hid hv
  obtain ⟨a, cap, rfl, _⟩ := hv
  by_cases hl : 10 < ts.length
  · have q1 : decide (10 < (ts.length : Int)) = true := decide_eq_true (by omega)
    have e1 : Hid (fewP ts = false) := hid (by unfold fewP; rw [decide_eq_false (by omega)]; rfl)
    rw [e1.out]
    go_enter Try.func6, Try.ntmps6
    go_wp2_with fail
    go_ret
    exact ⟨rfl, Ext.refl _ _⟩
  · have q1 : decide (10 < (ts.length : Int)) = false := decide_eq_false (by omega)
    have hl' : ts.length ≤ 10 := by omega
    have e1 : Hid (fewP ts = ts.all smallT) := hid (by unfold fewP; rw [decide_eq_true hl']; rfl)
    rw [e1.out]
    have HSZ := hid hsz
    obtain ⟨r, hr⟩ : ∃ r, r = ts.all smallT := ⟨_, rfl⟩
    have HR := hid hr
    rw [← hr]
    clear hsz hl e1 hr
    go_enter Try.func6, Try.ntmps6
    go_wp2_with fail
    go_loopw [3] (fun z wr => ∃ (i : Nat), z = .int .i64 (i : Nat) ∧ i ≤ ts.length ∧ Hid ((ts.take i).all smallT = true) ∧ Hid (Ext none' w wr)) (fun z _ => ts.length - (RowKit.intOf z).toNat)
    case atStart => exact ⟨0, rfl, by omega, hid rfl, hid (Ext.refl _ _)⟩
    case round =>
      obtain ⟨i, rfl, hle, HA, X⟩ := hrel
      by_cases hi : i < ts.length
      · obtain ⟨b, off, cs, rfl, hAb, hbw, hcc, hty⟩ := (HX.out.ext isTy_good X.out fun _ _ h => h.elim).at i hi
        obtain ⟨x', rfl, hx'⟩ := hty.parts
        have c0 := hcc 0 _ rfl
        have c1 := hcc 1 _ rfl
        have c2 := hcc 2 _ rfl
        simp only [Nat.add_zero] at c0
        have hmem := List.getElem_mem hi
        have HX2 := hid hx'
        obtain ⟨a', cap', rfl, _⟩ := hx'
        have CS := hid (rsize_any ts[i] (HSZ.out _ hmem) none' (.agg #[.int .i64 ts[i].kind, .string ⟨ts[i].name.toArray⟩, .slice a' ts[i].args.length cap']) wr ⟨_, rfl, HX2.out⟩)
        have htk : ts.take (i + 1) = ts.take i ++ [ts[i]] := by rw [List.take_add_one, List.getElem?_eq_getElem hi]; rfl
        have hall : ts.all smallT = true → smallT ts[i] = true := fun h => List.all_eq_true.1 h _ hmem
        have hbd : ts[i].size ≤ 20000000000 := HSZ.out _ hmem
        have hd : smallT ts[i] = decide (ts[i].size ≤ 40) := rfl
        have HALL := hid hall
        obtain ⟨s, hs⟩ : ∃ s, smallT ts[i] = s := ⟨_, rfl⟩
        have HTK1 : Hid ((ts.take (i + 1)).all smallT = s) := hid (by rw [htk, List.all_append, HA.out, ← hs]; simp)
        rw [hs] at hd HALL
        obtain ⟨p, hp⟩ : ∃ p, ts[i].size = p := ⟨_, rfl⟩
        rw [hp] at CS hd hbd
        have HD := hid hd
        clear hcc hmem htk hall hty hs hp hd
        by_cases h1 : p ≤ 40
        · have q2 : decide (40 < (p : Int)) = false := decide_eq_false (by omega)
          have e2 : Hid (s = true) := hid (by rw [HD.out, decide_eq_true h1])
          go_wp2_with fail
          refine CS.out.mono ?_
          rintro e w2 ⟨rfl, X2⟩
          have X2 := hid (X.out.trans X2)
          go_wp2_with fail
          go_roundw
          case rel => exact ⟨i + 1, by go_num, by omega, hid (by rw [HTK1.out, e2.out]), X2⟩
          case measure => simp [RowKit.intOf]; omega
        · have q2 : decide (40 < (p : Int)) = true := decide_eq_true (by omega)
          have e2 : Hid (s = false) := hid (by rw [HD.out, decide_eq_false h1])
          go_wp2_with fail
          refine CS.out.mono ?_
          rintro e w2 ⟨rfl, X2⟩
          have X2 := hid (X.out.trans X2)
          go_wp2_with fail
          go_ret
          refine ⟨?_, X2.out⟩
          cases r with
          | false => rfl
          | true => have := HALL.out HR.out.symm; rw [e2.out] at this; cases this
      · obtain rfl : i = ts.length := by omega
        have e1 : Hid (r = true) := hid (by rw [HR.out, ← HA.out, List.take_length])
        go_wp2_with fail
        go_ret
        exact ⟨by rw [e1.out]; rfl, X.out⟩
end Go.Proofs.Ytmlhkgocilpobaa
