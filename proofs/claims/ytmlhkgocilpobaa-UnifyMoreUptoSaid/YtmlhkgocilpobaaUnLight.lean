import Derived.Test.YtmlhkgocilpobaaUnTyp
/-
  demoticlaw12.light: are definitions few, and small?
-/
namespace Go.Proofs.Ytmlhkgocilpobaa
open Go.RowKit Go.Lib Go.BigFrame
def smallP (d : Df) : Bool := decide (d.ty.size ≤ 20) && decide (d.params.length ≤ 10)
def lightP (ds : List Df) : Bool := decide (ds.length ≤ 20) && ds.all smallP
set_option maxRecDepth 100000 in
set_option maxHeartbeats 3200000 in
theorem light_any (ds : List Df) (hsz : ∀ d ∈ ds, d.ty.size ≤ bigD) (v : Value) (w : World) (hv : IsSl 6 IsDf none' w v ds) : Calls Try.prog 5 #[v] w (BoolP (lightP ds) w) := by
  have HX := hid hv
  obtain ⟨a, cap, rfl, _⟩ := hv
  by_cases hl : 20 < ds.length
  · have q1 : decide (20 < (ds.length : Int)) = true := decide_eq_true (by omega)
    have e1 : Hid (lightP ds = false) := hid (by unfold lightP; rw [decide_eq_false (by omega)]; rfl)
    rw [e1.out]
    go_enter Try.func5, Try.ntmps5
    go_wp2_with fail
    go_ret
    exact ⟨rfl, Ext.refl _ _⟩
  · have q1 : decide (20 < (ds.length : Int)) = false := decide_eq_false (by omega)
    have hl' : ds.length ≤ 20 := by omega
    have e1 : Hid (lightP ds = ds.all smallP) := hid (by unfold lightP; rw [decide_eq_true hl']; rfl)
    rw [e1.out]
    have HSZ := hid hsz
    obtain ⟨r, hr⟩ : ∃ r, r = ds.all smallP := ⟨_, rfl⟩
    have HR := hid hr
    rw [← hr]
    clear hsz hl e1 hr
    go_enter Try.func5, Try.ntmps5
    go_wp2_with fail
    go_loopw [3] (fun z wr => ∃ (i : Nat), z = .int .i64 (i : Nat) ∧ i ≤ ds.length ∧ Hid ((ds.take i).all smallP = true) ∧ Hid (Ext none' w wr)) (fun z _ => ds.length - (RowKit.intOf z).toNat)
    case atStart => exact ⟨0, rfl, by omega, hid rfl, hid (Ext.refl _ _)⟩
    case round =>
      obtain ⟨i, rfl, hle, HA, X⟩ := hrel
      by_cases hi : i < ds.length
      · obtain ⟨b, off, cs, rfl, hAb, hbw, hcc, hdf⟩ := (HX.out.ext isDf_good X.out fun _ _ h => h.elim).at i hi
        obtain ⟨pv, tv, rfl, hpv, htv⟩ := hdf
        have c1 := hcc 1 _ rfl
        have c2 := hcc 2 _ rfl
        have c3 := hcc 3 _ rfl
        have c4 := hcc 4 _ rfl
        have hmem := List.getElem_mem hi
        have CS := hid (rsize_any ds[i].ty (HSZ.out _ hmem) none' (.agg #[.int .i64 ds[i].ty.kind, .string ⟨ds[i].ty.name.toArray⟩, tv]) wr ⟨_, rfl, htv⟩)
        have htk : ds.take (i + 1) = ds.take i ++ [ds[i]] := by rw [List.take_add_one, List.getElem?_eq_getElem hi]; rfl
        have hall : ds.all smallP = true → smallP ds[i] = true := fun h => List.all_eq_true.1 h _ hmem
        have hbd : ds[i].ty.size ≤ 20000000000 := HSZ.out _ hmem
        have hd : smallP ds[i] = (decide (ds[i].ty.size ≤ 20) && decide (ds[i].params.length ≤ 10)) := rfl
        obtain ⟨a2, cap2, rfl, _⟩ := htv
        obtain ⟨a3, cap3, rfl, _⟩ := hpv
        have k1' : ∀ t : LaterF none' wr, t.w.cell? ⟨b, off + i * 6 + 1, none⟩ = some (.slice a3 ds[i].params.length cap3) := fun t => (t.x.cell (p := ⟨b, off + i * 6 + 1, none⟩) hbw (fun h => h)).trans c1
        have HALL := hid hall
        have HTK := hid htk
        obtain ⟨d, hdd⟩ : ∃ d, ds[i] = d := ⟨_, rfl⟩
        rw [hdd] at c1 c2 c3 c4 CS HALL HTK hbd hd
        simp only [hdd] at k1'
        have hk1 := hid k1'
        have HTK1 : Hid ((ds.take (i + 1)).all smallP = smallP d) := hid (by rw [HTK.out, List.all_append, HA.out]; simp)
        obtain ⟨p, hp⟩ : ∃ p, d.ty.size = p := ⟨_, rfl⟩
        obtain ⟨m, hm⟩ : ∃ m, d.params.length = m := ⟨_, rfl⟩
        rw [hp] at CS hd hbd
        rw [hm] at hd c1 hk1
        have HD := hid hd
        clear hcc hmem htk hall hdd k1' hd hp hm
        by_cases h1 : p ≤ 20
        · have q2 : decide (20 < (p : Int)) = false := decide_eq_false (by omega)
          by_cases h2 : m ≤ 10
          · have q3 : decide (10 < (m : Int)) = false := decide_eq_false (by omega)
            have e2 : Hid (smallP d = true) := hid (by rw [HD.out, decide_eq_true h1, decide_eq_true h2]; rfl)
            go_wp2_with fail
            refine CS.out.mono ?_
            rintro e w2 ⟨rfl, X2⟩
            have c1 := hk1.out ⟨w2, X2⟩
            simp only at c1
            have X2 := hid (X.out.trans X2)
            go_wp2_with fail
            go_roundw
            case rel => exact ⟨i + 1, by go_num, by omega, hid (by rw [HTK1.out, e2.out]), X2⟩
            case measure => simp [RowKit.intOf]; omega
          · have q3 : decide (10 < (m : Int)) = true := decide_eq_true (by omega)
            have e2 : Hid (smallP d = false) := hid (by rw [HD.out, decide_eq_true h1, decide_eq_false h2]; rfl)
            go_wp2_with fail
            refine CS.out.mono ?_
            rintro e w2 ⟨rfl, X2⟩
            have c1 := hk1.out ⟨w2, X2⟩
            simp only at c1
            have X2 := hid (X.out.trans X2)
            go_wp2_with fail
            go_ret
            refine ⟨?_, X2.out⟩
            cases r with
            | false => rfl
            | true => have := HALL.out HR.out.symm; rw [e2.out] at this; cases this
        · have q2 : decide (20 < (p : Int)) = true := decide_eq_true (by omega)
          have e2 : Hid (smallP d = false) := hid (by rw [HD.out, decide_eq_false h1]; rfl)
          go_wp2_with fail
          refine CS.out.mono ?_
          rintro e w2 ⟨rfl, X2⟩
          have X2 := hid (X.out.trans X2)
          go_wp2_with fail
          go_ret
          refine ⟨?_, X2.out⟩
          cases r with
          | false => rfl
          | true => have := HALL.out HR.out.symm; rw [e2.out] at this; cases this
      · obtain rfl : i = ds.length := by omega
        have e1 : Hid (r = true) := hid (by rw [HR.out, ← HA.out, List.take_length])
        go_wp2_with fail
        go_ret
        exact ⟨by rw [e1.out]; rfl, X.out⟩
end Go.Proofs.Ytmlhkgocilpobaa
