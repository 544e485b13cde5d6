import Derived.Test.YthoeengfgkfchaaSeDefs
import Derived.Test.YthoeengfgkfchaaSeTildeP
/-
  demoticlaw11.alias.
-/
namespace Go.Proofs.Ythoeengfgkfchaa
open Go.RowKit Go.Lib Go.BigFrame
theorem defAt_take {ds : List Df} {n : List UInt8} {i : Nat} (hi : i < ds.length) (h : ∀ d ∈ ds.take i, (d.name == n) = false) (hn : (ds[i].name == n) = true) : defAt ds n = some ds[i] := by
  unfold defAt
  rw [List.find?_eq_some_iff_getElem]
  exact ⟨hn, i, hi, rfl, fun k hk => by rw [h _ (List.mem_take_iff_getElem.2 ⟨k, by omega, rfl⟩)]; rfl⟩
set_option maxRecDepth 100000 in
set_option maxHeartbeats 3200000 in
theorem als_any (ds : List Df) (n : List UInt8) (hl : ds.length ≤ 1000000) (v : Value) (w : World) (hv : IsSl 6 IsDf none' w v ds) : Calls Try.prog 15 #[v, .string ⟨n.toArray⟩] w (BoolP (alsP ds n) w) := by
  have HX := hid hv
  obtain ⟨a, cap, rfl, _⟩ := hv
  obtain ⟨r, hr⟩ : ∃ r, r = alsP ds n := ⟨_, rfl⟩
  rw [← hr]
  have HR := hid hr
  clear hr
  go_enter Try.func15, Try.ntmps15
  go_wp2_with fail
  go_loopw [5] (fun z wr => ∃ (i : Nat), z = .int .i64 (i : Nat) ∧ i ≤ ds.length ∧ Hid (∀ d ∈ ds.take i, (d.name == n) = false) ∧ Hid (Ext none' w wr)) (fun z _ => ds.length - (RowKit.intOf z).toNat)
  case atStart => exact ⟨0, rfl, by omega, hid (fun d hd => by simp at hd), hid (Ext.refl _ _)⟩
  case round =>
    obtain ⟨i, rfl, hle, HA, X⟩ := hrel
    by_cases hi : i < ds.length
    · obtain ⟨b, off, cs, rfl, hAb, hbw, hcc, hdf⟩ := (HX.out.ext isDf_good X.out fun _ _ h => h.elim).at i hi
      obtain ⟨pv, tv, rfl, _, _⟩ := hdf
      have c0 := hcc 0 _ rfl
      have c5 := hcc 5 _ rfl
      simp only [Nat.add_zero] at c0
      have htk : ds.take (i + 1) = ds.take i ++ [ds[i]] := by rw [List.take_add_one, List.getElem?_eq_getElem hi]; rfl
      have hat := fun hn => defAt_take hi HA.out hn
      have HTK := hid htk
      have HAT := hid hat
      obtain ⟨d, hdd⟩ : ∃ d, ds[i] = d := ⟨_, rfl⟩
      rw [hdd] at c0 c5 HTK HAT
      clear hcc htk hat hdd
      obtain ⟨q, hq⟩ : ∃ q, (d.name == n) = q := ⟨_, rfl⟩
      have HQ := hid hq
      cases q with
      | true =>
        go_wp2_with fail
        go_ret
        refine ⟨?_, X.out⟩
        rw [HR.out]
        unfold alsP
        rw [HAT.out HQ.out]
        rfl
      | false =>
        go_wp2_with fail
        go_roundw
        case rel => exact ⟨i + 1, by go_num, by omega, hid (fun x hx => by
          rw [HTK.out] at hx
          rcases List.mem_append.1 hx with hx | hx
          · exact HA.out x hx
          · rw [List.mem_singleton] at hx; subst hx; exact HQ.out), X⟩
        case measure => simp [RowKit.intOf]; omega
    · obtain rfl : i = ds.length := by omega
      have e1 : Hid (r = false) := hid (by
        have hA := HA.out
        rw [List.take_length] at hA
        have : defAt ds n = none := by unfold defAt; rw [List.find?_eq_none]; intro x hx; rw [hA x hx]; simp
        rw [HR.out]; unfold alsP; rw [this])
      go_wp2_with fail
      go_ret
      exact ⟨by rw [e1.out]; rfl, X.out⟩
end Go.Proofs.Ythoeengfgkfchaa
