import Derived.Test.YthoeengfgkfchaaSeAwake
import Derived.Test.YthoeengfgkfchaaSeOfP
import Derived.Test.YthoeengfgkfchaaRegionQ
import Derived.Test.YthoeengfgkfchaaSeAls
/-
  demoticref11.basic, .Find; demoticlaw11.told.
-/
namespace Go.Proofs.Ythoeengfgkfchaa
open Go.RowKit Go.Lib Go.BigFrame
theorem ret_rn2 {fn : Func} {p u : Tmp} (h : fn.results = #[.cell p 26, .tmp u]) {R : Ending → World → Prop} {a : Act} {w : World} {g : Nat} {y0 y1 y2 z : Value} {t : TypeId} {fr : Nat × Nat} (hp : a.tmps.getD p undef = .pointer (some ⟨g, 0, none⟩)) (hg : w.heap[g]? = some (.cells #[y0, y1, y2] t fr)) (hz : a.tmps.getD u undef = z)
    (hd : a.defers = []) (hR : R (.returned (.tuple #[.agg #[y0, y1, y2], z])) w) : bodyPost Try.prog fn R .ret a w := by
  have hp' : a.tmps[p]?.getD undef = .pointer (some ⟨g, 0, none⟩) := by simpa using hp
  have hl := run_loadVar_row (P := Try.prog) w g t 26 #[y0, y1, y2] fr _ hg Try.underlying26 rfl (by kernel_rfl)
  refine bodyPost_ret (v := .tuple #[.agg #[y0, y1, y2], z]) ?_ hd hR
  rw [results_cell_tmp h, hp, hz]
  simp [asAddr, hl, Result.andThen]
set_option maxRecDepth 100000 in
theorem rbasic_any (n : List UInt8) (w : World) : Calls Try.prog 33 #[.string ⟨n.toArray⟩] w (BoolP (basicB n) w) := by
  obtain ⟨p, hp⟩ : ∃ p, p = basicB n := ⟨_, rfl⟩
  rw [← hp]
  unfold basicB at hp
  obtain ⟨b0, h0⟩ : ∃ b, (n == nInt) = b := ⟨_, rfl⟩
  obtain ⟨b1, h1⟩ : ∃ b, (n == nStr) = b := ⟨_, rfl⟩
  obtain ⟨b2, h2⟩ : ∃ b, (n == nBool) = b := ⟨_, rfl⟩
  rw [h0, h1, h2] at hp
  have HP := hid hp
  simp only [nInt, nStr, nBool] at h0 h1 h2
  clear hp
  cases b0 with
  | true =>
    go_enter Try.func33, Try.ntmps33
    go_wp2_with fail
    go_ret
    exact ⟨by rw [HP.out]; rfl, Ext.refl _ _⟩
  | false =>
    cases b1 with
    | true =>
      go_enter Try.func33, Try.ntmps33
      go_wp2_with fail
      go_ret
      exact ⟨by rw [HP.out]; rfl, Ext.refl _ _⟩
    | false =>
      go_enter Try.func33, Try.ntmps33
      go_wp2_with fail
      go_ret
      exact ⟨by rw [HP.out]; rfl, Ext.refl _ _⟩
theorem findC_take {ds : List Bd} {n : List UInt8} {i : Nat} (hi : i < ds.length) (h : ∀ d ∈ ds.take i, (d.name == n) = false) (hn : (ds[i].name == n) = true) : findC ds n = some ds[i].set := by
  unfold findC
  have : ds.find? (fun b => b.name == n) = some ds[i] := by
    rw [List.find?_eq_some_iff_getElem]
    exact ⟨hn, i, hi, rfl, fun k hk => by rw [h _ (List.mem_take_iff_getElem.2 ⟨k, by omega, rfl⟩)]; rfl⟩
  rw [this]; rfl
set_option maxRecDepth 100000 in
set_option maxHeartbeats 3200000 in
theorem rfind_any (ds : List Bd) (n : List UInt8) (hl : ds.length ≤ 1000000) (A : Nat → Prop) (v : Value) (w : World) (hv : IsSl 4 IsBd A w v ds) : Calls Try.prog 21 #[v, .string ⟨n.toArray⟩] w (FindCPost A w (findC ds n)) := by
  have HX := hid hv
  obtain ⟨a, cap, rfl, _⟩ := hv
  obtain ⟨r, hr⟩ : ∃ r, r = findC ds n := ⟨_, rfl⟩
  rw [← hr]
  have HR := hid hr
  clear hr
  obtain ⟨B, hB⟩ : ∃ B, B = w.heap.size := ⟨_, rfl⟩
  have HB := hid hB
  go_enter Try.func21, Try.ntmps21
  go_wp2_with fail
  rw [← hB]
  clear hB
  go_loopw [6] (fun z wr => ∃ (i : Nat), z = .int .i64 (i : Nat) ∧ i ≤ ds.length ∧ Hid (∀ d ∈ ds.take i, (d.name == n) = false) ∧ Hid (Ext none' w wr) ∧ Hid (wr.heap[B]? = some (.cells #[.bool false, .bool false, .slice none 0 0] 26 (0, 0)))) (fun z _ => ds.length - (RowKit.intOf z).toNat)
  case atStart => exact ⟨0, rfl, by omega, hid (fun d hd => by simp at hd), hid ((Ext.refl _ _).alloc _), hid (heap_alloc_at HB.out _)⟩
  case round =>
    obtain ⟨i, rfl, hle, HA, X, G⟩ := hrel
    have f0 := free_at G.out 0
    have f1 := free_at G.out 1
    have f2 := free_at G.out 2
    have e0 := cell_at G.out 0
    have e1 := cell_at G.out 1
    have e2 := cell_at G.out 2
    simp only [List.getElem?_toArray, List.getElem?_cons_zero, List.getElem?_cons_succ] at e0 e1 e2
    by_cases hi : i < ds.length
    · obtain ⟨b, off, cs, rfl, hAb, hbw, hcc, hdf⟩ := ((HX.out.mono (B := and1 A B) isBd_good (and1.down (by have := HB.out; omega))).ext isBd_good X.out fun _ _ h => h.elim).at i hi
      obtain ⟨tv, rfl, htv⟩ := hdf
      have HT := hid htv
      obtain ⟨a2, cap2, rfl, _⟩ := htv
      have c0 := hcc 0 _ rfl
      have c1 := hcc 1 _ rfl
      have c2 := hcc 2 _ rfl
      have c3 := hcc 3 _ rfl
      simp only [Nat.add_zero] at c0
      have htk : ds.take (i + 1) = ds.take i ++ [ds[i]] := by rw [List.take_add_one, List.getElem?_eq_getElem hi]; rfl
      have hat := fun hn => findC_take hi HA.out hn
      have HTK := hid htk
      have HAT := hid hat
      obtain ⟨d, hdd⟩ : ∃ d, ds[i] = d := ⟨_, rfl⟩
      rw [hdd] at c0 c1 c2 c3 HTK HAT HT
      clear hcc htk hat hdd
      obtain ⟨q, hq⟩ : ∃ q, (d.name == n) = q := ⟨_, rfl⟩
      have HQ := hid hq
      cases q with
      | true =>
        go_wp2_with fail
        refine ret_rn2 rfl rfl (set3 G.out _ _ _) rfl rfl ?_
        rw [HR.out, HAT.out HQ.out]
        exact ⟨_, rfl, ⟨_, rfl, (HT.out.ext isTm_good (Ext.self3 _ _ _ _ _) fun _ _ h => .inr h).mono isTm_good fun _ _ h => .inl h⟩, X.out.set3 (b := B) (.inr (by have := HB.out; omega)) _ _ _⟩
      | false =>
        go_wp2_with fail
        go_roundw
        case rel => exact ⟨i + 1, by go_num, by omega, hid (fun x hx => by
          rw [HTK.out] at hx
          rcases List.mem_append.1 hx with hx | hx
          · exact HA.out x hx
          · rw [List.mem_singleton] at hx; subst hx; exact HQ.out), X, G⟩
        case measure => simp [RowKit.intOf]; omega
    · obtain rfl : i = ds.length := by omega
      have e1' : Hid (r = none) := hid (by
        have hA := HA.out
        rw [List.take_length] at hA
        have : ds.find? (fun b => b.name == n) = none := by rw [List.find?_eq_none]; intro x hx; rw [hA x hx]; simp
        rw [HR.out]; unfold findC; rw [this]; rfl)
      go_wp2_with fail
      refine ret_rn2 rfl rfl (set3 G.out _ _ _) rfl rfl ?_
      rw [e1'.out]
      exact ⟨_, rfl, ⟨.slice none 0 0, rfl, IsSl.nil _ _ _ _⟩, X.out.set3 (b := B) (.inr (by have := HB.out; omega)) _ _ _⟩
set_option maxRecDepth 100000 in
set_option maxHeartbeats 3200000 in
/-- told: a constraint is itself. -/
theorem told_any (s : Cn) (hl : s.terms.length ≤ 1000000) (v u : Value) (w : World) (hv : CnV none' w s v) (hu : CnV none' w s u) : Calls Try.prog 22 #[v, u] w (BoolP true w) := by
  obtain ⟨x, rfl, hx⟩ := hv
  obtain ⟨y, rfl, hy⟩ := hu
  have HX := hid hx
  have HY := hid hy
  obtain ⟨a, cap, rfl, _⟩ := hx
  obtain ⟨a', cap', rfl, _⟩ := hy
  obtain ⟨sa, sc, st⟩ := s
  simp only at HX HY hl ⊢
  obtain ⟨B, hB⟩ : ∃ B, B = w.heap.size := ⟨_, rfl⟩
  obtain ⟨W1, hW1⟩ : ∃ W1, W1 = (w.alloc (.cells #[.bool sa, .bool sc, .slice a st.length cap] 45)).alloc (.cells #[.bool sa, .bool sc, .slice a' st.length cap'] 26) := ⟨_, rfl⟩
  have X1 : Hid (Ext none' w W1) := hid (by rw [hW1]; exact ((Ext.refl _ _).alloc _).alloc _)
  have G0 : Hid (W1.heap[B]? = some (.cells #[.bool sa, .bool sc, .slice a st.length cap] 45 (0, 0))) := hid (by rw [hW1]; exact heap_alloc_keep (heap_alloc_at hB _) _)
  have G1 : Hid (W1.heap[B + 1]? = some (.cells #[.bool sa, .bool sc, .slice a' st.length cap'] 26 (0, 0))) := hid (by rw [hW1]; exact heap_alloc_at (by rw [hB]; simp) _)
  have c0 := cell_at G0.out 0
  have c1 := cell_at G0.out 1
  have c2 := cell_at G0.out 2
  have d0 := cell_at G1.out 0
  have d1 := cell_at G1.out 1
  have d2 := cell_at G1.out 2
  simp only [List.getElem?_toArray, List.getElem?_cons_zero, List.getElem?_cons_succ] at c0 c1 c2 d0 d1 d2
  have q1 : (sa != sa) = false := by simp
  have q2 : (sc != sc) = false := by simp
  have q3 : ((st.length : Int) != (st.length : Int)) = false := by simp
  go_enter Try.func22, Try.ntmps22
  go_upto_region 1 with (fail)
  rw [← hB, ← hW1]
  clear hB hW1
  go_wp2_with fail
  go_loopw [5] (fun z wr => ∃ (i : Nat), z = .int .i64 (i : Nat) ∧ i ≤ st.length ∧ Hid (Ext none' W1 wr)) (fun z _ => st.length - (RowKit.intOf z).toNat)
  case atStart => exact ⟨0, rfl, by omega, hid (Ext.refl _ _)⟩
  case round =>
    obtain ⟨i, rfl, hle, X⟩ := hrel
    have c2 := cell_at (X.out.heap G0.out (fun h => h)) 2
    have d2 := cell_at (X.out.heap G1.out (fun h => h)) 2
    simp only [List.getElem?_toArray, List.getElem?_cons_zero, List.getElem?_cons_succ] at c2 d2
    by_cases hi : i < st.length
    · obtain ⟨b, off, cs, rfl, _, hbw, hcc, rfl⟩ := (HX.out.ext isTm_good (X1.out.trans X.out) fun _ _ h => h.elim).at i hi
      obtain ⟨b', off', cs', rfl, _, hbw', hcc', rfl⟩ := (HY.out.ext isTm_good (X1.out.trans X.out) fun _ _ h => h.elim).at i hi
      have hcc := hid hcc
      have hcc' := hid hcc'
      obtain ⟨t, ht⟩ : ∃ t, st[i] = t := ⟨_, rfl⟩
      rw [ht] at hcc hcc'
      have y0 := fun t' : LaterF none' wr => (t'.x.cell (p := ⟨b, off + i * 2, none⟩) hbw (fun h => h)).trans (by simpa using hcc.out 0 _ rfl)
      have y1 := fun t' : LaterF none' wr => (t'.x.cell (p := ⟨b, off + i * 2 + 1, none⟩) hbw (fun h => h)).trans (hcc.out 1 _ rfl)
      have z0 := fun t' : LaterF none' wr => (t'.x.cell (p := ⟨b', off' + i * 2, none⟩) hbw' (fun h => h)).trans (by simpa using hcc'.out 0 _ rfl)
      have z1 := fun t' : LaterF none' wr => (t'.x.cell (p := ⟨b', off' + i * 2 + 1, none⟩) hbw' (fun h => h)).trans (hcc'.out 1 _ rfl)
      have r2 := fun t' : LaterF none' wr => cell_at ((X.out.trans t'.x).heap G0.out (fun h => h)) 2
      have s2 := fun t' : LaterF none' wr => cell_at ((X.out.trans t'.x).heap G1.out (fun h => h)) 2
      simp only [List.getElem?_toArray, List.getElem?_cons_zero, List.getElem?_cons_succ] at r2 s2
      obtain ⟨tt, tn⟩ := t
      simp only at y0 y1 z0 z1
      have q4 : (tt != tt) = false := by simp
      have q5 : (tn == tn) = true := by simp
      clear ht
      go_upto_region 6 with (fail)
      refine region_q none' wr (.qs (List.range 28) .fin) (by kernel_rfl) (by kernel_rfl) (fun dst v c a w h => by cases dst <;> exact h) ?_
      refine ⟨In.of (Ext.refl _ _).drew, ?_⟩
      change wpQuiet _ _ (fun w' => ∃ t : LaterF none' wr, w' = t.w) _ _ _
      simp only [sel, List.range, List.range.loop, List.getElem?_cons_succ, List.getElem?_cons_zero]
      repeat (go_big_quiet_step (fail))
      refine wpQuiet_nil ?_
      simp only [wpTreeQ]
      clear y0 y1 z0 z1 r2 s2
      go_wp2_with fail
      go_roundw
      case rel => exact ⟨i + 1, by go_num, by omega, hid X.out.drew⟩
      case measure => simp [RowKit.intOf]; omega
    · obtain rfl : i = st.length := by omega
      go_wp2_with fail
      go_ret
      exact ⟨rfl, X1.out.trans X.out⟩
end Go.Proofs.Ythoeengfgkfchaa
