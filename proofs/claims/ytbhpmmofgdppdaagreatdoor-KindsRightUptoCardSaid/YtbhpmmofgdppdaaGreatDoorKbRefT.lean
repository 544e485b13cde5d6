import Derived.Test.YtbhpmmofgdppdaaGreatDoorKbRef
/-
  demoticref06.Type: is it a type?
-/
namespace Go.Proofs.YtbhpmmofgdppdaaGreatDoor
open Go.RowKit Go.Lib Go.BigFrame
set_option maxRecDepth 100000 in
set_option maxHeartbeats 3200000 in
theorem rtype_any : ∀ (f : Nat), f ≤ bigD → RTyH f (tyF nmB f) := by
  intro f
  induction f with
  | zero => intro _ t ht; have := t.size_pos; omega
  | succ f ih =>
    intro hf t ht v w hv
    have H := ih (by omega)
    have CS := hid fun W v' (hv' : NdV none' W t v') => rsig_any f hf (tyF nmB f) H false t ht v' W hv'
    have CM := hid fun W => rnm_any t.text W
    have HV := hid hv
    obtain ⟨x, rfl, hx⟩ := hv
    have HX := hid hx
    obtain ⟨a1, cap1, rfl, _⟩ := hx
    obtain ⟨r, hr⟩ : ∃ r, r = tyF nmB (f + 1) t := ⟨_, rfl⟩
    rw [← hr]
    rw [tyF, ← soB_false] at hr
    have HR := hid hr
    have HT := hid ht
    have HH := hid H
    have hkb : t.kids.length ≤ 20000000000 := by have := t.kids_len; unfold bigD at hf; omega
    obtain ⟨qn, hqn⟩ : ∃ q, nmB t.text = q := ⟨_, rfl⟩
    rw [hqn] at CM HR
    obtain ⟨qs, hqs⟩ : ∃ q, sigB (tyF nmB f) (soB false) t = q := ⟨_, rfl⟩
    rw [hqs] at CS HR
    obtain ⟨tk, htk⟩ : ∃ k, t.kind = k := ⟨_, rfl⟩
    rw [htk] at HR HV ⊢
    have HTK := hid htk
    obtain ⟨B, hB⟩ : ∃ B, B = w.heap.size := ⟨_, rfl⟩
    obtain ⟨W1, hW1⟩ : ∃ W1, W1 = w.alloc (.cells #[.int .i64 tk, .string ⟨t.text.toArray⟩, .slice a1 t.kids.length cap1, .int .i64 t.pos] 49) := ⟨_, rfl⟩
    have X1 := hid (show Ext none' w W1 by rw [hW1]; exact (Ext.refl _ _).alloc _)
    have G0 := hid (show W1.heap[B]? = some (.cells #[.int .i64 tk, .string ⟨t.text.toArray⟩, .slice a1 t.kids.length cap1, .int .i64 t.pos] 49 (0, 0)) by rw [hW1]; exact heap_alloc_at hB _)
    clear hr ht H hqn hqs htk ih
    go_enter Tryz.func43, Tryz.ntmps43
    go_upto_region 1 with (fail)
    rw [← hW1, ← hB]
    clear hW1 hB
    have c0 := cell_at G0.out 0
    have c1 := cell_at G0.out 1
    have c2 := cell_at G0.out 2
    have c3 := cell_at G0.out 3
    simp only [List.getElem?_toArray, List.getElem?_cons_zero, List.getElem?_cons_succ] at c0 c1 c2 c3
    have HV1 := hid (HV.out.ext X1.out fun _ _ h => h)
    by_cases h10 : tk = 10
    · have q10 : (tk == 10) = true := by simpa using h10
      have HR1 := hid (show r = (qn && t.kids.all (tyF nmB f)) by rw [HR.out, if_pos h10])
      clear h10
      go_wp2_with fail
      refine (CM.out _).mono ?_
      rintro e W2 ⟨rfl, X2⟩
      have X2 := hid X2
      clear c0 c1 c2 c3
      cases qn
      case false =>
        have E := hid (show r = false by rw [HR1.out]; rfl)
        go_wp2_with fail
        go_ret
        exact ⟨by rw [E.out]; rfl, X1.out.trans X2.out⟩
      go_wp2_with fail
      go_loopw [3] (fun z wr => ∃ (i : Nat), z = .int .i64 (i : Nat) ∧ i ≤ t.kids.length ∧ Hid (Ext none' W1 wr ∧ ∀ j (h : j < t.kids.length), j < i → tyF nmB f t.kids[j] = true)) (fun z _ => t.kids.length - (RowKit.intOf z).toNat)
      case atStart => exact ⟨0, rfl, by omega, hid ⟨X2.out, fun j _ h => by omega⟩⟩
      case round =>
        obtain ⟨i, rfl, hle, RR⟩ := hrel
        have c2 := cell_at (RR.out.1.heap G0.out fun h => h) 2
        simp only [List.getElem?_toArray, List.getElem?_cons_zero, List.getElem?_cons_succ] at c2
        have XR := hid (X1.out.trans RR.out.1)
        by_cases hi : i < t.kids.length
        · obtain ⟨b5, off5, cs5, rfl, _, hw5, hcc5, ht5⟩ := (HX.out.ext isNd_good XR.out fun _ _ h => h).at i hi
          obtain ⟨x5, rfl, hx5⟩ := ht5.parts
          have d0 := hcc5 0 _ rfl
          have d1 := hcc5 1 _ rfl
          have d2 := hcc5 2 _ rfl
          have d3 := hcc5 3 _ rfl
          simp only [Nat.add_zero] at d0
          have hmem := List.getElem_mem hi
          have HX5 := hid hx5
          obtain ⟨a6, cap6, rfl, _⟩ := hx5
          have CQ := hid (HH.out t.kids[i] (by have := Nd.size_kid hmem; have := HT.out; omega) (.agg #[.int .i64 t.kids[i].kind, .string ⟨t.kids[i].text.toArray⟩, .slice a6 t.kids[i].kids.length cap6, .int .i64 t.kids[i].pos]) wr ⟨_, rfl, HX5.out⟩)
          obtain ⟨q, hq⟩ : ∃ q, tyF nmB f t.kids[i] = q := ⟨_, rfl⟩
          rw [hq] at CQ
          have HQ := hid hq
          have HM := hid hmem
          obtain ⟨p, hp⟩ : ∃ p, t.kids[i] = p := ⟨_, rfl⟩
          rw [hp] at d0 d1 d2 d3 CQ
          clear hcc5 ht5 hq hmem hp HX5
          go_wp2_with fail
          refine CQ.out.mono ?_
          rintro e W5 ⟨rfl, X5⟩
          have X5' := hid (RR.out.1.trans X5)
          clear c2 d0 d1 d2 d3 X5
          cases q
          case false =>
            have E : Hid (r = false) := hid (by rw [HR1.out, Bool.true_and, List.all_eq_false]; exact ⟨_, HM.out, by rw [HQ.out]; simp⟩)
            go_wp2_with fail
            go_ret
            exact ⟨by rw [E.out]; rfl, X1.out.trans X5'.out⟩
          have N : Hid (Ext none' W1 W5 ∧ ∀ j (h : j < t.kids.length), j < i + 1 → tyF nmB f t.kids[j] = true) := hid ⟨X5'.out, fun j h hj => by
            by_cases e : j = i
            · subst e; exact HQ.out
            · exact RR.out.2 j h (by omega)⟩
          go_wp2_with fail
          go_roundw
          case rel => exact ⟨i + 1, by go_num, by omega, N⟩
          case measure => simp [RowKit.intOf]; omega
        · have E : Hid (r = true) := hid (by
            rw [HR1.out, Bool.true_and, List.all_eq_true]
            intro y hy
            obtain ⟨j, hj, rfl⟩ := List.mem_iff_getElem.1 hy
            exact RR.out.2 j hj (by omega))
          obtain rfl : i = t.kids.length := by omega
          go_wp2_with fail
          go_ret
          exact ⟨by rw [E.out]; rfl, XR.out⟩
    · have q10 : (tk == 10) = false := by simpa using h10
      by_cases h11 : tk = 11
      · have q11 : (tk == 11) = true := by simpa using h11
        have HR1 := hid (show r = ofB 11 [tyF nmB f] t by rw [HR.out, if_neg h10, if_pos h11])
        have HK := hid (show (t.kind == 11) = true by rw [HTK.out]; exact q11)
        clear h10 h11
        obtain ⟨tx, htx⟩ : ∃ k, t.text = k := ⟨_, rfl⟩
        rw [htx] at c1 ⊢
        have HTX := hid htx
        clear htx
        by_cases hx0 : tx = []
        case neg =>
          have q : tx.isEmpty = false := by simpa using hx0
          have E : Hid (r = false) := hid (by
            rw [HR1.out]; unfold ofB
            have : (t.text == []) = false := by rw [HTX.out]; simpa using hx0
            rw [this]; simp)
          clear hx0
          go_wp2_with fail
          go_ret
          exact ⟨by rw [E.out]; rfl, X1.out⟩
        have qx : tx.isEmpty = true := by simpa using hx0
        by_cases hl : t.kids.length = 1
        case neg =>
          have q : ((t.kids.length : Int) == 1) = false := by simp only [beq_eq_false_iff_ne]; omega
          have E : Hid (r = false) := hid (by rw [HR1.out]; unfold ofB; rw [kidsB_no (by simpa using hl), Bool.and_false])
          clear hx0 hl
          go_wp2_with fail
          go_ret
          exact ⟨by rw [E.out]; rfl, X1.out⟩
        have ql : ((t.kids.length : Int) == 1) = true := by simp only [beq_iff_eq]; omega
        have y0 : (0 : Int) < (t.kids.length : Int) := by omega
        obtain ⟨b, off, x0, rfl, hbw, k0, k1, k2, k3, hx0'⟩ := kid_val (HX.out.ext isNd_good X1.out fun _ _ h => h) 0 (by omega)
        simp only [Nat.zero_mul, Nat.add_zero] at k0 k1 k2 k3
        have HX0 := hid hx0'
        obtain ⟨a2, cap2, rfl, _⟩ := hx0'
        have CQ := hid (HH.out (t.kid 0) (by have := Nd.size_kid (kid_mem (t := t) (i := 0) (by omega)); have := HT.out; omega) (.agg #[.int .i64 (t.kid 0).kind, .string ⟨(t.kid 0).text.toArray⟩, .slice a2 (t.kid 0).kids.length cap2, .int .i64 (t.kid 0).pos]) W1 ⟨_, rfl, HX0.out⟩)
        have HR2 := hid (show r = tyF nmB f (t.kid 0) by
          have := namB_one (so := noT) (ty := tyF nmB f) (k := 11) hl
          rw [HR1.out, show ofB 11 [tyF nmB f] t = namB noT 11 [tyF nmB f] t from rfl, this, HK.out]
          unfold noT
          rw [HTX.out, hx0]; rfl)
        obtain ⟨q, hq⟩ : ∃ q, tyF nmB f (t.kid 0) = q := ⟨_, rfl⟩
        rw [hq] at CQ HR2
        obtain ⟨p, hp⟩ : ∃ p, t.kid 0 = p := ⟨_, rfl⟩
        rw [hp] at k0 k1 k2 k3 CQ
        clear hx0 hl hq hp
        go_wp2_with fail
        refine CQ.out.mono ?_
        rintro e W2 ⟨rfl, X2⟩
        have X2 := hid X2
        clear c0 c1 c2 c3 k0 k1 k2 k3
        go_wp2_with fail
        go_ret
        exact ⟨by rw [HR2.out]; rfl, X1.out.trans X2.out⟩
      · have q11 : (tk == 11) = false := by simpa using h11
        by_cases h12 : tk = 12
        · have q12 : (tk == 12) = true := by simpa using h12
          have HR1 := hid (show r = qs by rw [HR.out, if_neg h10, if_neg h11, if_pos h12])
          clear h10 h11 h12
          go_wp2_with fail
          refine (CS.out _ _ HV1.out).mono ?_
          rintro e W2 ⟨rfl, X2⟩
          have X2 := hid X2
          clear c0 c1 c2 c3
          go_wp2_with fail
          go_ret
          exact ⟨by rw [HR1.out]; rfl, X1.out.trans X2.out⟩
        · have q12 : (tk == 12) = false := by simpa using h12
          have E := hid (show r = false by rw [HR.out, if_neg h10, if_neg h11, if_neg h12])
          clear h10 h11 h12
          go_wp2_with fail
          go_ret
          exact ⟨by rw [E.out]; rfl, X1.out⟩
end Go.Proofs.YtbhpmmofgdppdaaGreatDoor
