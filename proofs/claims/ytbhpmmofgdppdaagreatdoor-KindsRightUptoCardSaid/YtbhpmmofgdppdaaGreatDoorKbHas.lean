import Derived.Test.YtbhpmmofgdppdaaGreatDoorKbTurn
/-
  slices.ContainsFunc over types; kinds: whole, inner, basic.
-/
namespace Go.Proofs.YtbhpmmofgdppdaaGreatDoor
open Go.RowKit Go.Lib Go.BigFrame
set_option maxRecDepth 100000 in
set_option maxHeartbeats 1600000 in
theorem ity_any (fn : Nat) (caps : Array Value) (p : Ty → Bool) (A : Nat → Prop) (l : List Ty) (v : Value) (w : World) (hl : l.length ≤ 100000000000) (hv : IsSl 3 IsTy A w v l)
    (hst : ∀ (i : Nat) (hi : i < l.length) (w' : World) (x : Value), Ext none' w w' → TyV A w' l[i] x → Calls Tryz.prog fn (#[x] ++ caps) w' (BoolP (p l[i]) w')) (hfn : ∀ args w, (callFunc fn args).run Tryz.prog w = .ok (.enter fn args) w) :
    Calls Tryz.prog 95 #[v, .func (.func fn) #[] caps] w (IntP (fstI p l) w) := by
  obtain ⟨q, hq⟩ : ∃ q, q = fstI p l := ⟨_, rfl⟩
  rw [← hq]
  have HQ := hid hq
  have HV := hid hv
  have HST := hid hst
  obtain ⟨a, cap, rfl, hc, hn, _⟩ := hv
  clear hn hst hq
  go_enter Tryz.func95, Tryz.ntmps95
  go_wp2_with fail
  go_loopw [5, 8] (fun _ z wr => ∃ (i : Nat), z = .int .i64 (i : Nat) ∧ i ≤ l.length ∧ Hid (Ext none' w wr ∧ ∀ j (h : j < l.length), j < i → p l[j] = false)) (fun _ z _ => l.length - (RowKit.intOf z).toNat)
  case atStart => exact ⟨0, rfl, by omega, hid ⟨Ext.refl _ _, fun j _ h => by omega⟩⟩
  case round =>
    obtain ⟨i, rfl, hle, R⟩ := hrel
    by_cases hi : i < l.length
    · obtain ⟨b, off, cs, rfl, hAb, hbw, hcc, hty⟩ := (HV.out.ext isTy_good R.out.1 fun _ _ h => h.elim).at i hi
      obtain ⟨x, rfl, hx⟩ := hty.parts
      have c0 := hcc 0 _ rfl
      have c1 := hcc 1 _ rfl
      have c2 := hcc 2 _ rfl
      simp only [Nat.add_zero] at c0
      have HX := hid hx
      obtain ⟨a1, cap1, rfl, _⟩ := hx
      have HR := hid R.out
      obtain ⟨bb, hbb⟩ : ∃ bb, p l[i] = bb := ⟨_, rfl⟩
      have HBB := hid hbb
      have C2 : Hid (Calls Tryz.prog fn (#[.agg #[.int .i64 l[i].kind, .string ⟨l[i].name.toArray⟩, .slice a1 l[i].args.length cap1]] ++ caps) wr (BoolP bb wr)) := hid (by rw [← hbb]; exact HST.out i hi wr _ R.out.1 ⟨_, rfl, HX.out⟩)
      clear hbb R hcc hty
      go_wp2_with fail
      refine C2.out.mono ?_
      rintro e w2 ⟨rfl, X2⟩
      have HX2 := hid (HR.out.1.trans X2)
      clear X2
      cases bb with
      | true =>
        have E : Hid (q = (i : Nat)) := hid (by rw [HQ.out]; exact fstI_at hi HBB.out HR.out.2)
        go_wp2_with fail
        go_ret
        exact ⟨by rw [E.out]; rfl, HX2.out⟩
      | false =>
        go_wp2_with fail
        go_roundw
        case rel => exact ⟨i + 1, by go_num, by omega, hid ⟨HX2.out, fun j hj hji => by
            by_cases q : j = i
            · subst q; exact HBB.out
            · exact HR.out.2 j hj (by omega)⟩⟩
        case measure => simp [RowKit.intOf]; omega
    · obtain rfl : i = l.length := by omega
      have E : Hid (q = -1) := hid (by rw [HQ.out]; exact fstI_none fun j hj => R.out.2 j hj hj)
      have HX := hid R.out.1
      clear R
      go_wp2_with fail
      go_ret
      exact ⟨by rw [E.out]; rfl, HX.out⟩
theorem cty_any (fn : Nat) (caps : Array Value) (p : Ty → Bool) (A : Nat → Prop) (l : List Ty) (v : Value) (w : World) (hl : l.length ≤ 100000000000) (hv : IsSl 3 IsTy A w v l)
    (hst : ∀ (i : Nat) (hi : i < l.length) (w' : World) (x : Value), Ext none' w w' → TyV A w' l[i] x → Calls Tryz.prog fn (#[x] ++ caps) w' (BoolP (p l[i]) w')) (hfn : ∀ args w, (callFunc fn args).run Tryz.prog w = .ok (.enter fn args) w) :
    Calls Tryz.prog 81 #[v, .func (.func fn) #[] caps] w (BoolP (l.any p) w) := by
  have C := hid (ity_any fn caps p A l v w hl hv hst hfn)
  obtain ⟨a, cap, rfl, _⟩ := hv
  rw [← any_fst]
  obtain ⟨z, hz⟩ : ∃ z, fstI p l = z := ⟨_, rfl⟩
  rw [hz] at C ⊢
  clear hz hst
  go_enter Tryz.func81, Tryz.ntmps81
  go_wp2_with fail
  refine C.out.mono ?_
  rintro e w1 ⟨rfl, X1⟩
  have X1 := hid X1
  go_wp2_with fail
  go_ret
  exact ⟨rfl, X1.out⟩
set_option maxRecDepth 100000 in
theorem whole1_any (t : Ty) (A : Nat → Prop) (v : Value) (w : World) (hv : TyV A w t v) : Calls Tryz.prog 82 #[v] w (BoolP (t.kind == 0) w) := by
  obtain ⟨x, rfl, hx⟩ := hv
  obtain ⟨a1, cap1, rfl, _⟩ := hx
  go_enter Tryz.func82, Tryz.ntmps82
  go_wp2_with fail
  go_ret
  exact ⟨rfl, (Ext.refl _ _).alloc _⟩
set_option maxRecDepth 100000 in
set_option maxHeartbeats 1600000 in
/-- A type all of whose parts are some, stays. -/
theorem whole_any (t : Ty) (hl : t.args.length ≤ 100000000000) (hne : ∀ x ∈ t.args, x.kind ≠ 0) (A : Nat → Prop) (v : Value) (w : World) (hv : TyV A w t v) : Calls Tryz.prog 53 #[v] w (TyPA A w t) := by
  obtain ⟨x, rfl, hx⟩ := hv
  have HX := hid hx
  have CC := hid fun W (X : Ext none' w W) => cty_any 82 #[] (fun x => x.kind == 0) A t.args x W hl (HX.out.ext isTy_good X fun _ _ h => h.elim) (fun i hi w' y X' hy => whole1_any _ A y w' hy) (Go.Proofs.enters_of Tryz.func82 (by kernel_rfl) rfl)
  have hany : (t.args.any fun x => x.kind == 0) = false := by rw [List.any_eq_false]; intro x hx; simpa using hne x hx
  rw [hany] at CC
  obtain ⟨a1, cap1, rfl, _⟩ := hx
  clear hany hne
  go_enter Tryz.func53, Tryz.ntmps53
  go_wp2_with fail
  obtain ⟨B, hB⟩ : ∃ B, B = w.heap.size := ⟨_, rfl⟩
  obtain ⟨W0, hW0⟩ : ∃ W0, W0 = (w.alloc (.cells #[.int .i64 t.kind, .string ⟨t.name.toArray⟩, .slice a1 t.args.length cap1] 32)).alloc (.cells #[.int .i64 0, .string ⟨#[]⟩, .slice none 0 0] 32) := ⟨_, rfl⟩
  rw [← hW0, ← hB]
  have X0 : Ext none' w W0 := by rw [hW0]; exact ((Ext.refl _ _).alloc _).alloc _
  have g0 : W0.heap[B]? = some (.cells #[.int .i64 t.kind, .string ⟨t.name.toArray⟩, .slice a1 t.args.length cap1] 32 (0, 0)) := by rw [hW0]; exact heap_alloc_keep (heap_alloc_at hB _) _
  have g1 : W0.heap[B + 1]? = some (.cells #[.int .i64 0, .string ⟨#[]⟩, .slice none 0 0] 32 (0, 0)) := by rw [hW0]; exact heap_alloc_at (by rw [hB]; simp) _
  have HB := hid hB
  clear hW0 hB
  refine (CC.out W0 X0).mono ?_
  rintro e W1 ⟨rfl, X1⟩
  have G0 := hid (X1.heap g0 fun h => h)
  have G1 := hid (X1.heap g1 fun h => h)
  have X1 := hid (X0.trans X1)
  have c0 := cell_at G0.out 0
  have c1 := cell_at G0.out 1
  have c2 := cell_at G0.out 2
  have f0 := free_at G1.out 0
  have f1 := free_at G1.out 1
  have f2 := free_at G1.out 2
  have e0 := cell_at G1.out 0
  have e1 := cell_at G1.out 1
  have e2 := cell_at G1.out 2
  simp only [List.getElem?_toArray, List.getElem?_cons_zero, List.getElem?_cons_succ] at c0 c1 c2 e0 e1 e2
  clear g0 g1 X0
  go_wp2_with fail
  refine ret_ty rfl rfl (set3 G1.out _ _ _) rfl ?_
  exact ⟨_, rfl, TyV.stored (((HX.out.mono (B := and1 A (B + 1)) isTy_good (and1.down (by have := HB.out; omega))).ext isTy_good X1.out fun _ _ h => h.elim)) _ _ _, X1.out.set3 (b := B + 1) (.inr (by have := HB.out; omega)) _ _ _⟩
set_option maxRecDepth 100000 in
set_option maxHeartbeats 1600000 in
theorem inner_any (D : Nd → Prop) (g : Nd → Ty) (n : Nd) (hk : 0 < n.kids.length) (hD : D (n.kid 0)) (A : Nat → Prop) (v f : Value) (w : World) (hA : ∀ b, A b → b < w.heap.size) (hv : NdV none' w n v) (hf : TyTell D g w f) : Calls Tryz.prog 60 #[v, f] w (TyPA A w (g (n.kid 0))) := by
  obtain ⟨x, rfl, hx⟩ := hv
  have HX := hid hx
  obtain ⟨a1, cap1, rfl, _⟩ := hx
  obtain ⟨fn, caps, rfl, hfn, hst⟩ := hf
  have CC := hid fun W (X : Ext none' w W) B hB y hy => hst (n.kid 0) hD B W y X hB hy
  have HA := hid hA
  have z1 : (0 : Int) < (n.kids.length : Int) := by omega
  have z2 : ((n.kids.length : Int) == 0) = false := by simp only [beq_eq_false_iff_ne]; omega
  obtain ⟨r, hr⟩ : ∃ r, g (n.kid 0) = r := ⟨_, rfl⟩
  rw [hr] at CC ⊢
  clear hst hD hA hr
  go_enter Tryz.func60, Tryz.ntmps60
  go_upto_region 3 with (fail)
  obtain ⟨B, hB⟩ : ∃ B, B = w.heap.size := ⟨_, rfl⟩
  obtain ⟨W0, hW0⟩ : ∃ W0, W0 = (w.alloc (.cells #[.int .i64 n.kind, .string ⟨n.text.toArray⟩, .slice a1 n.kids.length cap1, .int .i64 n.pos] 49)).alloc (.cells #[.int .i64 0, .string ⟨#[]⟩, .slice none 0 0] 32) := ⟨_, rfl⟩
  rw [← hW0, ← hB]
  have X0 := hid (show Ext none' w W0 by rw [hW0]; exact ((Ext.refl _ _).alloc _).alloc _)
  have g0 : W0.heap[B]? = some (.cells #[.int .i64 n.kind, .string ⟨n.text.toArray⟩, .slice a1 n.kids.length cap1, .int .i64 n.pos] 49 (0, 0)) := by rw [hW0]; exact heap_alloc_keep (heap_alloc_at hB _) _
  have G1 := hid (show W0.heap[B + 1]? = some (.cells #[.int .i64 0, .string ⟨#[]⟩, .slice none 0 0] 32 (0, 0)) by rw [hW0]; exact heap_alloc_at (by rw [hB]; simp) _)
  have HB := hid hB
  obtain ⟨b, off, x0, rfl, hbw, k0, k1, k2, k3, hx0⟩ := kid_val (HX.out.ext isNd_good X0.out fun _ _ h => h) 0 hk
  simp only [Nat.zero_mul, Nat.add_zero] at k0 k1 k2 k3
  have HX0 := hid hx0
  obtain ⟨a2, cap2, rfl, _⟩ := hx0
  have c2 := cell_at g0 2
  simp only [List.getElem?_toArray, List.getElem?_cons_zero, List.getElem?_cons_succ] at c2
  clear hW0 hB g0
  go_wp2_with fail
  refine (CC.out W0 X0.out (and1 A (B + 1)) (and1.lt HA.out X0.out.size (heap_lt G1.out)) _ ⟨_, rfl, HX0.out⟩).mono ?_
  rintro e W1 ⟨u, rfl, hu, X1⟩
  have HU := hid hu
  obtain ⟨y, rfl, hy⟩ := hu
  have HY := hid hy
  obtain ⟨a3, cap3, rfl, _⟩ := hy
  have G1 := hid (X1.heap G1.out fun h => h)
  have X1 := hid (X0.out.trans X1)
  have f0 := free_at G1.out 0
  have f1 := free_at G1.out 1
  have f2 := free_at G1.out 2
  have e0 := cell_at G1.out 0
  have e1 := cell_at G1.out 1
  have e2 := cell_at G1.out 2
  simp only [List.getElem?_toArray, List.getElem?_cons_zero, List.getElem?_cons_succ] at e0 e1 e2
  clear k0 k1 k2 k3 c2
  go_wp2_with fail
  refine ret_ty rfl rfl (set3 G1.out _ _ _) rfl ?_
  exact ⟨_, rfl, TyV.stored HY.out _ _ _, X1.out.set3 (b := B + 1) (.inr (by have := HB.out; omega)) _ _ _⟩
set_option maxRecDepth 100000 in
theorem basic_any (s : List UInt8) (w : World) : Calls Tryz.prog 52 #[.string ⟨s.toArray⟩] w (BoolP (basicK s) w) := by
  show Calls Tryz.prog 52 #[_] w (BoolP (s == [105, 110, 116] || (s == [115, 116, 114, 105, 110, 103] || s == [98, 111, 111, 108])) w)
  obtain ⟨q1, h1⟩ : ∃ q, (s == [105, 110, 116]) = q := ⟨_, rfl⟩
  obtain ⟨q2, h2⟩ : ∃ q, (s == [115, 116, 114, 105, 110, 103]) = q := ⟨_, rfl⟩
  obtain ⟨q3, h3⟩ : ∃ q, (s == [98, 111, 111, 108]) = q := ⟨_, rfl⟩
  rw [h1, h2, h3]
  cases q1 <;> cases q2
  all_goals
    go_enter Tryz.func52, Tryz.ntmps52
    go_wp2_with fail
    go_ret
    exact ⟨rfl, Ext.refl _ _⟩
end Go.Proofs.YtbhpmmofgdppdaaGreatDoor
