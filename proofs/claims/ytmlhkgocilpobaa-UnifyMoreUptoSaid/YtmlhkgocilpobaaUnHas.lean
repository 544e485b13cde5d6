import Derived.Test.YtmlhkgocilpobaaUnBegin
/-
  slices.ContainsFunc over types; unify.Find$1.
-/
namespace Go.Proofs.Ytmlhkgocilpobaa
open Go.RowKit Go.Lib Go.BigFrame
set_option maxRecDepth 100000 in
set_option maxHeartbeats 1600000 in
theorem ity_any (fn : Nat) (caps : Array Value) (p : Ty → Bool) (A : Nat → Prop) (l : List Ty) (v : Value) (w : World) (hl : l.length ≤ 1000000000) (hv : IsSl 3 IsTy A w v l)
    (hst : ∀ (i : Nat) (hi : i < l.length) (w' : World) (x : Value), Ext none' w w' → TyV A w' l[i] x → Calls Try.prog fn (#[x] ++ caps) w' (BoolP (p l[i]) w')) (hfn : ∀ args w, (callFunc fn args).run Try.prog w = .ok (.enter fn args) w) :
    Calls Try.prog 27 #[v, .func (.func fn) #[] caps] w (IntP (fstI p l) w) := by
  obtain ⟨q, hq⟩ : ∃ q, q = fstI p l := ⟨_, rfl⟩
  rw [← hq]
  have HQ := hid hq
  have HV := hid hv
  have HST := hid hst
  obtain ⟨a, cap, rfl, hc, hn, _⟩ := hv
  clear hn hst hq
  go_enter Try.func27, Try.ntmps27
  go_wp2_with fail
  go_loopw [5, 8] (fun _ z wr => ∃ (i : Nat), z = .int .i64 (i : Nat) ∧ i ≤ l.length ∧ Hid (Ext none' w wr ∧ ∀ j (h : j < l.length), j < i → p l[j] = false)) (fun _ z _ => l.length - (RowKit.intOf z).toNat)
  case atStart => exact ⟨0, rfl, by omega, hid ⟨Ext.refl _ _, fun j _ h => by omega⟩⟩
  case round =>
    obtain ⟨i, rfl, hle, R⟩ := hrel
    by_cases hi : i < l.length
    · obtain ⟨b, off, cs, rfl, hAb, hbw, hcc, hty⟩ := (HV.out.ext isTy_good R.out.1 fun _ _ h => h.elim).at i hi
      obtain ⟨x, rfl, hx⟩ := hty.parts
      have c0 := hcc 0 _ rfl
      have c1 := hcc 1 _ rfl
      have c2 := hcc 2 _ rfl
      simp only [Nat.add_zero] at c0
      have HX := hid hx
      obtain ⟨a1, cap1, rfl, _⟩ := hx
      have HR := hid R.out
      obtain ⟨bb, hbb⟩ : ∃ bb, p l[i] = bb := ⟨_, rfl⟩
      have HBB := hid hbb
      have C2 : Hid (Calls Try.prog fn (#[.agg #[.int .i64 l[i].kind, .string ⟨l[i].name.toArray⟩, .slice a1 l[i].args.length cap1]] ++ caps) wr (BoolP bb wr)) := hid (by rw [← hbb]; exact HST.out i hi wr _ R.out.1 ⟨_, rfl, HX.out⟩)
      clear hbb R hcc hty
      go_wp2_with fail
      refine C2.out.mono ?_
      rintro e w2 ⟨rfl, X2⟩
      have HX2 := hid (HR.out.1.trans X2)
      clear X2
      cases bb with
      | true =>
        have E : Hid (q = (i : Nat)) := hid (by rw [HQ.out]; exact fstI_at hi HBB.out HR.out.2)
        go_wp2_with fail
        go_ret
        exact ⟨by rw [E.out]; rfl, HX2.out⟩
      | false =>
        go_wp2_with fail
        go_roundw
        case rel => exact ⟨i + 1, by go_num, by omega, hid ⟨HX2.out, fun j hj hji => by
            by_cases q : j = i
            · subst q; exact HBB.out
            · exact HR.out.2 j hj (by omega)⟩⟩
        case measure => simp [RowKit.intOf]; omega
    · obtain rfl : i = l.length := by omega
      have E : Hid (q = -1) := hid (by rw [HQ.out]; exact fstI_none fun j hj => R.out.2 j hj hj)
      have HX := hid R.out.1
      clear R
      go_wp2_with fail
      go_ret
      exact ⟨by rw [E.out]; rfl, HX.out⟩
theorem cty_any (fn : Nat) (caps : Array Value) (p : Ty → Bool) (A : Nat → Prop) (l : List Ty) (v : Value) (w : World) (hl : l.length ≤ 1000000000) (hv : IsSl 3 IsTy A w v l)
    (hst : ∀ (i : Nat) (hi : i < l.length) (w' : World) (x : Value), Ext none' w w' → TyV A w' l[i] x → Calls Try.prog fn (#[x] ++ caps) w' (BoolP (p l[i]) w')) (hfn : ∀ args w, (callFunc fn args).run Try.prog w = .ok (.enter fn args) w) :
    Calls Try.prog 19 #[v, .func (.func fn) #[] caps] w (BoolP (hasI p l) w) := by
  have C := hid (ity_any fn caps p A l v w hl hv hst hfn)
  obtain ⟨a, cap, rfl, _⟩ := hv
  unfold hasI
  obtain ⟨z, hz⟩ : ∃ z, fstI p l = z := ⟨_, rfl⟩
  rw [hz] at C ⊢
  clear hz hst
  go_enter Try.func19, Try.ntmps19
  go_wp2_with fail
  refine C.out.mono ?_
  rintro e w1 ⟨rfl, X1⟩
  have X1 := hid X1
  go_wp2_with fail
  go_ret
  exact ⟨rfl, X1.out⟩
theorem enter_find1u : ∀ args w, (callFunc 20 args).run Try.prog w = .ok (.enter 20 args) w := Go.Proofs.enters_of Try.func20 (by kernel_rfl) rfl
set_option maxRecDepth 100000 in
theorem none1_any (t : Ty) (A : Nat → Prop) (v : Value) (w : World) (hv : TyV A w t v) : Calls Try.prog 20 #[v] w (BoolP (t.kind == 0) w) := by
  obtain ⟨x, rfl, hx⟩ := hv
  obtain ⟨a1, cap1, rfl, _⟩ := hx
  go_enter Try.func20, Try.ntmps20
  go_wp2_with fail
  go_ret
  exact ⟨rfl, (Ext.refl _ _).alloc _⟩
end Go.Proofs.Ytmlhkgocilpobaa
