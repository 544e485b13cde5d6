import Derived.Test.YthoeengfgkfchaaSeMap
namespace Go.Proofs.Ythoeengfgkfchaa
open Go.RowKit Go.Lib Go.BigFrame
def IsTm : Lay Tm := fun _ _ t cs => cs = [.bool t.tilde, .string ⟨t.name.toArray⟩]
theorem isTm_good : Good 2 IsTm where
  len h := by subst h; rfl
  one h := by subst h; intro u hu; simp at hu; rcases hu with rfl | rfl <;> rfl
  ext h _ _ := h
  mono h _ := h
def CnV (A : Nat → Prop) (w : World) (s : Cn) (v : Value) : Prop := ∃ x, v = .agg #[.bool s.all, .bool s.cmp, x] ∧ IsSl 2 IsTm A w x s.terms
def IsBd : Lay Bd := fun A w b cs => ∃ x, cs = [.string ⟨b.name.toArray⟩, .bool b.set.all, .bool b.set.cmp, x] ∧ IsSl 2 IsTm A w x b.set.terms
theorem isBd_good : Good 4 IsBd where
  len h := by obtain ⟨_, rfl, _⟩ := h; rfl
  one h := by
    obtain ⟨_, rfl, h1⟩ := h
    intro u hu
    simp at hu
    rcases hu with rfl | rfl | rfl | rfl
    · rfl
    · rfl
    · rfl
    · exact h1.oneCell
  ext h x hF := by
    obtain ⟨v, rfl, h1⟩ := h
    exact ⟨v, rfl, h1.ext isTm_good x hF⟩
  mono h hB := by
    obtain ⟨v, rfl, h1⟩ := h
    exact ⟨v, rfl, h1.mono isTm_good hB⟩
abbrev TmVal (t : Tm) : Value := .agg #[.bool t.tilde, .string ⟨t.name.toArray⟩]
set_option maxRecDepth 100000 in
set_option maxHeartbeats 1600000 in
theorem iterm_any (fn : Nat) (caps : Array Value) (p : Tm → Bool) (A : Nat → Prop) (l : List Tm) (v : Value) (w : World) (hl : l.length ≤ 1000000000) (hv : IsSl 2 IsTm A w v l)
    (hst : ∀ (i : Nat) (hi : i < l.length) (w' : World), Ext none' w w' → Calls Try.prog fn (#[TmVal l[i]] ++ caps) w' (BoolP (p l[i]) w')) (hfn : ∀ args w, (callFunc fn args).run Try.prog w = .ok (.enter fn args) w) :
    Calls Try.prog 40 #[v, .func (.func fn) #[] caps] w (IntP (fstI p l) w) := by
  obtain ⟨q, hq⟩ : ∃ q, q = fstI p l := ⟨_, rfl⟩
  rw [← hq]
  have HQ := hid hq
  have HV := hid hv
  have HST := hid hst
  obtain ⟨a, cap, rfl, hc, hn, _⟩ := hv
  clear hn hst hq
  go_enter Try.func40, Try.ntmps40
  go_wp2_with fail
  go_loopw [5, 8] (fun _ z wr => ∃ (i : Nat), z = .int .i64 (i : Nat) ∧ i ≤ l.length ∧ Hid (Ext none' w wr ∧ ∀ j (h : j < l.length), j < i → p l[j] = false)) (fun _ z _ => l.length - (RowKit.intOf z).toNat)
  case atStart => exact ⟨0, rfl, by omega, hid ⟨Ext.refl _ _, fun j _ h => by omega⟩⟩
  case round =>
    obtain ⟨i, rfl, hle, R⟩ := hrel
    by_cases hi : i < l.length
    · obtain ⟨b, off, cs, rfl, hAb, hbw, hcc, rfl⟩ := (HV.out.ext isTm_good R.out.1 fun _ _ h => h.elim).at i hi
      have c0 := hcc 0 _ rfl
      have c1 := hcc 1 _ rfl
      simp only [Nat.add_zero] at c0
      have HR := hid R.out
      obtain ⟨bb, hbb⟩ : ∃ bb, p l[i] = bb := ⟨_, rfl⟩
      have HBB := hid hbb
      have C2 : Hid (Calls Try.prog fn (#[TmVal l[i]] ++ caps) wr (BoolP bb wr)) := hid (by rw [← hbb]; exact HST.out i hi wr R.out.1)
      clear hbb R hcc
      go_wp2_with fail
      refine C2.out.mono ?_
      rintro e w2 ⟨rfl, X2⟩
      have HX2 := hid (HR.out.1.trans X2)
      clear X2
      cases bb with
      | true =>
        have E : Hid (q = (i : Nat)) := hid (by rw [HQ.out]; exact fstI_at hi HBB.out HR.out.2)
        go_wp2_with fail
        go_ret
        exact ⟨by rw [E.out]; rfl, HX2.out⟩
      | false =>
        go_wp2_with fail
        go_roundw
        case rel => exact ⟨i + 1, by go_num, by omega, hid ⟨HX2.out, fun j hj hji => by
            by_cases q : j = i
            · subst q; exact HBB.out
            · exact HR.out.2 j hj (by omega)⟩⟩
        case measure => simp [RowKit.intOf]; omega
    · obtain rfl : i = l.length := by omega
      have E : Hid (q = -1) := hid (by rw [HQ.out]; exact fstI_none fun j hj => R.out.2 j hj hj)
      have HX := hid R.out.1
      clear R
      go_wp2_with fail
      go_ret
      exact ⟨by rw [E.out]; rfl, HX.out⟩
theorem cterm_any (fn : Nat) (caps : Array Value) (p : Tm → Bool) (A : Nat → Prop) (l : List Tm) (v : Value) (w : World) (hl : l.length ≤ 1000000000) (hv : IsSl 2 IsTm A w v l)
    (hst : ∀ (i : Nat) (hi : i < l.length) (w' : World), Ext none' w w' → Calls Try.prog fn (#[TmVal l[i]] ++ caps) w' (BoolP (p l[i]) w')) (hfn : ∀ args w, (callFunc fn args).run Try.prog w = .ok (.enter fn args) w) :
    Calls Try.prog 26 #[v, .func (.func fn) #[] caps] w (BoolP (anyI p l) w) := by
  have C := hid (iterm_any fn caps p A l v w hl hv hst hfn)
  obtain ⟨a, cap, rfl, _⟩ := hv
  unfold anyI
  obtain ⟨z, hz⟩ : ∃ z, fstI p l = z := ⟨_, rfl⟩
  rw [hz] at C ⊢
  clear hz hst
  go_enter Try.func26, Try.ntmps26
  go_wp2_with fail
  refine C.out.mono ?_
  rintro e w1 ⟨rfl, X1⟩
  have X1 := hid X1
  go_wp2_with fail
  go_ret
  exact ⟨rfl, X1.out⟩
theorem contains_any (A : Nat → Prop) (l : List (List UInt8)) (x : List UInt8) (v : Value) (w : World) (hv : IsStrs A w v l) (hl : l.length ≤ 9223372036854775807) : Calls Try.prog 31 #[v, .string ⟨x.toArray⟩] w (BoolP (decide (0 ≤ fstI (· == x) l)) w) := by
  have C := hid (index_any A l x v w hv hl)
  obtain ⟨a, cap, rfl, _⟩ := hv
  obtain ⟨z, hz⟩ : ∃ z, fstI (· == x) l = z := ⟨_, rfl⟩
  rw [hz] at C ⊢
  clear hz
  go_enter Try.func31, Try.ntmps31
  go_wp2_with fail
  refine C.out.mono ?_
  rintro e w1 ⟨rfl, X1⟩
  have X1 := hid X1
  go_wp2_with fail
  go_ret
  exact ⟨rfl, X1.out⟩
/-! ### the closures -/
set_option maxRecDepth 100000 in
theorem right1_any (t : Tm) (w : World) : Calls Try.prog 38 #[TmVal t] w (BoolP (!basicB t.name) w) := by
  have BA := hid fun W => basics_any W
  obtain ⟨tt, tn⟩ := t
  have c1 := fun t : LaterF none' (w.alloc (.cells #[.bool tt, .string ⟨tn.toArray⟩] 50)) => cell_at (t.x.heap (heap_alloc_at (w := w) (k := w.heap.size) rfl (.cells #[.bool tt, .string ⟨tn.toArray⟩] 50)) (fun h => h)) 1
  simp only [List.getElem?_toArray, List.getElem?_cons_zero, List.getElem?_cons_succ] at c1
  go_enter Try.func38, Try.ntmps38
  go_upto_region 1 with (fail)
  refine region_tree none' (w.alloc (.cells #[.bool tt, .string ⟨tn.toArray⟩] 50)) [1, 2] (.one 0 true (.one 3 false (.one 4 false (.one 5 false .fin)))) (by kernel_rfl) (by kernel_rfl) (fun dst v c a w h => by cases dst <;> exact h) (Ext.refl _ _) ?_
  simp only [sel, List.getElem?_cons_succ, List.getElem?_cons_zero]
  repeat (go_big_quiet_step (fail))
  refine wpQuiet_nil ?_
  simp only [wpTree, stepT, sel, List.getElem?_cons_succ, List.getElem?_cons_zero]
  clear c1
  go_wp2_with fail
  refine (BA.out _).mono ?_
  rintro e w1 ⟨r, rfl, hr, X1⟩
  have hlk := look_basics tn hr
  have X2 := hid ((Ext.refl none' (w.alloc (.cells #[.bool tt, .string ⟨tn.toArray⟩] 50))).drew.trans X1)
  have X3 := hid (((Ext.refl none' w).alloc _).trans X2.out)
  clear X1 hr
  go_wp2_with fail
  refine ⟨In.of X2.out, ?_⟩
  go_wp2_with fail
  go_ret
  exact ⟨rfl, X3.out⟩
set_option maxRecDepth 100000 in
theorem within1_any (x t : Tm) (b : Nat) (w : World) (hb : w.heap[b]? = some (.cells #[.bool t.tilde, .string ⟨t.name.toArray⟩] 50 (0, 0))) : Calls Try.prog 41 #[TmVal x, .pointer (some ⟨b, 0, none⟩)] w (BoolP (x.name == t.name && (x.tilde || !t.tilde)) w) := by
  obtain ⟨tt, tn⟩ := t
  obtain ⟨xt, xn⟩ := x
  have hlt := heap_lt hb
  have c0 := cell_at (heap_alloc_keep hb (.cells #[.bool xt, .string ⟨xn.toArray⟩] 50)) 0
  have c1 := cell_at (heap_alloc_keep hb (.cells #[.bool xt, .string ⟨xn.toArray⟩] 50)) 1
  simp only [List.getElem?_toArray, List.getElem?_cons_zero, List.getElem?_cons_succ] at c0 c1
  clear hb
  obtain ⟨q, hq⟩ : ∃ q, (xn == tn) = q := ⟨_, rfl⟩
  have HQ := hid hq
  show Calls _ _ _ _ (BoolP (xn == tn && (xt || !tt)) w)
  rw [hq]
  cases q <;> cases xt <;> cases tt
  all_goals
    go_enter Try.func41, Try.ntmps41
    go_wp2_with fail
    go_ret
    exact ⟨rfl, (Ext.refl _ _).alloc _⟩
theorem enter_within1 : ∀ args w, (callFunc 41 args).run Try.prog w = .ok (.enter 41 args) w := Go.Proofs.enters_of Try.func41 (by kernel_rfl) rfl
theorem enter_right1 : ∀ args w, (callFunc 38 args).run Try.prog w = .ok (.enter 38 args) w := Go.Proofs.enters_of Try.func38 (by kernel_rfl) rfl
theorem enter_lets1 : ∀ args w, (callFunc 27 args).run Try.prog w = .ok (.enter 27 args) w := Go.Proofs.enters_of Try.func27 (by kernel_rfl) rfl
theorem enter_each1 : ∀ args w, (callFunc 30 args).run Try.prog w = .ok (.enter 30 args) w := Go.Proofs.enters_of Try.func30 (by kernel_rfl) rfl
theorem enter_find1b : ∀ args w, (callFunc 35 args).run Try.prog w = .ok (.enter 35 args) w := Go.Proofs.enters_of Try.func35 (by kernel_rfl) rfl
end Go.Proofs.Ythoeengfgkfchaa
