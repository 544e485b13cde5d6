import Derived.Test.YthoeengfgkfchaaSeTm
namespace Go.Proofs.Ythoeengfgkfchaa
open Go.RowKit Go.Lib Go.BigFrame
set_option maxRecDepth 100000 in
set_option maxHeartbeats 1600000 in
theorem ibound_any (fn : Nat) (caps : Array Value) (p : Bd → Bool) (A : Nat → Prop) (l : List Bd) (v : Value) (w : World) (hl : l.length ≤ 1000000000) (hv : IsSl 4 IsBd A w v l)
    (hst : ∀ (i : Nat) (hi : i < l.length) (w' : World) (a : Option Addr) (c : Nat), Ext none' w w' → Calls Try.prog fn (#[.agg #[.string ⟨l[i].name.toArray⟩, .bool l[i].set.all, .bool l[i].set.cmp, .slice a l[i].set.terms.length c]] ++ caps) w' (BoolP (p l[i]) w')) (hfn : ∀ args w, (callFunc fn args).run Try.prog w = .ok (.enter fn args) w) :
    Calls Try.prog 34 #[v, .func (.func fn) #[] caps] w (IntP (fstI p l) w) := by
  obtain ⟨q, hq⟩ : ∃ q, q = fstI p l := ⟨_, rfl⟩
  rw [← hq]
  have HQ := hid hq
  have HV := hid hv
  have HST := hid hst
  obtain ⟨a, cap, rfl, hc, hn, _⟩ := hv
  clear hn hst hq
  go_enter Try.func34, Try.ntmps34
  go_wp2_with fail
  go_loopw [5, 8] (fun _ z wr => ∃ (i : Nat), z = .int .i64 (i : Nat) ∧ i ≤ l.length ∧ Hid (Ext none' w wr ∧ ∀ j (h : j < l.length), j < i → p l[j] = false)) (fun _ z _ => l.length - (RowKit.intOf z).toNat)
  case atStart => exact ⟨0, rfl, by omega, hid ⟨Ext.refl _ _, fun j _ h => by omega⟩⟩
  case round =>
    obtain ⟨i, rfl, hle, R⟩ := hrel
    by_cases hi : i < l.length
    · obtain ⟨b, off, cs, rfl, hAb, hbw, hcc, hbd⟩ := (HV.out.ext isBd_good R.out.1 fun _ _ h => h.elim).at i hi
      obtain ⟨x, rfl, hx⟩ := hbd
      obtain ⟨a1, cap1, rfl, _⟩ := hx
      have c0 := hcc 0 _ rfl
      have c1 := hcc 1 _ rfl
      have c2 := hcc 2 _ rfl
      have c3 := hcc 3 _ rfl
      simp only [Nat.add_zero] at c0
      have HR := hid R.out
      obtain ⟨bb, hbb⟩ : ∃ bb, p l[i] = bb := ⟨_, rfl⟩
      have HBB := hid hbb
      have C2 : Hid (Calls Try.prog fn (#[.agg #[.string ⟨l[i].name.toArray⟩, .bool l[i].set.all, .bool l[i].set.cmp, .slice a1 l[i].set.terms.length cap1]] ++ caps) wr (BoolP bb wr)) := hid (by rw [← hbb]; exact HST.out i hi wr a1 cap1 R.out.1)
      clear hbb R hcc
      go_wp2_with fail
      refine C2.out.mono ?_
      rintro e w2 ⟨rfl, X2⟩
      have HX2 := hid (HR.out.1.trans X2)
      clear X2
      cases bb with
      | true =>
        have E : Hid (q = (i : Nat)) := hid (by rw [HQ.out]; exact fstI_at hi HBB.out HR.out.2)
        go_wp2_with fail
        go_ret
        exact ⟨by rw [E.out]; rfl, HX2.out⟩
      | false =>
        go_wp2_with fail
        go_roundw
        case rel => exact ⟨i + 1, by go_num, by omega, hid ⟨HX2.out, fun j hj hji => by
            by_cases q : j = i
            · subst q; exact HBB.out
            · exact HR.out.2 j hj (by omega)⟩⟩
        case measure => simp [RowKit.intOf]; omega
    · obtain rfl : i = l.length := by omega
      have E : Hid (q = -1) := hid (by rw [HQ.out]; exact fstI_none fun j hj => R.out.2 j hj hj)
      have HX := hid R.out.1
      clear R
      go_wp2_with fail
      go_ret
      exact ⟨by rw [E.out]; rfl, HX.out⟩

set_option maxRecDepth 100000 in
theorem bfind1_any (nm : List UInt8) (y1 y2 : Bool) (a : Option Addr) (n c : Nat) (x : List UInt8) (b : Nat) (w : World) (hb : w.heap[b]? = some (.cells #[.string ⟨x.toArray⟩] 9 (0, 0))) : Calls Try.prog 35 #[.agg #[.string ⟨nm.toArray⟩, .bool y1, .bool y2, .slice a n c], .pointer (some ⟨b, 0, none⟩)] w (BoolP (nm == x) w) := by
  have hlt := heap_lt hb
  have c0 := cell_at (heap_alloc_keep hb (.cells #[.string ⟨nm.toArray⟩, .bool y1, .bool y2, .slice a n c] 76)) 0
  simp only [List.getElem?_toArray, List.getElem?_cons_zero] at c0
  clear hb
  go_enter Try.func35, Try.ntmps35
  go_wp2_with fail
  go_ret
  exact ⟨rfl, (Ext.refl _ _).alloc _⟩
/-! ### within, Each, Right -/
set_option maxRecDepth 100000 in
theorem within_any (s : Cn) (t : Tm) (hl : s.terms.length ≤ 1000000000) (A : Nat → Prop) (v : Value) (w : World) (hv : CnV A w s v) : Calls Try.prog 28 #[v, TmVal t] w (BoolP (withinP s t) w) := by
  obtain ⟨x, rfl, hx⟩ := hv
  have HX := hid hx
  obtain ⟨a, c, rfl, _⟩ := hx
  have hmf : ∀ (fn : Fn) (first cap : Array Value) (w : World), (Instr.makeFunc fn first cap).run Try.prog w = .ok (.func fn first cap) w := fun _ _ _ _ => rfl
  have CT := hid fun (W : World) (X : Ext none' w W) (h : W.heap[w.heap.size + 1]? = some (.cells #[.bool t.tilde, .string ⟨t.name.toArray⟩] 50 (0, 0))) => cterm_any 41 #[.pointer (some ⟨w.heap.size + 1, 0, none⟩)] (fun x => x.name == t.name && (x.tilde || !t.tilde)) A s.terms _ W hl (HX.out.ext isTm_good X fun _ _ h => h.elim) (fun i hi w' x' => within1_any s.terms[i] t (w.heap.size + 1) w' (x'.heap h (fun h => h))) enter_within1
  unfold withinP
  obtain ⟨sa, sc, st⟩ := s
  obtain ⟨tt, tn⟩ := t
  go_enter Try.func28, Try.ntmps28
  go_wp2_with fail
  refine (CT.out _ (((Ext.refl _ _).alloc _).alloc _) (heap_alloc_at (by simp) _)).mono ?_
  rintro e w1 ⟨rfl, X1⟩
  have X1 := hid ((((Ext.refl none' w).alloc _).alloc _).trans X1)
  go_wp2_with fail
  go_ret
  exact ⟨rfl, X1.out⟩
set_option maxRecDepth 100000 in
theorem lets1_any (s : Cn) (t : Tm) (hl : s.terms.length ≤ 1000000000) (A : Nat → Prop) (a : Option Addr) (c b : Nat) (w : World) (hx : IsSl 2 IsTm A w (.slice a s.terms.length c) s.terms) (hb : w.heap[b]? = some (.cells #[.bool s.all, .bool s.cmp, .slice a s.terms.length c] 45 (0, 0))) :
    Calls Try.prog 27 #[TmVal t, .pointer (some ⟨b, 0, none⟩)] w (BoolP (!withinP s t) w) := by
  have CW := hid fun W (X : Ext none' w W) => within_any s t hl A (.agg #[.bool s.all, .bool s.cmp, .slice a s.terms.length c]) W ⟨_, rfl, hx.ext isTm_good X fun _ _ h => h.elim⟩
  have hlt := heap_lt hb
  have c0 := cell_at (heap_alloc_keep hb (.cells #[.bool t.tilde, .string ⟨t.name.toArray⟩] 50)) 0
  have c1 := cell_at (heap_alloc_keep hb (.cells #[.bool t.tilde, .string ⟨t.name.toArray⟩] 50)) 1
  have c2 := cell_at (heap_alloc_keep hb (.cells #[.bool t.tilde, .string ⟨t.name.toArray⟩] 50)) 2
  simp only [List.getElem?_toArray, List.getElem?_cons_zero, List.getElem?_cons_succ] at c0 c1 c2
  clear hb
  obtain ⟨q, hq⟩ : ∃ q, withinP s t = q := ⟨_, rfl⟩
  rw [hq] at CW ⊢
  clear hq
  go_enter Try.func27, Try.ntmps27
  go_wp2_with fail
  refine (CW.out _ ((Ext.refl _ _).alloc _)).mono ?_
  rintro e w1 ⟨rfl, X1⟩
  have X1 := hid (((Ext.refl none' w).alloc _).trans X1)
  go_wp2_with fail
  go_ret
  exact ⟨rfl, X1.out⟩
set_option maxRecDepth 100000 in
theorem each1_any (names : List (List UInt8)) (t : Tm) (hl : names.length ≤ 1000000000) (A : Nat → Prop) (a : Option Addr) (c b : Nat) (w : World) (hx : IsStrs A w (.slice a names.length c) names) (hb : w.heap[b]? = some (.cells #[.slice a names.length c] 30 (0, 0))) :
    Calls Try.prog 30 #[TmVal t, .pointer (some ⟨b, 0, none⟩)] w (BoolP (!decide (0 ≤ fstI (· == t.name) names)) w) := by
  have CW := hid fun W (X : Ext none' w W) => contains_any A names t.name _ W (hx.ext isStr_good X fun _ _ h => h.elim) (by omega)
  have hlt := heap_lt hb
  have c0 := cell_at (heap_alloc_keep hb (.cells #[.bool t.tilde, .string ⟨t.name.toArray⟩] 50)) 0
  simp only [List.getElem?_toArray, List.getElem?_cons_zero] at c0
  clear hb
  obtain ⟨q, hq⟩ : ∃ q, decide (0 ≤ fstI (· == t.name) names) = q := ⟨_, rfl⟩
  rw [hq] at CW ⊢
  clear hq
  go_enter Try.func30, Try.ntmps30
  go_wp2_with fail
  refine (CW.out _ ((Ext.refl _ _).alloc _)).mono ?_
  rintro e w1 ⟨rfl, X1⟩
  have X1 := hid (((Ext.refl none' w).alloc _).trans X1)
  go_wp2_with fail
  go_ret
  exact ⟨rfl, X1.out⟩
set_option maxRecDepth 100000 in
theorem Each_any (s : Cn) (names : List (List UInt8)) (hl : s.terms.length ≤ 1000000000) (hn : names.length ≤ 1000000000) (A : Nat → Prop) (v nv : Value) (w : World) (hv : CnV A w s v) (hs : IsStrs A w nv names) : Calls Try.prog 16 #[v, nv] w (BoolP (eachP s names) w) := by
  obtain ⟨x, rfl, hx⟩ := hv
  have HX := hid hx
  have HS := hid hs
  obtain ⟨a, c, rfl, _⟩ := hx
  obtain ⟨a1, c1, rfl, _⟩ := hs
  have hmf : ∀ (fn : Fn) (first cap : Array Value) (w : World), (Instr.makeFunc fn first cap).run Try.prog w = .ok (.func fn first cap) w := fun _ _ _ _ => rfl
  have CT := hid fun (W : World) (X : Ext none' w W) (h : W.heap[w.heap.size + 1]? = some (.cells #[.slice a1 names.length c1] 30 (0, 0))) => cterm_any 30 #[.pointer (some ⟨w.heap.size + 1, 0, none⟩)] (fun t => !decide (0 ≤ fstI (· == t.name) names)) A s.terms _ W hl (HX.out.ext isTm_good X fun _ _ h => h.elim) (fun i hi w' x' => each1_any names s.terms[i] hn A a1 c1 (w.heap.size + 1) w' (HS.out.ext isStr_good (X.trans x') fun _ _ h => h.elim) (x'.heap h (fun h => h))) enter_each1
  unfold eachP
  obtain ⟨q, hq⟩ : ∃ q, anyI (fun t : Tm => !decide (0 ≤ fstI (· == t.name) names)) s.terms = q := ⟨_, rfl⟩
  rw [hq] at CT ⊢
  clear hq
  obtain ⟨sa, sc, st⟩ := s
  simp only at CT HX ⊢
  by_cases h0 : st.length = 0
  · have q1 : decide (0 < (st.length : Int)) = false := decide_eq_false (by omega)
    have q2 : decide (st.length ≠ 0) = false := by simp [h0]
    rw [q2]
    go_enter Try.func16, Try.ntmps16
    go_wp2_with fail
    go_ret
    exact ⟨rfl, ((Ext.refl _ _).alloc _).alloc _⟩
  · have q1 : decide (0 < (st.length : Int)) = true := decide_eq_true (by omega)
    have q2 : decide (st.length ≠ 0) = true := by simp [h0]
    rw [q2]
    go_enter Try.func16, Try.ntmps16
    go_wp2_with fail
    refine (CT.out _ (((Ext.refl _ _).alloc _).alloc _) (heap_alloc_at (by simp) _)).mono ?_
    rintro e w1 ⟨rfl, X1⟩
    have X1 := hid ((((Ext.refl none' w).alloc _).alloc _).trans X1)
    go_wp2_with fail
    go_ret
    exact ⟨rfl, X1.out⟩
end Go.Proofs.Ythoeengfgkfchaa
