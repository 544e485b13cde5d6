import Derived.Test.YtmlhkgocilpobaaUnP
import Derived.Test.YtmlhkgocilpobaaKiBeh2
import Derived.Test.YtmlhkgocilpobaaRegionQ
/-
  kinds.Same: are two types?
-/
namespace Go.Proofs.Ytmlhkgocilpobaa
open Go.RowKit Go.Lib Go.BigFrame
set_option maxRecDepth 100000 in
set_option maxHeartbeats 1600000 in
theorem equal_any (fn : Nat) (caps : Array Value) (p : Ty → Ty → Bool) (l m : List Ty) (v u : Value) (w : World) (hl : l.length ≤ 100000000000) (hv : IsSl 3 IsTy none' w v l) (hu : IsSl 3 IsTy none' w u m)
    (hst : ∀ (i : Nat) (h1 : i < l.length) (h2 : i < m.length) (w' : World) (x y : Value), Ext none' w w' → TyV none' w' l[i] x → TyV none' w' m[i] y → Calls Try.prog fn (#[x, y] ++ caps) w' (BoolP (p l[i] m[i]) w'))
    (hfn : ∀ args w, (callFunc fn args).run Try.prog w = .ok (.enter fn args) w) :
    Calls Try.prog 28 #[v, u, .func (.func fn) #[] caps] w (BoolP (samesL p l m) w) := by
  have HV := hid hv
  have HU := hid hu
  have HST := hid hst
  obtain ⟨a, cap, rfl, _⟩ := hv
  obtain ⟨a', cap', rfl, _⟩ := hu
  obtain ⟨r, hr⟩ : ∃ r, r = samesL p l m := ⟨_, rfl⟩
  rw [← hr]
  have HR := hid hr
  clear hst hr
  by_cases hlm : l.length = m.length
  · have q0 : ((l.length : Int) != (m.length : Int)) = false := by simp only [bne_eq_false_iff_eq]; omega
    have HLM := hid hlm
    clear hlm
    go_enter Try.func28, Try.ntmps28
    go_wp2_with fail
    go_loopw [17] (fun z wr => ∃ (i : Nat), z = .int .i64 (i : Nat) ∧ i ≤ l.length ∧ Hid (∀ j (h1 : j < l.length) (h2 : j < m.length), j < i → p l[j] m[j] = true) ∧ Hid (Ext none' w wr)) (fun z _ => l.length - (RowKit.intOf z).toNat)
    case atStart => exact ⟨0, rfl, by omega, hid (fun j _ _ h => by omega), hid (Ext.refl _ _)⟩
    case round =>
      obtain ⟨i, rfl, hle, HF, X⟩ := hrel
      by_cases hi : i < l.length
      · have him : i < m.length := by have := HLM.out; omega
        obtain ⟨b, off, cs, rfl, _, hbw, hcc, hty⟩ := (HV.out.ext isTy_good X.out fun _ _ h => h.elim).at i hi
        obtain ⟨x, rfl, hx⟩ := hty.parts
        obtain ⟨b', off', cs', rfl, _, hbw', hcc', hty'⟩ := (HU.out.ext isTy_good X.out fun _ _ h => h.elim).at i him
        obtain ⟨x', rfl, hx'⟩ := hty'.parts
        have c0 := hcc 0 _ rfl
        have c1 := hcc 1 _ rfl
        have c2 := hcc 2 _ rfl
        simp only [Nat.add_zero] at c0
        have HX := hid hx
        have HX' := hid hx'
        obtain ⟨a1, cap1, rfl, _⟩ := hx
        obtain ⟨a1', cap1', rfl, _⟩ := hx'
        have C1 := hid fun (W : World) (XW : Ext none' wr W) => HST.out i hi him W _ _ (X.out.trans XW) ⟨_, rfl, HX.out.ext isTy_good XW fun _ _ h => h.elim⟩ ⟨_, rfl, HX'.out.ext isTy_good XW fun _ _ h => h.elim⟩
        have HBAD := hid fun h => samesL_bad (p := p) (l := l) (m := m) i hi him h
        have HGOOD : Hid (p l[i] m[i] = true → ∀ (j : Nat) (h1 : j < l.length) (h2 : j < m.length), j < i + 1 → p l[j] m[j] = true) := hid fun h j h1 h2 hj => by
          by_cases e : j = i
          · subst e; exact h
          · exact HF.out j h1 h2 (by omega)
        obtain ⟨t, ht⟩ : ∃ t, l[i] = t := ⟨_, rfl⟩
        obtain ⟨t', ht'⟩ : ∃ t', m[i] = t' := ⟨_, rfl⟩
        have d0 := hcc' 0 _ rfl
        have d1 := hcc' 1 _ rfl
        have d2 := hcc' 2 _ rfl
        simp only [Nat.add_zero] at d0
        rw [ht] at c0 c1 c2 HX
        rw [ht'] at d0 d1 d2 HX'
        obtain ⟨q, hq⟩ : ∃ q, p l[i] m[i] = q := ⟨_, rfl⟩
        rw [hq] at C1 HBAD HGOOD
        rw [ht, ht'] at C1
        have k0 := (((Ext.refl none' wr).alloc (.cells #[.int .i64 t.kind, .string ⟨t.name.toArray⟩, .slice a1 t.args.length cap1] 33)).cell hbw' (fun h => h)).trans d0
        have k1 := (((Ext.refl none' wr).alloc (.cells #[.int .i64 t.kind, .string ⟨t.name.toArray⟩, .slice a1 t.args.length cap1] 33)).cell (p := ⟨b', off' + i * 3 + 1, none⟩) hbw' (fun h => h)).trans d1
        have k2 := (((Ext.refl none' wr).alloc (.cells #[.int .i64 t.kind, .string ⟨t.name.toArray⟩, .slice a1 t.args.length cap1] 33)).cell (p := ⟨b', off' + i * 3 + 2, none⟩) hbw' (fun h => h)).trans d2
        clear hcc hty hcc' hty' ht ht' hq d0 d1 d2
        go_wp2_with fail
        refine (C1.out _ (((Ext.refl none' wr).alloc _).alloc _)).mono ?_
        rintro e w2 ⟨rfl, X2⟩
        have X2 := hid (X.out.trans ((((Ext.refl none' wr).alloc _).alloc _).trans X2))
        cases q with
        | true =>
          go_wp2_with fail
          go_roundw
          case rel => exact ⟨i + 1, by go_num, by omega, hid (HGOOD.out (by trivial)), X2⟩
          case measure => simp [RowKit.intOf]; omega
        | false =>
          have e1 : Hid (r = false) := hid (by rw [HR.out]; exact HBAD.out rfl)
          go_wp2_with fail
          go_ret
          exact ⟨by rw [e1.out]; rfl, X2.out⟩
      · obtain rfl : i = l.length := by omega
        have e1 : Hid (r = true) := hid (by rw [HR.out]; exact samesL_good HLM.out fun j h1 h2 => HF.out j h1 h2 h1)
        go_wp2_with fail
        go_ret
        exact ⟨by rw [e1.out]; rfl, X.out⟩
  · have q0 : ((l.length : Int) != (m.length : Int)) = true := by simp only [bne_iff_ne, ne_eq]; omega
    have e1 : Hid (r = false) := hid (by rw [HR.out]; exact samesL_len hlm)
    clear hlm
    go_enter Try.func28, Try.ntmps28
    go_wp2_with fail
    go_ret
    exact ⟨by rw [e1.out]; rfl, Ext.refl _ _⟩
theorem enter_same1 : ∀ args w, (callFunc 29 args).run Try.prog w = .ok (.enter 29 args) w := Go.Proofs.enters_of Try.func29 (by kernel_rfl) rfl
set_option maxRecDepth 100000 in
set_option maxHeartbeats 1600000 in
theorem same1_any (f : Nat) (hf : f ≤ 100000) (a b : Ty) (v u : Value) (B : Nat) (w : World) (hb : w.heap[B]? = some (.cells #[.int .i64 ((f + 1 : Nat) : Nat)] 3 (0, 0))) (hv : TyV none' w a v) (hu : TyV none' w b u)
    (H : ∀ w' x y, Ext none' w w' → TyV none' w' a x → TyV none' w' b y → Calls Try.prog 21 #[x, y, .int .i64 (f : Nat)] w' (BoolP (sameP f a b) w')) :
    Calls Try.prog 29 #[v, u, .pointer (some ⟨B, 0, none⟩)] w (BoolP (sameP f a b) w) := by
  have HV := hid hv
  have HU := hid hu
  obtain ⟨x, rfl, hx⟩ := hv
  obtain ⟨y, rfl, hy⟩ := hu
  obtain ⟨a1, cap1, rfl, _⟩ := hx
  obtain ⟨a2, cap2, rfl, _⟩ := hy
  have HH := hid fun w' X => H w' _ _ X (HV.out.ext X fun _ _ h => h.elim) (HU.out.ext X fun _ _ h => h.elim)
  obtain ⟨r, hr⟩ : ∃ r, sameP f a b = r := ⟨_, rfl⟩
  rw [hr] at HH ⊢
  have c0 := cell_at (heap_alloc_keep (heap_alloc_keep hb (.cells #[.int .i64 a.kind, .string ⟨a.name.toArray⟩, .slice a1 a.args.length cap1] 33)) (.cells #[.int .i64 b.kind, .string ⟨b.name.toArray⟩, .slice a2 b.args.length cap2] 33)) 0
  simp only [List.getElem?_toArray, List.getElem?_cons_zero] at c0
  have hs : ((f + 1 : Nat) : Int) - 1 = (f : Int) := by omega
  obtain ⟨F, hF⟩ : ∃ F : Int, F = ((f + 1 : Nat) : Int) := ⟨_, rfl⟩
  have hFb : F ≤ 100001 ∧ 1 ≤ F := by omega
  rw [← hF] at hs c0
  clear hF H hr hb
  go_enter Try.func29, Try.ntmps29
  go_wp2_with fail
  refine (HH.out _ (((Ext.refl _ _).alloc _).alloc _)).mono ?_
  rintro e w1 ⟨rfl, X1⟩
  have X1 := hid ((((Ext.refl none' w).alloc _).alloc _).trans X1)
  go_wp2_with fail
  go_ret
  exact ⟨rfl, X1.out⟩
set_option maxRecDepth 100000 in
set_option maxHeartbeats 1600000 in
theorem same_any : ∀ (f : Nat), f ≤ 100000 → ∀ (a b : Ty), a.size ≤ bigD → b.size ≤ bigD → ∀ (v u : Value) (w : World), TyV none' w a v → TyV none' w b u → Calls Try.prog 21 #[v, u, .int .i64 (f : Nat)] w (BoolP (sameP f a b) w) := by
  intro f
  induction f with
  | zero =>
    intro _ a b _ _ v u w hv hu
    obtain ⟨x, rfl, hx⟩ := hv
    obtain ⟨y, rfl, hy⟩ := hu
    obtain ⟨a1, cap1, rfl, _⟩ := hx
    obtain ⟨a2, cap2, rfl, _⟩ := hy
    go_enter Try.func21, Try.ntmps21
    go_wp2_with fail
    go_ret
    exact ⟨rfl, (((Ext.refl _ _).alloc _).alloc _).alloc _⟩
  | succ f ih =>
    intro hf a b ha hb v u w hv hu
    have HV := hid hv
    have HU := hid hu
    obtain ⟨x, rfl, hx⟩ := hv
    obtain ⟨y, rfl, hy⟩ := hu
    have HX := hid hx
    have HY := hid hy
    obtain ⟨a1, cap1, rfl, _⟩ := hx
    obtain ⟨a2, cap2, rfl, _⟩ := hy
    have HIH := hid (ih (by omega))
    obtain ⟨r, hr⟩ : ∃ r, r = sameP (f + 1) a b := ⟨_, rfl⟩
    rw [← hr]
    rw [sameP] at hr
    obtain ⟨B, hB⟩ : ∃ B, B = w.heap.size := ⟨_, rfl⟩
    obtain ⟨W1, hW1⟩ : ∃ W1, W1 = ((w.alloc (.cells #[.int .i64 a.kind, .string ⟨a.name.toArray⟩, .slice a1 a.args.length cap1] 33)).alloc (.cells #[.int .i64 b.kind, .string ⟨b.name.toArray⟩, .slice a2 b.args.length cap2] 33)).alloc (.cells #[.int .i64 ((f + 1 : Nat) : Nat)] 3) := ⟨_, rfl⟩
    have X1 : Hid (Ext none' w W1) := hid (by rw [hW1]; exact (((Ext.refl _ _).alloc _).alloc _).alloc _)
    have G0 : Hid (W1.heap[B]? = some (.cells #[.int .i64 a.kind, .string ⟨a.name.toArray⟩, .slice a1 a.args.length cap1] 33 (0, 0))) := hid (by rw [hW1]; exact heap_alloc_keep (heap_alloc_keep (heap_alloc_at hB _) _) _)
    have G1 : Hid (W1.heap[B + 1]? = some (.cells #[.int .i64 b.kind, .string ⟨b.name.toArray⟩, .slice a2 b.args.length cap2] 33 (0, 0))) := hid (by rw [hW1]; exact heap_alloc_keep (heap_alloc_at (by rw [hB]; simp) _) _)
    have G2 : Hid (W1.heap[B + 1 + 1]? = some (.cells #[.int .i64 ((f + 1 : Nat) : Nat)] 3 (0, 0))) := hid (by rw [hW1]; exact heap_alloc_at (by rw [hB]; simp) _)
    have hla : a.args.length ≤ 100000000000 := by have := Ty.args_len a; unfold bigD at ha; omega
    have CE := hid (equal_any 29 #[.pointer (some ⟨B + 1 + 1, 0, none⟩)] (sameP f) a.args b.args _ _ W1 hla (HX.out.ext isTy_good X1.out fun _ _ h => h.elim) (HY.out.ext isTy_good X1.out fun _ _ h => h.elim)
      (fun i h1 h2 w' x y X hx hy => same1_any f (by omega) a.args[i] b.args[i] x y (B + 1 + 1) w' (X.heap G2.out (fun h => h)) hx hy (fun w2 x y _ hx hy => HIH.out _ _ (by have := Ty.size_arg (List.getElem_mem h1); omega) (by have := Ty.size_arg (List.getElem_mem h2); omega) x y w2 hx hy)) enter_same1)
    have c0 := cell_at G0.out 0
    have c1 := cell_at G0.out 1
    have c2 := cell_at G0.out 2
    have d0 := cell_at G1.out 0
    have d1 := cell_at G1.out 1
    have d2 := cell_at G1.out 2
    have l0 := cell_at G2.out 0
    simp only [List.getElem?_toArray, List.getElem?_cons_zero, List.getElem?_cons_succ] at c0 c1 c2 d0 d1 d2 l0
    obtain ⟨q, hq⟩ : ∃ q, samesL (sameP f) a.args b.args = q := ⟨_, rfl⟩
    rw [hq] at CE hr
    obtain ⟨q1, hq1⟩ : ∃ q, (a.kind == b.kind) = q := ⟨_, rfl⟩
    obtain ⟨q2, hq2⟩ : ∃ q, (a.name == b.name) = q := ⟨_, rfl⟩
    rw [hq1, hq2] at hr
    have HR := hid hr
    have z1 : (0 : Int) < ((f + 1 : Nat) : Int) := by omega
    obtain ⟨F, hF⟩ : ∃ F : Int, F = ((f + 1 : Nat) : Int) := ⟨_, rfl⟩
    rw [← hF] at z1 l0 hW1 ⊢
    have z3 : decide (0 < F) = true := decide_eq_true z1
    clear hr hq ha hb ih hf hF
    go_enter Try.func21, Try.ntmps21
    go_upto_region 1 with (fail)
    rw [← hB, ← hW1]
    clear hB hW1
    cases q1 with
    | false =>
      go_wp2_with fail
      go_ret
      exact ⟨by rw [HR.out]; rfl, X1.out⟩
    | true =>
      cases q2 with
      | false =>
        go_wp2_with fail
        go_ret
        exact ⟨by rw [HR.out]; rfl, X1.out⟩
      | true =>
        go_wp2_with fail
        refine CE.out.mono ?_
        rintro e w1 ⟨rfl, X2⟩
        have X2 := hid (X1.out.trans X2)
        go_wp2_with fail
        go_ret
        exact ⟨by rw [HR.out]; cases q <;> rfl, X2.out⟩
set_option maxRecDepth 100000 in
theorem Same_any (a b : Ty) (ha : a.size ≤ bigD) (hb : b.size ≤ bigD) (v u : Value) (w : World) (hv : TyV none' w a v) (hu : TyV none' w b u) : Calls Try.prog 12 #[v, u] w (BoolP (sameP 100 a b) w) := by
  have C := hid fun (W : World) (X : Ext none' w W) => same_any 100 (by omega) a b ha hb v u W (hv.ext X fun _ _ h => h.elim) (hu.ext X fun _ _ h => h.elim)
  obtain ⟨x, rfl, hx⟩ := hv
  obtain ⟨y, rfl, hy⟩ := hu
  obtain ⟨a1, cap1, rfl, _⟩ := hx
  obtain ⟨a2, cap2, rfl, _⟩ := hy
  obtain ⟨r, hr⟩ : ∃ r, sameP 100 a b = r := ⟨_, rfl⟩
  rw [hr] at C ⊢
  clear hr
  have k0 := cell_at (heap_alloc_keep (heap_alloc_at (w := w) rfl (.cells #[.int .i64 a.kind, .string ⟨a.name.toArray⟩, .slice a1 a.args.length cap1] 33)) (.cells #[.int .i64 b.kind, .string ⟨b.name.toArray⟩, .slice a2 b.args.length cap2] 33)) 0
  have k1 := cell_at (heap_alloc_keep (heap_alloc_at (w := w) rfl (.cells #[.int .i64 a.kind, .string ⟨a.name.toArray⟩, .slice a1 a.args.length cap1] 33)) (.cells #[.int .i64 b.kind, .string ⟨b.name.toArray⟩, .slice a2 b.args.length cap2] 33)) 1
  have k2 := cell_at (heap_alloc_keep (heap_alloc_at (w := w) rfl (.cells #[.int .i64 a.kind, .string ⟨a.name.toArray⟩, .slice a1 a.args.length cap1] 33)) (.cells #[.int .i64 b.kind, .string ⟨b.name.toArray⟩, .slice a2 b.args.length cap2] 33)) 2
  simp only [List.getElem?_toArray, List.getElem?_cons_zero, List.getElem?_cons_succ] at k0 k1 k2
  go_enter Try.func12, Try.ntmps12
  go_wp2_with fail
  refine (C.out _ (((Ext.refl _ _).alloc _).alloc _)).mono ?_
  rintro e w1 ⟨rfl, X1⟩
  have X1 := hid ((((Ext.refl none' w).alloc _).alloc _).trans X1)
  go_wp2_with fail
  go_ret
  exact ⟨rfl, X1.out⟩
end Go.Proofs.Ytmlhkgocilpobaa
