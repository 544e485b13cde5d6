import Derived.Test.YthbmjamgidfneaaGreatDoorPAb
import Derived.Test.YthbmjamgidfneaaGreatDoorPAd
import Derived.Deep.Cut
set_option maxRecDepth 100000
set_option maxHeartbeats 6400000
namespace Go.Proofs.YthbmjamgidfneaaGreatDoor
open Go.RowKit Go.Lib Go.BigFrame
theorem isType_any : ∀ (f : Nat), f ≤ bigD → TyH f (tyF nmB f) := by
 intro f
 induction f with
 | zero => intro _ t ht; have := t.size_pos; omega
 | succ f ih =>
  intro hf t ht v w hv
  have H := ih (by omega)
  have HV := hid hv
  have HK : ∀ (i : Nat) (hi : i < t.kids.length), t.kids[i].size ≤ f := fun i hi => by have := Nd.size_kid (t := t) (List.getElem_mem hi); omega
  have hkl : t.kids.length ≤ bigD := by have := t.kids_len; omega
  obtain ⟨x, rfl, hx⟩ := hv
  have CA := hid fun W (X : Ext none' w W) => all_any (tyF nmB f) t.kids f x _ W hkl (hx.ext isNd_good X fun _ _ h => h) HK (type_ask H W)
  have CO := hid fun W v' u' (hv' : NdV none' W t v') (hu' : AsksV f [tyF nmB f] W u') => of_any f 11 [tyF nmB f] t v' u' W hkl (by simp) HK hv' hu'
  have CS := hid fun W v' u' (hv' : NdV none' W t v') (hu' : SoV noT W u') => sig_any f hf (tyF nmB f) H noT t ht v' u' W hv' hu'
  have CN := hid fun W => tname_any t.text W
  have TA := hid fun W => type_ask H W
  obtain ⟨a1, cap1, rfl, _⟩ := hx
  obtain ⟨r, hr⟩ : ∃ r, r = tyF nmB (f + 1) t := ⟨_, rfl⟩
  rw [← hr]
  rw [tyF] at hr
  obtain ⟨qa, hqa⟩ : ∃ q, t.kids.all (tyF nmB f) = q := ⟨_, rfl⟩
  obtain ⟨qo, hqo⟩ : ∃ q, ofB 11 [tyF nmB f] t = q := ⟨_, rfl⟩
  obtain ⟨qs, hqs⟩ : ∃ q, sigB (tyF nmB f) noT t = q := ⟨_, rfl⟩
  obtain ⟨qn, hqn⟩ : ∃ q, nmB t.text = q := ⟨_, rfl⟩
  rw [hqa, hqo, hqs, hqn] at hr
  rw [hqa] at CA
  rw [hqo] at CO
  rw [hqs] at CS
  rw [hqn] at CN
  clear H HK hkl hqa hqo hqs hqn ht hf ih
  obtain ⟨tk, htk⟩ : ∃ tk, t.kind = tk := ⟨_, rfl⟩
  rw [htk] at hr HV ⊢
  have HG := hid (heap_alloc_at (w := w) rfl (.cells #[.int .i64 tk, .string ⟨t.text.toArray⟩, .slice a1 t.kids.length cap1, .int .i64 t.pos] 24))
  have HTK := hid htk
  clear htk
  by_cases h10 : tk = 10
  · subst h10
    rw [if_pos rfl] at hr
    have HR := hid hr
    clear hr
    cases qn with
    | false =>
     go_enter Tryz.func102, Tryz.ntmps102
     go_wp2_with fail
     refine (CN.out _).mono ?_
     rintro e w1 ⟨rfl, X1⟩
     have X1 := hid (((Ext.refl none' w).alloc _).trans X1)
     go_wp2_with fail
     go_ret
     exact ⟨by rw [HR.out]; rfl, X1.out⟩
    | true =>
     go_enter Tryz.func102, Tryz.ntmps102
     go_wp2_with fail
     refine (CN.out _).mono ?_
     rintro e w1 ⟨rfl, X1⟩
     have c2 := cell_at (X1.heap HG.out fun h => h) 2
     simp only [List.getElem?_toArray, List.getElem?_cons_zero, List.getElem?_cons_succ] at c2
     have X1 := hid (((Ext.refl none' w).alloc _).trans X1)
     go_wp2_with fail
     refine (CA.out _ X1.out).mono ?_
     rintro e w2 ⟨rfl, X2⟩
     have X2 := hid (X1.out.trans X2)
     go_wp2_with fail
     go_ret
     exact ⟨by rw [HR.out]; cases qa <;> rfl, X2.out⟩
  · rw [if_neg h10] at hr
    have q10 : (tk == 10) = false := by simpa using h10
    by_cases h11 : tk = 11
    · subst h11
      rw [if_pos rfl] at hr
      have HR := hid hr
      clear hr h10
      go_enter Tryz.func102, Tryz.ntmps102
      go_wp2_with fail
      have Y := ((Ext.refl none' w).alloc (.cells #[.int .i64 11, .string ⟨t.text.toArray⟩, .slice a1 t.kids.length cap1, .int .i64 t.pos] 24)).alloc (.cells #[.func (.func 102) #[] #[]] 41)
      refine (CO.out _ _ _ (HV.out.ext Y fun _ _ h => h) (AsksV.lit1 (heap_alloc_at (by simp) _) (TA.out _))).mono ?_
      rintro e w1 ⟨rfl, X1⟩
      have X1 := hid (Y.trans X1)
      clear Y
      go_wp2_with fail
      go_ret
      exact ⟨by rw [HR.out]; rfl, X1.out⟩
    · rw [if_neg h11] at hr
      have q11 : (tk == 11) = false := by simpa using h11
      by_cases h12 : tk = 12
      · subst h12
        rw [if_pos rfl] at hr
        have HR := hid hr
        clear hr h10 h11
        go_enter Tryz.func102, Tryz.ntmps102
        go_wp2_with fail
        have Y := ((Ext.refl none' w).alloc (.cells #[.int .i64 12, .string ⟨t.text.toArray⟩, .slice a1 t.kids.length cap1, .int .i64 t.pos] 24))
        refine (CS.out _ _ _ (HV.out.ext Y fun _ _ h => h) (noT_so _)).mono ?_
        rintro e w1 ⟨rfl, X1⟩
        have X1 := hid (Y.trans X1)
        clear Y
        go_wp2_with fail
        go_ret
        exact ⟨by rw [HR.out]; rfl, X1.out⟩
      · rw [if_neg h12] at hr
        have q12 : (tk == 12) = false := by simpa using h12
        have HR := hid hr
        clear hr h10 h11 h12
        go_enter Tryz.func102, Tryz.ntmps102
        go_wp2_with fail
        go_ret
        exact ⟨by rw [HR.out]; rfl, (Ext.refl _ _).alloc _⟩
theorem str_cat (a b : List UInt8) : (⟨a.toArray⟩ : ByteArray) ++ ⟨b.toArray⟩ = ⟨(a ++ b).toArray⟩ := by
 apply ByteArray.ext
 simp
theorem isStrs_two {w : World} {B : Nat} {s t : List UInt8} {ty : TypeId} {fz : Nat × Nat} (h : w.heap[B]? = some (.cells #[.string ⟨s.toArray⟩, .string ⟨t.toArray⟩] ty fz)) : IsStrs none' w (.slice (some ⟨B, 0, none⟩) 2 2) [s, t] :=
 ⟨_, 2, rfl, Nat.le_refl _, (fun h => by cases h), fun _ => ⟨B, 0, rfl, fun h => h, heap_lt h, fun i hi => by
  have h' : i < 2 := hi
  have hi' : i = 0 ∨ i = 1 := by omega
  rcases hi' with rfl | rfl
  · exact ⟨[.string ⟨s.toArray⟩], fun j v hj => by
     match j, hj with
     | 0, hj => simp at hj; subst hj; exact cell_at h 0, rfl⟩
  · exact ⟨[.string ⟨t.toArray⟩], fun j v hj => by
     match j, hj with
     | 0, hj => simp at hj; subst hj; exact cell_at h 1, rfl⟩⟩⟩
abbrev TypH (D : Nd → Prop) (p : Nd → List UInt8) : Prop := ∀ (t : Nd), D t → ∀ (v : Value) (w : World), NdV none' w t v → Calls Tryz.prog 22 #[v] w (StrPost (p t) w)
theorem typ_tell {D : Nd → Prop} {p : Nd → List UInt8} (H : TypH D p) (w : World) : TellV D p w (.func (.func 22) #[] #[]) :=
 TellV.top (Go.Proofs.enters_of Tryz.func22 (by kernel_rfl) rfl) fun t ht W x hx => H t ht x W hx
theorem kid_val {t : Nd} {w : World} {a : Option Addr} {n cap : Nat} (h : IsSl 4 IsNd none' w (.slice a n cap) t.kids) (i : Nat) (hi : i < t.kids.length) :
  ∃ b off x, a = some ⟨b, off, none⟩ ∧ b < w.heap.size ∧ w.cell? ⟨b, off + i * 4, none⟩ = some (.int .i64 (t.kid i).kind) ∧ w.cell? ⟨b, off + i * 4 + 1, none⟩ = some (.string ⟨(t.kid i).text.toArray⟩) ∧ w.cell? ⟨b, off + i * 4 + 2, none⟩ = some x ∧ w.cell? ⟨b, off + i * 4 + 3, none⟩ = some (.int .i64 (t.kid i).pos) ∧ IsSl 4 IsNd none' w x (t.kid i).kids := by
 have e : t.kid i = t.kids[i] := by unfold Nd.kid; rw [List.getD_eq_getElem?_getD, List.getElem?_eq_getElem hi]; rfl
 rw [e]
 obtain ⟨b, off, cs, rfl, _, hb, hcc, hty⟩ := h.at i hi
 obtain ⟨x, rfl, hx⟩ := hty.parts
 exact ⟨b, off, x, rfl, hb, by simpa using hcc 0 _ rfl, by simpa using hcc 1 _ rfl, by simpa using hcc 2 _ rfl, by simpa using hcc 3 _ rfl, hx⟩
theorem param_any (D : Nd → Prop) (p : Nd → List UInt8) (H : TypH D p) (t : Nd) (h1 : 0 < t.kids.length) (hD : D (t.kid 0)) (hb : t.text.length + (p (t.kid 0)).length ≤ 100000000000000) (v : Value) (w : World) (hv : NdV none' w t v) : Calls Tryz.prog 44 #[v] w (StrPost (parF p t) w) := by
 obtain ⟨x, rfl, hx⟩ := hv
 have HX := hid hx
 obtain ⟨a1, cap1, rfl, _⟩ := hx
 have CT := hid fun W v' (hv' : NdV none' W (t.kid 0) v') => H (t.kid 0) hD v' W hv'
 have CB := hid fun W u (hu : IsStrs none' W u [t.text, p (t.kid 0)]) => between_any [32] _ u W hu (by simp) (by simp [Lib.lens]; omega)
 obtain ⟨r, hr⟩ : ∃ r, r = parF p t := ⟨_, rfl⟩
 rw [← hr]
 unfold parF at hr
 rw [← hr] at CB
 obtain ⟨q, hq⟩ : ∃ q, p (t.kid 0) = q := ⟨_, rfl⟩
 rw [hq] at CT CB
 have hl : 0 < t.kids.length := h1
 have h1z : (0 : Int) < (t.kids.length : Int) := by omega
 clear hr hq hD H h1 hb
 go_enter Tryz.func44, Tryz.ntmps44
 go_upto_region 1 with (fail)
 obtain ⟨W1, hW1⟩ : ∃ W1, W1 = w.alloc (.cells #[.int .i64 t.kind, .string ⟨t.text.toArray⟩, .slice a1 t.kids.length cap1, .int .i64 t.pos] 24) := ⟨_, rfl⟩
 rw [← hW1]
 have X1 := hid (show Ext none' w W1 by rw [hW1]; exact (Ext.refl _ _).alloc _)
 have g0 : W1.heap[w.heap.size]? = some (.cells #[.int .i64 t.kind, .string ⟨t.text.toArray⟩, .slice a1 t.kids.length cap1, .int .i64 t.pos] 24 (0, 0)) := by rw [hW1]; exact heap_alloc_at rfl _
 have HX := hid (HX.out.ext isNd_good X1.out fun _ _ h => h)
 obtain ⟨b, off, x0, rfl, hbw, k0, k1, k2, k3, hx0⟩ := kid_val HX.out 0 hl
 simp only [Nat.zero_mul, Nat.add_zero] at k0 k1 k2 k3
 have HX0 := hid hx0
 obtain ⟨a2, cap2, rfl, _⟩ := hx0
 have y1 := fun t' : LaterF none' W1 => cell_at (t'.x.heap g0 fun h => h) 1
 have y2 := fun t' : LaterF none' W1 => cell_at (t'.x.heap g0 fun h => h) 2
 have z0 := fun t' : LaterF none' W1 => (t'.x.cell (p := ⟨b, off, none⟩) hbw (fun h => h)).trans k0
 have z1 := fun t' : LaterF none' W1 => (t'.x.cell (p := ⟨b, off + 1, none⟩) hbw (fun h => h)).trans k1
 have z2 := fun t' : LaterF none' W1 => (t'.x.cell (p := ⟨b, off + 2, none⟩) hbw (fun h => h)).trans k2
 have z3 := fun t' : LaterF none' W1 => (t'.x.cell (p := ⟨b, off + 3, none⟩) hbw (fun h => h)).trans k3
 simp only [List.getElem?_toArray, List.getElem?_cons_zero, List.getElem?_cons_succ] at y1 y2
 clear hW1 g0 k0 k1 k2 k3
 refine region_q none' W1 (.qs [0, 1, 2, 3, 4, 5] (.one 6 true (.one 7 false (.one 8 false (.one 9 false .fin))))) (by kernel_rfl) (by kernel_rfl) (fun dst v c a w h => by cases dst <;> exact h) ?_
 refine ⟨In.of (Ext.refl _ _).drew, ?_⟩
 change wpQuiet _ _ (fun w' => ∃ t : LaterF none' W1, w' = t.w) _ _ _
 simp only [sel, List.getElem?_cons_succ, List.getElem?_cons_zero]
 repeat (go_big_quiet_step (fail))
 refine wpQuiet_nil ?_
 simp only [wpTreeQ, stepT, sel, List.getElem?_cons_succ, List.getElem?_cons_zero]
 have D1 := hid (Ext.refl none' W1).drew
 clear y1 y2 z0 z1 z2 z3
 go_wp2_with fail
 refine (CT.out _ _ ⟨_, rfl, HX0.out.ext isNd_good D1.out fun _ _ h => h⟩).mono ?_
 rintro e w2 ⟨rfl, X2⟩
 have X2 := hid (D1.out.trans X2)
 go_wp2_with fail
 refine ⟨In.of X2.out, ?_⟩
 go_wp2_with fail
 have Y := hid ((Ext.refl none' w2).alloc (.cells #[.string ⟨t.text.toArray⟩, .string ⟨q.toArray⟩] 9))
 refine (CB.out _ _ (isStrs_two (heap_alloc_at rfl _))).mono ?_
 rintro e w3 ⟨rfl, X3⟩
 have X3 := hid (X1.out.trans (X2.out.trans (Y.out.trans X3)))
 go_wp2_with fail
 go_ret
 exact ⟨rfl, X3.out⟩
end Go.Proofs.YthbmjamgidfneaaGreatDoor
namespace Go.Proofs.YthbmjamgidfneaaGreatDoor
open Go.RowKit Go.Lib
theorem mkf_run : ∀ (fn : Fn) (first cap : Array Value) (w : World), (Instr.makeFunc fn first cap).run Tryz.prog w = .ok (.func fn first cap) w := fun _ _ _ _ => rfl
theorem kidA {t : Nd} {w : World} {a : Option Addr} {n cap : Nat} (h : IsSl 4 IsNd none' w (.slice a n cap) t.kids) (hi : 0 < t.kids.length) :
  ∃ b off ka kc, a = some ⟨b, off, none⟩ ∧ Hid (b < w.heap.size) ∧ Hid (IsSl 4 IsNd none' w (.slice ka (t.kid 0).kids.length kc) (t.kid 0).kids) ∧ Hid (K4 w b off (.int .i64 (t.kid 0).kind) (.string ⟨(t.kid 0).text.toArray⟩) (.slice ka (t.kid 0).kids.length kc) (.int .i64 (t.kid 0).pos)) := by
 obtain ⟨b, off, x, rfl, hb, k0, k1, k2, k3, hx⟩ := kid_val h 0 hi
 have HX := hx
 obtain ⟨ka, kc, rfl, _⟩ := hx
 simp only [Nat.zero_mul, Nat.add_zero] at k0 k1 k2 k3
 exact ⟨b, off, ka, kc, rfl, hid hb, hid HX, hid ⟨k0, k1, k2, k3⟩⟩
theorem kidB {t : Nd} {w : World} {b off : Nat} {n cap : Nat} (h : IsSl 4 IsNd none' w (.slice (some ⟨b, off, none⟩) n cap) t.kids) (i j : Nat) (hj : i * 4 = j) (hi : i < t.kids.length) :
  ∃ ka kc, Hid (IsSl 4 IsNd none' w (.slice ka (t.kid i).kids.length kc) (t.kid i).kids) ∧ Hid (K4 w b (off + j) (.int .i64 (t.kid i).kind) (.string ⟨(t.kid i).text.toArray⟩) (.slice ka (t.kid i).kids.length kc) (.int .i64 (t.kid i).pos)) := by
 subst hj
 obtain ⟨b', off', x, e, hb, k0, k1, k2, k3, hx⟩ := kid_val h i hi
 injection e with e
 injection e with e1 e2 _
 subst e1 e2
 have HX := hx
 obtain ⟨ka, kc, rfl, _⟩ := hx
 exact ⟨ka, kc, hid HX, hid ⟨k0, k1, k2, k3⟩⟩
end Go.Proofs.YthbmjamgidfneaaGreatDoor
namespace Go.Proofs.YthbmjamgidfneaaGreatDoor
open Go.RowKit Go.Lib Go.BigFrame
theorem nmB_len (s : List UInt8) (h : nmB s = true) : s.length ≤ 100 := by
 unfold nmB at h
 simp only [Bool.and_eq_true, decide_eq_true_eq] at h
 exact h.1
def ParD (D : Nd → Prop) (p : Nd → List UInt8) (x : Nd) : Prop := 0 < x.kids.length ∧ D (x.kid 0) ∧ x.text.length + (p (x.kid 0)).length ≤ 100000000000000
theorem param_tell {D : Nd → Prop} {p : Nd → List UInt8} (H : TypH D p) (w : World) : TellV (ParD D p) (parF p) w (.func (.func 44) #[] #[]) :=
 TellV.top (Go.Proofs.enters_of Tryz.func44 (by kernel_rfl) rfl) fun t ht W x hx => param_any D p H t ht.1 ht.2.1 ht.2.2 x W hx
def TyD (f : Nat) (t : Nd) : Prop := t.size ≤ f ∧ tyF nmB f t = true
theorem typ_any : ∀ (f : Nat), f ≤ bigD → TypH (TyD f) (typF f) := by
 intro f
 induction f with
 | zero => intro _ t ht; have := t.size_pos; have := ht.1; omega
 | succ f ih =>
  intro hf t ht v w hv
  have H := ih (by omega)
  obtain ⟨hts, htt⟩ := ht
  obtain ⟨x, rfl, hx⟩ := hv
  have HX := hid hx
  have hkl : t.kids.length ≤ bigD := by have := t.kids_len; omega
  have HLEN := hid fun y (h1 : y.size ≤ f) h2 => typF_len nmB_len f y h2 h1
  have hsz : t.size ≤ 20000000000 := by unfold bigD at hf; omega
  obtain ⟨a1, cap1, rfl, _⟩ := hx
  obtain ⟨r, hr⟩ : ∃ r, r = typF (f + 1) t := ⟨_, rfl⟩
  rw [← hr]
  rw [typF] at hr
  rw [tyF] at htt
  have HG := hid (heap_alloc_at (w := w) rfl (.cells #[.int .i64 t.kind, .string ⟨t.text.toArray⟩, .slice a1 t.kids.length cap1, .int .i64 t.pos] 24))
  obtain ⟨tk, htk⟩ : ∃ tk, t.kind = tk := ⟨_, rfl⟩
  rw [htk] at hr htt HG ⊢
  by_cases h11 : tk = 11
  · subst h11
    rw [if_pos rfl] at hr
    rw [if_neg (by omega), if_pos rfl] at htt
    obtain ⟨y, hy, hty⟩ := one_kid (ofB_parts htt).2.2
    have hl : 0 < t.kids.length := by rw [hy]; simp
    have hl1 : (0 : Int) < (t.kids.length : Int) := by omega
    have e0 : t.kid 0 = y := by unfold Nd.kid; rw [hy]; rfl
    have hys : y.size ≤ f := by have := Nd.size_kid (t := t) (x := y) (by rw [hy]; simp); omega
    have hlen := HLEN.out y hys hty
    have CT := hid fun W v' (hv' : NdV none' W (t.kid 0) v') => H (t.kid 0) (by rw [e0]; exact ⟨hys, hty⟩) v' W hv'
    obtain ⟨q, hq⟩ : ∃ q, typF f (t.kid 0) = q := ⟨_, rfl⟩
    rw [hq] at hr CT
    have hql : q.length ≤ 10000000000000 := by rw [← hq, e0]; have := y.size_pos; unfold bigD at hf; omega
    have cat := str_cat [91, 93] q
    have HR := hid hr
    obtain ⟨b, off, x0, rfl, hbw, k0, k1, k2, k3, hx0⟩ := kid_val HX.out 0 hl
    simp only [Nat.zero_mul, Nat.add_zero] at k0 k1 k2 k3
    have HX0 := hid hx0
    obtain ⟨a2, cap2, rfl, _⟩ := hx0
    clear hr hq hlen hys hty hy htt htk HLEN HG hts H ih e0 hf
    go_enter Tryz.func22, Tryz.ntmps22
    go_wp2_with fail
    refine (CT.out _ _ ⟨_, rfl, HX0.out.ext isNd_good ((Ext.refl none' w).alloc _) fun _ _ h => h⟩).mono ?_
    rintro e w1 ⟨rfl, X1⟩
    have X1 := hid (((Ext.refl none' w).alloc _).trans X1)
    clear k0 k1 k2 k3
    go_wp2_with fail
    go_ret
    exact ⟨by rw [HR.out]; rfl, X1.out⟩
  · rw [if_neg h11] at hr
    have q11 : (tk == 11) = false := by simpa using h11
    by_cases h12 : tk = 12
    · subst h12
      rw [if_pos rfl] at hr
      rw [if_neg (by omega), if_neg (by omega), if_pos rfl] at htt
      obtain ⟨l, rr, hk, hlk, hlt, hps, hrr⟩ := (sigB_parts htt).2.2
      have hll : t.kids.length = 2 := by rw [hk]; rfl
      have hl0 : 0 < t.kids.length := by omega
      have hl1 : 1 < t.kids.length := by omega
      have e0 : t.kid 0 = l := by unfold Nd.kid; rw [hk]; rfl
      have e1 : t.kid 1 = rr := by unfold Nd.kid; rw [hk]; rfl
      have hsl : l.size < t.size := Nd.size_kid (t := t) (x := l) (by rw [hk]; simp)
      have hsr : rr.size < t.size := Nd.size_kid (t := t) (x := rr) (by rw [hk]; simp)
      obtain ⟨L1, L2, L3, L4⟩ := sigF_len (p := typF f) (fun s hs => by unfold noT at hs; simp at hs; subst hs; simp) htt fun x hx htx => HLEN.out x (by omega) htx
      rw [e0] at L2 L4
      rw [e1] at L3
      have HP : ∀ (i : Nat) (h : i < l.kids.length), ParD (TyD f) (typF f) l.kids[i] := fun i hi => by
       obtain ⟨_, h2, y, hy, hty⟩ := hps _ (List.getElem_mem hi)
       have e : l.kids[i].kid 0 = y := by unfold Nd.kid; rw [hy]; rfl
       have s1 := Nd.size_kid (List.getElem_mem hi)
       have s2 : y.size < l.kids[i].size := Nd.size_kid (by rw [hy]; simp)
       have := HLEN.out y (by omega) hty
       refine ⟨by rw [hy]; simp, by rw [e]; exact ⟨by omega, hty⟩, ?_⟩
       have h2' : l.kids[i].text = [] := by unfold noT at h2; simpa using h2
       rw [e, h2']
       simp only [List.length_nil]
       omega
      have hlk : l.kids.length ≤ bigD := by have := l.kids_len; unfold bigD at hf ⊢; omega
      have hls := lens_size (p := parF (typF f)) L4
      have hsz2 := Nd.sizeL_len l.kids
      have hslL : Nd.sizeL l.kids < l.size := by
       cases l with
       | mk k n kids ps => simp only [Nd.size, Nd.kids]; omega
      have CE := hid fun W u v' (hv' : IsSl 4 IsNd none' W v' l.kids) (hu : TellV (ParD (TyD f) (typF f)) (parF (typF f)) W u) => each_any _ _ sComma l.kids v' u W hv' hu HP hlk (by
       have hc : sComma.length = 2 := rfl
       rw [hc]; omega)
      have CP := hid fun W u v' (hv' : NdV none' W (t.kid 1) v') (hu : TellV (TyD f) (typF f) W u) => optional_any (TyD f) (typF f) (t.kid 1) v' u W hv' hu (fun hk => by
       rw [e1] at hk ⊢
       rcases hrr with hrr | hrr
       · exact absurd (emptyB_kind hrr) hk
       · exact ⟨by omega, hrr⟩)
      have TT := hid fun W => typ_tell H W
      have TP := hid fun W => param_tell H W
      unfold sigF at hr
      rw [e0] at hr
      obtain ⟨qj, hqj⟩ : ∃ q, Lib.join (l.kids.map (parF (typF f))) sComma = q := ⟨_, rfl⟩
      obtain ⟨qo, hqo⟩ : ∃ q, optT (typF f) (t.kid 1) = q := ⟨_, rfl⟩
      rw [hqj] at hr CE L2
      rw [hqo] at hr CP
      rw [e1] at hqo
      rw [hqo] at L3
      have hqjl : qj.length ≤ 10000000000000 := by omega
      have hqol : qo.length ≤ 10000000000000 := by omega
      have CB := hid fun W u (hu : IsStrs none' W u [([102, 117, 110, 99, 40] ++ qj) ++ [41], qo]) => between_any [32] _ u W hu (by simp) (by simp [Lib.lens]; omega)
      rw [← hr] at CB
      have cat1 := str_cat [102, 117, 110, 99, 40] qj
      have cat2 := str_cat ([102, 117, 110, 99, 40] ++ qj) [41]
      have HCE : Hid (l.kids = (t.kid 0).kids) := hid (by rw [e0])
      rw [HCE.out] at CE
      have hll1 : (0 : Int) < (t.kids.length : Int) := by omega
      have hll2 : (1 : Int) < (t.kids.length : Int) := by omega
      clear hr hqj hqo e0 e1 hsl hsr L1 L2 L3 L4 HP hlk hls hsz2 hslL HCE hk hll hps hrr hlt htt h11 HLEN H ih hf hts hsz htk
      go_enter Tryz.func22, Tryz.ntmps22
      go_upto_region 5 with (fail)
      obtain ⟨W1, hW1⟩ : ∃ W1, W1 = w.alloc (.cells #[.int .i64 12, .string ⟨t.text.toArray⟩, .slice a1 t.kids.length cap1, .int .i64 t.pos] 24) := ⟨_, rfl⟩
      rw [← hW1] at HG ⊢
      have X1 := hid (show Ext none' w W1 by rw [hW1]; exact (Ext.refl _ _).alloc _)
      have HX := hid (HX.out.ext isNd_good X1.out fun _ _ h => h)
      obtain ⟨b, off, x0, rfl, hbw, k0, k1, k2, k3, hx0⟩ := kid_val HX.out 0 hl0
      simp only [Nat.zero_mul, Nat.add_zero] at k0 k1 k2 k3
      obtain ⟨b', off', x1, e5, hbw', j0, j1, j2, j3, hx1⟩ := kid_val HX.out 1 hl1
      injection e5 with e5
      injection e5 with e5 e6
      subst e5 e6
      have HX0 := hid hx0
      have HX1 := hid hx1
      obtain ⟨a2, cap2, rfl, _⟩ := hx0
      obtain ⟨a3, cap3, rfl, _⟩ := hx1
      simp only [Nat.one_mul] at j0 j1 j2 j3
      have y2 := fun t' : LaterF none' W1 => cell_at (t'.x.heap HG.out fun h => h) 2
      have z2 := fun t' : LaterF none' W1 => (t'.x.cell (p := ⟨b, off + 2, none⟩) hbw (fun h => h)).trans k2
      have i0 := fun t' : LaterF none' W1 => (t'.x.cell (p := ⟨b, off + 4, none⟩) hbw (fun h => h)).trans j0
      have i1 := fun t' : LaterF none' W1 => (t'.x.cell (p := ⟨b, off + 4 + 1, none⟩) hbw (fun h => h)).trans j1
      have i2 := fun t' : LaterF none' W1 => (t'.x.cell (p := ⟨b, off + 4 + 2, none⟩) hbw (fun h => h)).trans j2
      have i3 := fun t' : LaterF none' W1 => (t'.x.cell (p := ⟨b, off + 4 + 3, none⟩) hbw (fun h => h)).trans j3
      simp only [List.getElem?_toArray, List.getElem?_cons_zero, List.getElem?_cons_succ] at y2
      clear hW1 k0 k1 k2 k3 j0 j1 j2 j3
      refine region_q none' W1 (.qs [0, 1, 2, 3, 4, 8, 9, 10, 11] (.one 5 true (.qs [6, 7] (.one 12 true (.one 13 false (.one 14 false (.one 15 false .fin))))))) (by kernel_rfl) (by kernel_rfl) (fun dst v c a w h => by cases dst <;> exact h) ?_
      refine ⟨In.of (Ext.refl _ _).drew, ?_⟩
      change wpQuiet _ _ (fun w' => ∃ t : LaterF none' W1, w' = t.w) _ _ _
      simp only [sel, List.getElem?_cons_succ, List.getElem?_cons_zero]
      repeat (go_big_quiet_step (fail))
      refine wpQuiet_nil ?_
      simp only [wpTreeQ, stepT, sel, List.getElem?_cons_succ, List.getElem?_cons_zero]
      have D1 := hid (Ext.refl none' W1).drew
      clear y2 z2 i0 i1 i2 i3
      go_wp2_with fail
      refine (CE.out _ _ _ (HX0.out.ext isNd_good D1.out fun _ _ h => h) (TP.out _)).mono ?_
      rintro e w2 ⟨rfl, X2⟩
      have X2 := hid (D1.out.trans X2)
      go_wp2_with fail
      refine ⟨In.of X2.out, In.of X2.out, ?_⟩
      change wpQuiet _ _ (fun w' => ∃ t : LaterF none' W1, w' = t.w) _ _ _
      repeat (go_big_quiet_step (fail))
      refine wpQuiet_nil ?_
      go_wp2_with fail
      refine (CP.out _ _ _ ⟨_, rfl, HX1.out.ext isNd_good X2.out fun _ _ h => h⟩ (TT.out _)).mono ?_
      rintro e w3 ⟨rfl, X3⟩
      have X3 := hid (X2.out.trans X3)
      go_wp2_with fail
      refine ⟨In.of X3.out, ?_⟩
      go_wp2_with fail
      have Y := hid ((Ext.refl none' w3).alloc (.cells #[.string ⟨(([102, 117, 110, 99, 40] ++ qj) ++ [41]).toArray⟩, .string ⟨qo.toArray⟩] 9))
      refine (CB.out _ _ (isStrs_two (heap_alloc_at rfl _))).mono ?_
      rintro e w4 ⟨rfl, X4⟩
      have X4 := hid (X1.out.trans (X3.out.trans (Y.out.trans X4)))
      go_wp2_with fail
      go_ret
      exact ⟨rfl, X4.out⟩
    · rw [if_neg h12] at hr
      obtain h10 : tk = 10 := by
       by_cases h : tk = 10
       · exact h
       · rw [if_neg h, if_neg h11, if_neg h12] at htt
         cases htt
      subst h10
      rw [if_pos rfl] at htt
      simp only [Bool.and_eq_true, List.all_eq_true] at htt
      have hnl := nmB_len _ htt.1
      by_cases hk : t.kids = []
      · rw [if_pos hk] at hr
        have HR := hid hr
        have hl0 : t.kids.length = 0 := by rw [hk]; rfl
        have hlz : ((t.kids.length : Int) == 0) = true := by rw [hl0]; rfl
        clear hr hk htt htk h11 h12 q11 HLEN HG hts H ih hf hkl hnl hsz
        go_enter Tryz.func22, Tryz.ntmps22
        go_wp2_with fail
        go_ret
        exact ⟨by rw [HR.out]; rfl, (Ext.refl _ _).alloc _⟩
      · rw [if_neg hk] at hr
        have hl0 : 0 < t.kids.length := List.length_pos_iff.2 hk
        have hlz : ((t.kids.length : Int) == 0) = false := by simp only [beq_eq_false_iff_ne]; omega
        have hst : 1 + Nd.sizeL t.kids ≤ t.size := by
         cases t with
         | mk k n kids ps => simp only [Nd.size, Nd.kids]; omega
        have hls := lens_size (p := typF f) (l := t.kids) fun y hy => HLEN.out y (by have := Nd.size_kid hy; omega) (htt.2 y hy)
        have hj := join_take (t.kids.map (typF f)) sComma
        rw [List.length_map] at hj
        have hc : sComma.length = 2 := rfl
        rw [hc] at hj
        have HD : ∀ (i : Nat) (h : i < t.kids.length), TyD f t.kids[i] := fun i hi => ⟨by have := Nd.size_kid (List.getElem_mem hi); omega, htt.2 _ (List.getElem_mem hi)⟩
        have CE := hid fun W u (X : Ext none' w W) (hu : TellV (TyD f) (typF f) W u) => each_any _ _ sComma t.kids (.slice a1 t.kids.length cap1) u W (HX.out.ext isNd_good X fun _ _ h => h) hu HD hkl (by rw [hc]; omega)
        have TT := hid fun W => typ_tell H W
        obtain ⟨q, hq⟩ : ∃ q, Lib.join (t.kids.map (typF f)) sComma = q := ⟨_, rfl⟩
        rw [hq] at hr CE hj
        have hql : q.length ≤ 10000000000000 := by omega
        have cat1 := str_cat t.text [91]
        have cat2 := str_cat (t.text ++ [91]) q
        have cat3 := str_cat (t.text ++ 91 :: q) [93]
        have HR := hid hr
        clear hr hk htt htk h11 h12 q11 HLEN hts H ih hf hkl hsz hst hls hj hc HD hq
        go_enter Tryz.func22, Tryz.ntmps22
        go_upto_region 10 with (fail)
        obtain ⟨W1, hW1⟩ : ∃ W1, W1 = w.alloc (.cells #[.int .i64 10, .string ⟨t.text.toArray⟩, .slice a1 t.kids.length cap1, .int .i64 t.pos] 24) := ⟨_, rfl⟩
        rw [← hW1] at HG ⊢
        have X1 := hid (show Ext none' w W1 by rw [hW1]; exact (Ext.refl _ _).alloc _)
        have y1 := fun t' : LaterF none' W1 => cell_at (t'.x.heap HG.out fun h => h) 1
        have y2 := fun t' : LaterF none' W1 => cell_at (t'.x.heap HG.out fun h => h) 2
        simp only [List.getElem?_toArray, List.getElem?_cons_zero, List.getElem?_cons_succ] at y1 y2
        clear hW1
        refine region_q none' W1 (.qs [0, 1, 2, 3, 4] (.one 5 true (.one 6 false (.one 7 false (.one 8 false .fin))))) (by kernel_rfl) (by kernel_rfl) (fun dst v c a w h => by cases dst <;> exact h) ?_
        refine ⟨In.of (Ext.refl _ _).drew, ?_⟩
        change wpQuiet _ _ (fun w' => ∃ t : LaterF none' W1, w' = t.w) _ _ _
        simp only [sel, List.getElem?_cons_succ, List.getElem?_cons_zero]
        repeat (go_big_quiet_step (fail))
        refine wpQuiet_nil ?_
        simp only [wpTreeQ, stepT, sel, List.getElem?_cons_succ, List.getElem?_cons_zero]
        have D1 := hid (Ext.refl none' W1).drew
        clear y1 y2
        go_wp2_with fail
        refine (CE.out _ _ (X1.out.trans D1.out) (TT.out _)).mono ?_
        rintro e w2 ⟨rfl, X2⟩
        have X2 := hid (D1.out.trans X2)
        go_wp2_with fail
        refine ⟨In.of X2.out, ?_⟩
        go_wp2_with fail
        go_ret
        exact ⟨by rw [HR.out]; simp, X1.out.trans X2.out⟩
end Go.Proofs.YthbmjamgidfneaaGreatDoor
namespace Go.Proofs.YthbmjamgidfneaaGreatDoor
open Go.Lib
def hexT : List UInt8 := [48, 49, 50, 51, 52, 53, 54, 55, 56, 57, 97, 98, 99, 100, 101, 102]
def hexd (n : Nat) : UInt8 := hexT.getD n 0
def quoteB (c : UInt8) : List UInt8 :=
 if c = 34 ∨ c = 92 then [92, c] else if c = 10 then [92, 110] else if c = 9 then [92, 116] else if 32 ≤ c.toNat ∧ c.toNat ≤ 126 then [c] else [92, 120, hexd (c.toNat / 16), hexd (c.toNat % 16)]
def quoteP (s : List UInt8) : List UInt8 := 34 :: (s.flatMap quoteB ++ [34])
theorem quoteB_len (c : UInt8) : 1 ≤ (quoteB c).length ∧ (quoteB c).length ≤ 4 := by
 unfold quoteB; repeat' split
 all_goals simp
theorem quotes_len : ∀ s : List UInt8, (s.flatMap quoteB).length ≤ 4 * s.length
 | [] => by simp
 | c :: t => by
  have := quotes_len t
  have := (quoteB_len c).2
  rw [List.flatMap_cons, List.length_append, List.length_cons]; omega
theorem quoteP_len (s : List UInt8) : 2 ≤ (quoteP s).length ∧ (quoteP s).length ≤ 4 * s.length + 2 := by
 have := quotes_len s
 unfold quoteP
 rw [List.length_cons, List.length_append, List.length_singleton]; omega
theorem flatMap_take (s : List UInt8) (i : Nat) (h : i < s.length) : (s.take (i + 1)).flatMap quoteB = (s.take i).flatMap quoteB ++ quoteB (s[i]'h) := by
 have e : s.take (i + 1) = s.take i ++ [s[i]'h] := by rw [List.take_add_one, List.getElem?_eq_getElem h]; rfl
 rw [e, List.flatMap_append]; simp
def plainP (s : List UInt8) : Bool := s.all (fun c => decide (48 ≤ c.toNat) && decide (c.toNat ≤ 57)) && (s == [48] || (!s.isEmpty && decide (s.length ≤ 200) && s.head? != some 48))
end Go.Proofs.YthbmjamgidfneaaGreatDoor
namespace Go.Proofs.YthbmjamgidfneaaGreatDoor
open Go.RowKit Go.Lib
def unB (s : List UInt8) : Bool := s == [45] || s == [33]
def binS : List (List UInt8) := [[43], [45], [42], [47], [37], [61, 61], [33, 61], [60], [60, 61], [62], [62, 61], [38, 38], [124, 124]]
def binB (s : List UInt8) : Bool := binS.contains s
def incB (s : List UInt8) : Bool := s == [43, 43] || s == [45, 45]
def bndB (s : List UInt8) : Bool := nmB s && s != [95]
def strB (s : List UInt8) : Bool := decide (s.length ≤ 1000)
def tldB (s : List UInt8) : Bool := s == [] || s == [126]
def rngB (s : List UInt8) : Bool := if s.contains 44 then nmB (s.takeWhile (· != 44)) && bndB ((s.dropWhile (· != 44)).drop 1) else s == [] || bndB s
def orB (p q : Nd → Bool) (t : Nd) : Bool := p t || q t
def blkB (st : Nd → Bool) (t : Nd) : Bool := t.kind == 36 && (t.text == [] && t.kids.all st)
def interB (ty : Nd → Bool) (t : Nd) : Bool := t.kind == 14 && (t.text == [] && (!t.kids.isEmpty && t.kids.all (namB tldB 15 [ty])))
def structB (ty : Nd → Bool) (t : Nd) : Bool := t.kind == 13 && (t.text == [] && t.kids.all (namB nmB 9 [ty]))
def nam1B (ty : Nd → Bool) (t : Nd) : Bool := t.kind == 10 && ty t
def parB (ty : Nd → Bool) (t : Nd) : Bool := namB nmB 7 [orB (nam1B ty) (interB ty)] t
def parsB (ty : Nd → Bool) (t : Nd) : Bool := listB (parB ty) t
def varB (ty ex : Nd → Bool) (t : Nd) : Bool := namB nmB 5 [orB emptyB ty, orB emptyB ex] t && (!emptyB (t.kid 0) || !emptyB (t.kid 1))
def declB (ty ex st : Nd → Bool) (t : Nd) : Bool :=
 if t.kind = 2 then namB nmB 2 [parsB ty, sigB ty nmB, blkB st] t
 else if t.kind = 3 then namB nmB 3 [parsB ty, orB (orB ty (structB ty)) (interB ty)] t
 else if t.kind = 4 then namB nmB 4 [parsB ty, ty] t
 else varB ty ex t
def fileB (ty ex st : Nd → Bool) (t : Nd) : Bool := t.kind == 1 && (nmB t.text && t.kids.all (declB ty ex st))
def argB (ty ex : Nd → Bool) (t : Nd) : Bool := ex t || (t.kind != 10 && ty t)
def exB (ty ex st : Nd → Bool) (t : Nd) : Bool :=
 if t.kind = 16 then namB plainP 16 [] t
 else if t.kind = 17 then namB strB 17 [] t
 else if t.kind = 18 then namB nmB 18 [] t
 else if t.kind = 19 then namB unB 19 [ex] t
 else if t.kind = 20 then namB binB 20 [ex, ex] t
 else if t.kind = 21 then t.text == [] && (!t.kids.isEmpty && t.kids.all ex)
 else if t.kind = 22 then t.text == [] && (decide (1 < t.kids.length) && (ex (t.kid 0) && (t.kids.drop 1).all (argB ty ex)))
 else if t.kind = 23 then namB nmB 23 [ex] t
 else if t.kind = 24 then t.text == [] && (!t.kids.isEmpty && ((t.kid 0).kind != 12 && (ty (t.kid 0) && (t.kids.drop 1).all ex)))
 else ofB 25 [sigB ty nmB, blkB st] t
def shB (ex : Nd → Bool) (t : Nd) : Bool := namB bndB 26 [ex] t
def setB (ex : Nd → Bool) (t : Nd) : Bool := ofB 27 [ex, ex] t
def incrB (ex : Nd → Bool) (t : Nd) : Bool := namB incB 28 [ex] t
def isCallB (ex : Nd → Bool) (t : Nd) : Bool := t.kind == 21 && ex t
def callB (ex : Nd → Bool) (t : Nd) : Bool := ofB 29 [isCallB ex] t
def ifB (st : Nd → Bool) (t : Nd) : Bool := t.kind == 30 && st t
def ifsB (ex st : Nd → Bool) (t : Nd) : Bool := ofB 30 [ex, blkB st, orB (orB emptyB (blkB st)) (ifB st)] t
def stB (ty ex st : Nd → Bool) (t : Nd) : Bool :=
 if t.kind = 5 then varB ty ex t
 else if t.kind = 26 then shB ex t
 else if t.kind = 27 then setB ex t
 else if t.kind = 28 then incrB ex t
 else if t.kind = 29 then callB ex t
 else if t.kind = 30 then ifsB ex st t
 else if t.kind = 31 then ofB 31 [orB (orB emptyB (shB ex)) (orB (setB ex) (incrB ex)), orB emptyB ex, orB (orB emptyB (setB ex)) (orB (incrB ex) (callB ex)), blkB st] t
 else if t.kind = 32 then namB rngB 32 [ex, blkB st] t
 else if t.kind = 33 then ofB 33 [orB emptyB ex] t
 else if t.kind = 34 then ofB 34 [] t
 else if t.kind = 35 then ofB 35 [] t
 else blkB st t
def lv : Nat → (Nd → Bool) × (Nd → Bool)
 | 0 => (fun _ => false, fun _ => false)
 | f + 1 => (exB (tyF nmB f) (lv f).1 (lv f).2, stB (tyF nmB f) (lv f).1 (lv f).2)
def exF (f : Nat) : Nd → Bool := (lv f).1
def stF (f : Nat) : Nd → Bool := (lv f).2
theorem exF_succ (f : Nat) (t : Nd) : exF (f + 1) t = exB (tyF nmB f) (exF f) (stF f) t := rfl
theorem stF_succ (f : Nat) (t : Nd) : stF (f + 1) t = stB (tyF nmB f) (exF f) (stF f) t := rfl
def tabsT (n : Nat) : List UInt8 := List.replicate n 9
def tightN (s : List UInt8) : Nat := if s = [42] ∨ s = [47] ∨ s = [37] then 5 else if s = [43] ∨ s = [45] then 4 else if s = [38, 38] then 2 else if s = [124, 124] then 1 else 3
abbrev ExT := Nat → Bool → Nd → List UInt8
abbrev StT := Nat → Nd → List UInt8
def brT (ex : ExT) (deep : Nat) (head yes : Bool) (x : Nd) : List UInt8 := if yes then [40] ++ ex deep false x ++ [41] else ex deep head x
def fstT (ex : ExT) (deep : Nat) (head : Bool) (x : Nd) : List UInt8 := brT ex deep head (x.kind == 19 || x.kind == 20) x
def partT (ty : Nd → List UInt8) (ex : ExT) (deep : Nat) (x : Nd) : List UInt8 := if x.kind = 11 ∨ x.kind = 12 then ty x else ex deep false x
def othT (ty : Nd → List UInt8) (ex : ExT) (deep : Nat) (t : Nd) : List UInt8 := Lib.join ((t.kids.drop 1).map (partT ty ex deep)) sComma
def lineT (deep : Nat) (s : List UInt8) : List UInt8 := tabsT deep ++ s ++ [10]
def blT (st : StT) (deep : Nat) (t : Nd) : List UInt8 := [123, 10] ++ (t.kids.map fun k => lineT (deep + 1) (st (deep + 1) k)).flatten ++ (tabsT deep ++ [125])
def paT (ty : Nd → List UInt8) (x : Nd) : List UInt8 := (if x.text = [] then [] else x.text ++ [32]) ++ ty (x.kid 0)
def sigT (ty : Nd → List UInt8) (t : Nd) : List UInt8 := [40] ++ Lib.join ((t.kid 0).kids.map (paT ty)) sComma ++ [41] ++ (if (t.kid 1).kind = 0 then [] else [32] ++ ty (t.kid 1))
def wFunc : List UInt8 := [102, 117, 110, 99]
def exT1 (ty : Nd → List UInt8) (ex : ExT) (st : StT) (deep : Nat) (head : Bool) (t : Nd) : List UInt8 :=
 if t.kind = 17 then quoteP t.text
 else if t.kind = 19 then t.text ++ brT ex deep head ((t.kid 0).kind == 20 || ((t.kid 0).kind == 19 && (t.text == [45] && (t.kid 0).text == [45]))) (t.kid 0)
 else if t.kind = 20 then brT ex deep head ((t.kid 0).kind == 20 && decide (tightN (t.kid 0).text < tightN t.text)) (t.kid 0) ++ [32] ++ t.text ++ [32] ++ brT ex deep head ((t.kid 1).kind == 20 && decide (tightN (t.kid 1).text ≤ tightN t.text)) (t.kid 1)
 else if t.kind = 21 then fstT ex deep head (t.kid 0) ++ [40] ++ othT ty ex deep t ++ [41]
 else if t.kind = 22 then fstT ex deep head (t.kid 0) ++ [91] ++ othT ty ex deep t ++ [93]
 else if t.kind = 23 then fstT ex deep head (t.kid 0) ++ [46] ++ t.text
 else if t.kind = 24 then (if head ∧ (t.kid 0).kind = 10 then [40] ++ (ty (t.kid 0) ++ [123] ++ othT ty ex deep t ++ [125]) ++ [41] else ty (t.kid 0) ++ [123] ++ othT ty ex deep t ++ [125])
 else if t.kind = 25 then wFunc ++ sigT ty (t.kid 0) ++ [32] ++ blT st deep (t.kid 1)
 else t.text
def wVar : List UInt8 := [118, 97, 114]
def varT (ty : Nd → List UInt8) (ex : ExT) (deep : Nat) (t : Nd) : List UInt8 :=
 wVar ++ [32] ++ t.text ++ (if (t.kid 0).kind = 0 then [] else [32] ++ ty (t.kid 0)) ++ (if (t.kid 1).kind = 0 then [] else [32, 61, 32] ++ ex deep false (t.kid 1))
def simT (ex : ExT) (deep : Nat) (head : Bool) (t : Nd) : List UInt8 :=
 if t.kind = 26 then t.text ++ [32, 58, 61, 32] ++ ex deep head (t.kid 0)
 else if t.kind = 27 then ex deep head (t.kid 0) ++ [32, 61, 32] ++ ex deep head (t.kid 1)
 else if t.kind = 28 then ex deep head (t.kid 0) ++ t.text
 else ex deep head (t.kid 0)
def wFor : List UInt8 := [102, 111, 114]
def loopT (ex : ExT) (st : StT) (deep : Nat) (t : Nd) : List UInt8 :=
 wFor ++ [32] ++ (if (t.kid 0).kind ≠ 0 ∨ (t.kid 2).kind ≠ 0 then (if (t.kid 0).kind = 0 then [] else simT ex deep true (t.kid 0)) ++ [59, 32] ++ (if (t.kid 1).kind = 0 then [] else ex deep true (t.kid 1)) ++ [59, 32] ++ (if (t.kid 2).kind = 0 then [] else simT ex deep true (t.kid 2) ++ [32])
  else if (t.kid 1).kind = 0 then [] else ex deep true (t.kid 1) ++ [32]) ++ blT st deep (t.kid 3)
def rngT (s : List UInt8) : List UInt8 := if s = [] then [] else (s.flatMap fun c => if c = 44 then [44, 32] else [c]) ++ [32, 58, 61, 32]
def stT1 (ty : Nd → List UInt8) (ex : ExT) (st : StT) (deep : Nat) (t : Nd) : List UInt8 :=
 if t.kind = 5 then varT ty ex deep t
 else if t.kind = 26 ∨ t.kind = 27 ∨ t.kind = 28 ∨ t.kind = 29 then simT ex deep false t
 else if t.kind = 30 then [105, 102, 32] ++ ex deep true (t.kid 0) ++ [32] ++ blT st deep (t.kid 1) ++ (if (t.kid 2).kind = 0 then [] else [32, 101, 108, 115, 101, 32] ++ st deep (t.kid 2))
 else if t.kind = 31 then loopT ex st deep t
 else if t.kind = 32 then wFor ++ [32] ++ rngT t.text ++ [114, 97, 110, 103, 101, 32] ++ ex deep true (t.kid 0) ++ [32] ++ blT st deep (t.kid 1)
 else if t.kind = 33 then [114, 101, 116, 117, 114, 110] ++ (if (t.kid 0).kind = 0 then [] else [32] ++ ex deep false (t.kid 0))
 else if t.kind = 34 then [98, 114, 101, 97, 107]
 else if t.kind = 35 then [99, 111, 110, 116, 105, 110, 117, 101]
 else blT st deep t
def lvT : Nat → ExT × StT
 | 0 => (fun _ _ _ => [], fun _ _ => [])
 | f + 1 => (exT1 (typF f) (lvT f).1 (lvT f).2, stT1 (typF f) (lvT f).1 (lvT f).2)
def exT (f : Nat) : ExT := (lvT f).1
def stT (f : Nat) : StT := (lvT f).2
theorem exT_succ (f deep : Nat) (head : Bool) (t : Nd) : exT (f + 1) deep head t = exT1 (typF f) (exT f) (stT f) deep head t := rfl
theorem stT_succ (f deep : Nat) (t : Nd) : stT (f + 1) deep t = stT1 (typF f) (exT f) (stT f) deep t := rfl
def inT (ty : Nd → List UInt8) (t : Nd) : List UInt8 := if t.kind = 14 then [105, 110, 116, 101, 114, 102, 97, 99, 101, 123, 32] ++ Lib.join (t.kids.map fun x => x.text ++ ty (x.kid 0)) [32, 124, 32] ++ [32, 125] else ty t
def parsT (ty : Nd → List UInt8) (t : Nd) : List UInt8 := if t.kids = [] then [] else [91] ++ Lib.join (t.kids.map fun x => x.text ++ [32] ++ inT ty (x.kid 0)) sComma ++ [93]
def wType : List UInt8 := [116, 121, 112, 101, 32]
def declT (ty : Nd → List UInt8) (ex : ExT) (st : StT) (t : Nd) : List UInt8 :=
 if t.kind = 2 then [102, 117, 110, 99, 32] ++ t.text ++ parsT ty (t.kid 0) ++ sigT ty (t.kid 1) ++ [32] ++ blT st 0 (t.kid 2)
 else if t.kind = 3 then wType ++ t.text ++ parsT ty (t.kid 0) ++ [32] ++ (if (t.kid 1).kind = 13 then [115, 116, 114, 117, 99, 116, 32, 123, 10] ++ ((t.kid 1).kids.map fun x => lineT 1 (x.text ++ [32] ++ ty (x.kid 0))).flatten ++ [125] else inT ty (t.kid 1))
 else if t.kind = 4 then wType ++ t.text ++ parsT ty (t.kid 0) ++ [32, 61, 32] ++ ty (t.kid 1)
 else varT ty ex 0 t
def fileT (ty : Nd → List UInt8) (ex : ExT) (st : StT) (t : Nd) : List UInt8 := [112, 97, 99, 107, 97, 103, 101, 32] ++ t.text ++ [10] ++ (t.kids.map fun d => [10] ++ declT ty ex st d ++ [10]).flatten
end Go.Proofs.YthbmjamgidfneaaGreatDoor
