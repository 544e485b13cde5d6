import Derived.Test.YthbmjamgidfneaaGreatDoorVAb
import Derived.Test.YthbmjamgidfneaaGreatDoorVAc
import Derived.Test.YthbmjamgidfneaaGreatDoorVAe
import Derived.Deep.Cut
set_option maxRecDepth 100000
set_option maxHeartbeats 6400000
namespace Go.Proofs.YthbmjamgidfneaaGreatDoor
open Go.RowKit Go.Lib Go.BigFrame
def nmB (s : List UInt8) : Bool := decide (s.length ≤ 100) && nameB s
theorem tname_any (s : List UInt8) (w : World) : Calls Tryz.prog 99 #[.string ⟨s.toArray⟩] w (BoolP (nmB s) w) := by
 obtain ⟨r, hr⟩ : ∃ r, r = nmB s := ⟨_, rfl⟩
 rw [← hr]
 unfold nmB at hr
 by_cases hs : s.length ≤ 100
 · have q : decide (s.length ≤ 100) = true := decide_eq_true hs
   rw [q] at hr
   have HR := hid hr
   have CN := hid fun W => name_any s W (by omega)
   obtain ⟨b, hb⟩ : ∃ b, nameB s = b := ⟨_, rfl⟩
   rw [hb] at CN HR
   have hz : (s.length : Int) ≤ 100 := by omega
   clear hr hb
   go_enter Tryz.func99, Tryz.ntmps99
   go_wp2_with fail
   refine (CN.out _).mono ?_
   rintro e w1 ⟨rfl, X1⟩
   have X1 := hid X1
   go_wp2_with fail
   go_ret
   exact ⟨by rw [HR.out]; cases b <;> rfl, X1.out⟩
 · have q : decide (s.length ≤ 100) = false := decide_eq_false hs
   rw [q] at hr
   have HR := hid hr
   have hz : ¬ (s.length : Int) ≤ 100 := by omega
   clear hr
   go_enter Tryz.func99, Tryz.ntmps99
   go_wp2_with fail
   go_ret
   exact ⟨by rw [HR.out]; rfl, Ext.refl _ _⟩
theorem tname_so (w : World) : SoV nmB w (.func (.func 99) #[] #[]) :=
 ⟨_, _, rfl, Go.Proofs.enters_of Tryz.func99 (by kernel_rfl) rfl, fun s W _ _ => tname_any s W⟩
theorem noT_so (w : World) : SoV noT w (.func (.func 145) #[] #[]) := by
 refine ⟨_, _, rfl, Go.Proofs.enters_of Tryz.func145 (by kernel_rfl) rfl, fun s W _ _ => ?_⟩
 show Calls Tryz.prog 145 #[_] W (BoolP (s == []) W)
 obtain ⟨q, hq⟩ : ∃ q, (s == []) = q := ⟨_, rfl⟩
 rw [hq]
 go_enter Tryz.func145, Tryz.ntmps145
 go_wp2_with fail
 go_ret
 exact ⟨rfl, Ext.refl _ _⟩
abbrev TyH (f : Nat) (ty : Nd → Bool) : Prop := ∀ (t : Nd), t.size ≤ f → ∀ (v : Value) (w : World), NdV none' w t v → Calls Tryz.prog 102 #[v] w (BoolP (ty t) w)
theorem type_ask {f : Nat} {ty : Nd → Bool} (H : TyH f ty) (w : World) : AskV f ty w (.func (.func 102) #[] #[]) :=
 ⟨_, _, rfl, Go.Proofs.enters_of Tryz.func102 (by kernel_rfl) rfl, fun t ht W x _ hx => H t ht x W hx⟩
theorem ofB_named (so : List UInt8 → Bool) (k : Int) (hk : k ≠ 37) (ps : List (Nd → Bool)) (t : Nd) : ofB k ps (namedP so t) = namB so k ps t := by
 unfold ofB namedP namB
 cases so t.text
 · have : ((37 : Int) == k) = false := by simpa using Ne.symm hk
   simp [Nd.kind, this]
 · simp [Nd.kind, Nd.text, Nd.kids]
theorem named_kids {so : List UInt8 → Bool} {t : Nd} {f : Nat} (h : t.size ≤ f) (i : Nat) (hi : i < (namedP so t).kids.length) : (namedP so t).kids[i].size ≤ f := by
 have hm := List.getElem_mem hi
 have : ∀ x ∈ (namedP so t).kids, x.size ≤ f := fun x hx => by
  unfold namedP at hx
  split at hx
  · have := Nd.size_kid (t := t) hx; omega
  · cases hx
 exact this _ hm
theorem named_len (so : List UInt8 → Bool) (t : Nd) (h : t.size ≤ bigD) : (namedP so t).kids.length ≤ bigD := by
 unfold namedP
 split
 · have := t.kids_len; show t.kids.length ≤ bigD; omega
 · exact Nat.zero_le _
theorem sig1_ask (f : Nat) (hf : f ≤ bigD) (ty : Nd → Bool) (H : TyH f ty) (so : List UInt8 → Bool) (w : World) (u : Value) (B : Nat) (hb : w.heap[B]? = some (.cells #[u] 53 (0, 0))) (hu : SoV so w u) :
  AskV f (namB so 8 [ty]) w (.func (.func 183) #[] #[.pointer (some ⟨B, 0, none⟩)]) := by
 refine ⟨_, _, rfl, Go.Proofs.enters_of Tryz.func183 (by kernel_rfl) rfl, fun t ht W x X hx => ?_⟩
 show Calls Tryz.prog 183 #[_, _] _ (BoolP (namB so 8 [ty] t) W)
 rw [← ofB_named so 8 (by omega) [ty] t]
 have CN := hid fun W' (X' : Ext none' W W') => named_any so t x u W' (by have := t.size_text; omega) (hx.ext X' fun _ _ h => h) (hu.ext (X.trans X'))
 have CO := hid fun W' v' u' (hv' : NdV none' W' (namedP so t) v') (hu' : AsksV f [ty] W' u') => of_any f 8 [ty] (namedP so t) v' u' W' (named_len so t (by omega)) (by simp) (fun i hi => named_kids ht i hi) hv' hu'
 obtain ⟨q, hq⟩ : ∃ q, ofB 8 [ty] (namedP so t) = q := ⟨_, rfl⟩
 obtain ⟨r, hr⟩ : ∃ r, namedP so t = r := ⟨_, rfl⟩
 rw [hq] at CO ⊢
 rw [hr] at CN CO
 have TA := hid fun W => type_ask H W
 obtain ⟨y, rfl, hy⟩ := hx
 obtain ⟨a1, cap1, rfl, _⟩ := hy
 obtain ⟨fn, caps, rfl, _⟩ := hu
 have c0 := cell_at (heap_alloc_keep (X.heap hb fun h => h) (.cells #[.int .i64 t.kind, .string ⟨t.text.toArray⟩, .slice a1 t.kids.length cap1, .int .i64 t.pos] 24)) 0
 simp only [List.getElem?_toArray, List.getElem?_cons_zero] at c0
 clear hq hr hb X H ht
 go_enter Tryz.func183, Tryz.ntmps183
 go_wp2_with fail
 refine (CN.out _ ((Ext.refl _ _).alloc _)).mono ?_
 rintro e w1 ⟨v', rfl, hv', X1⟩
 have HV' := hid hv'
 obtain ⟨y', rfl, hy'⟩ := hv'
 obtain ⟨a5, cap5, rfl, _⟩ := hy'
 have X1 := hid (((Ext.refl none' W).alloc _).trans X1)
 go_wp2_with fail
 have Y := (Ext.refl none' w1).alloc (.cells #[.func (.func 102) #[] #[]] 41)
 refine (CO.out _ _ _ (HV'.out.ext Y fun _ _ h => h) (AsksV.lit1 (heap_alloc_at rfl _) (TA.out _))).mono ?_
 rintro e w2 ⟨rfl, X2⟩
 have X2 := hid (X1.out.trans (Y.trans X2))
 clear Y
 go_wp2_with fail
 go_ret
 exact ⟨rfl, X2.out⟩
theorem sig2_ask (f : Nat) (hf : f ≤ bigD) (p : Nd → Bool) (w : World) (u : Value) (B : Nat) (hb : w.heap[B]? = some (.cells #[u] 41 (0, 0))) (hu : AskV f p w u) :
  AskV f (listB p) w (.func (.func 184) #[] #[.pointer (some ⟨B, 0, none⟩)]) := by
 refine ⟨_, _, rfl, Go.Proofs.enters_of Tryz.func184 (by kernel_rfl) rfl, fun t ht W x X hx => ?_⟩
 show Calls Tryz.prog 184 #[_, _] _ (BoolP (listB p t) W)
 have CL := hid fun W' (X' : Ext none' W W') => list_any f p t x u W' (by have := t.kids_len; omega) (fun i hi => by have := Nd.size_kid (t := t) (List.getElem_mem hi); omega) (hx.ext X' fun _ _ h => h) (hu.ext (X.trans X'))
 obtain ⟨q, hq⟩ : ∃ q, listB p t = q := ⟨_, rfl⟩
 rw [hq] at CL ⊢
 obtain ⟨y, rfl, hy⟩ := hx
 obtain ⟨a1, cap1, rfl, _⟩ := hy
 obtain ⟨fn, caps, rfl, _⟩ := hu
 have c0 := cell_at (heap_alloc_keep (X.heap hb fun h => h) (.cells #[.int .i64 t.kind, .string ⟨t.text.toArray⟩, .slice a1 t.kids.length cap1, .int .i64 t.pos] 24)) 0
 simp only [List.getElem?_toArray, List.getElem?_cons_zero] at c0
 clear hq hb X ht
 go_enter Tryz.func184, Tryz.ntmps184
 go_wp2_with fail
 refine (CL.out _ ((Ext.refl _ _).alloc _)).mono ?_
 rintro e w1 ⟨rfl, X1⟩
 have X1 := hid (((Ext.refl none' W).alloc _).trans X1)
 go_wp2_with fail
 go_ret
 exact ⟨rfl, X1.out⟩
theorem sig_any (f : Nat) (hf : f + 1 ≤ bigD) (ty : Nd → Bool) (H : TyH f ty) (so : List UInt8 → Bool) (t : Nd) (ht : t.size ≤ f + 1) (v u : Value) (w : World) (hv : NdV none' w t v) (hu : SoV so w u) :
  Calls Tryz.prog 144 #[v, u] w (BoolP (sigB ty so t) w) := by
 have hf0 : f ≤ bigD := by omega
 have CO := hid fun W v' u' (hv' : NdV none' W t v') (hu' : AsksV f [listB (namB so 8 [ty]), fun r => emptyB r || ty r] W u') => of_any f 12 _ t v' u' W (by have := t.kids_len; omega) (by simp) (fun i hi => by have := Nd.size_kid (t := t) (List.getElem_mem hi); omega) hv' hu'
 have CR := hid fun W => or_any f emptyB ty W _ _ (empty_ask f W) (type_ask H W)
 have HV := hid hv
 have HU := hid hu
 obtain ⟨x, rfl, hx⟩ := hv
 obtain ⟨a1, cap1, rfl, _⟩ := hx
 obtain ⟨fn, caps, rfl, _⟩ := hu
 have S1 := hid fun W (X : Ext none' w W) B hb => sig1_ask f hf0 ty H so W (.func (.func fn) #[] caps) B hb (HU.out.ext X)
 obtain ⟨q, hq⟩ : ∃ q, sigB ty so t = q := ⟨_, rfl⟩
 rw [hq]
 unfold sigB at hq
 rw [hq] at CO
 have hf1 := hid hf0
 have rs := fun (W : World) (a : Addr) (fn : Fn) (fi ca : Array Value) (m : Mode) => run_store Tryz.prog W a (.func fn fi ca) m rfl
 clear hq H hf hf0 ht
 go_enter Tryz.func144, Tryz.ntmps144
 go_upto_region 2 with (fail)
 obtain ⟨B, hB⟩ : ∃ B, B = w.heap.size := ⟨_, rfl⟩
 rw [← hB]
 obtain ⟨W1, hW1⟩ : ∃ W1, W1 = (((w.alloc (.cells #[.int .i64 t.kind, .string ⟨t.text.toArray⟩, .slice a1 t.kids.length cap1, .int .i64 t.pos] 24)).alloc (.cells #[.func (.func fn) #[] caps] 53)).alloc (.cells #[.func (.func 183) #[] #[.pointer (some ⟨B + 1, 0, none⟩)]] 41)) := ⟨_, rfl⟩
 rw [← hW1]
 have X1 := hid (show Ext none' w W1 by rw [hW1]; exact (((Ext.refl _ _).alloc _).alloc _).alloc _)
 have g0 : W1.heap[B]? = some (.cells #[.int .i64 t.kind, .string ⟨t.text.toArray⟩, .slice a1 t.kids.length cap1, .int .i64 t.pos] 24 (0, 0)) := by rw [hW1]; exact heap_alloc_keep (heap_alloc_keep (heap_alloc_at hB _) _) _
 have g1 := hid (show W1.heap[B + 1]? = some (.cells #[.func (.func fn) #[] caps] 53 (0, 0)) by rw [hW1]; exact heap_alloc_keep (heap_alloc_at (by rw [hB]; simp) _) _)
 have g2 := hid (show W1.heap[B + 1 + 1]? = some (.cells #[.func (.func 183) #[] #[.pointer (some ⟨B + 1, 0, none⟩)]] 41 (0, 0)) by rw [hW1]; exact heap_alloc_at (by rw [hB]; simp) _)
 obtain ⟨y0, y1, y2, y3⟩ := cell4L fun t' : LaterF none' W1 => t'.x.heap g0 fun h => h
 clear hW1 hB g0 rs
 refine region_q none' W1 (.qs [0, 1] (.one 2 true (.one 3 true (.one 4 false (.one 5 false .fin))))) (by kernel_rfl) (by kernel_rfl) (fun dst v c a w h => by cases dst <;> exact h) ?_
 refine ⟨In.of (Ext.refl _ _).drew, ?_⟩
 change wpQuiet _ _ (fun w' => ∃ t : LaterF none' W1, w' = t.w) _ _ _
 simp only [sel, List.getElem?_cons_succ, List.getElem?_cons_zero]
 repeat (go_big_quiet_step (fail))
 refine wpQuiet_nil ?_
 simp only [wpTreeQ, stepT, sel, List.getElem?_cons_succ, List.getElem?_cons_zero]
 have D1 := hid (Ext.refl none' W1).drew
 clear y0 y1 y2 y3
 go_wp2_with fail
 refine (CR.out _).mono ?_
 rintro e w2 ⟨u2, rfl, hu2, X2⟩
 have X2 := hid (D1.out.trans X2)
 have HU2 := hid hu2
 obtain ⟨fn2, caps2, rfl, _⟩ := hu2
 go_wp2_with fail
 refine ⟨In.of X2.out, ?_⟩
 go_wp2_with fail
 have Y := hid ((Ext.refl none' w2).alloc (.cells #[.func (.func 184) #[] #[.pointer (some ⟨B + 1 + 1, 0, none⟩)], .func (.func fn2) #[] caps2] 41))
 refine ⟨In.of (X2.out.trans Y.out), ?_⟩
 go_wp2_with fail
 have XA := X2.out.trans Y.out
 have XB := X1.out.trans XA
 have K1 := S1.out _ XB (B + 1) (XA.heap g1.out fun h => h)
 have K2 := sig2_ask f hf1.out _ _ _ (B + 1 + 1) (XA.heap g2.out fun h => h) K1
 refine (CO.out _ _ _ (HV.out.ext XB fun _ _ h => h) (AsksV.lit2 (heap_alloc_at rfl _) K2 (HU2.out.ext Y.out))).mono ?_
 rintro e w3 ⟨rfl, X3⟩
 have X3 := hid (XB.trans X3)
 clear XA XB K1 K2
 go_wp2_with fail
 go_ret
 exact ⟨rfl, X3.out⟩
theorem isType_any : ∀ (f : Nat), f ≤ bigD → TyH f (tyF nmB f) := by
 intro f
 induction f with
 | zero => intro _ t ht; have := t.size_pos; omega
 | succ f ih =>
  intro hf t ht v w hv
  have H := ih (by omega)
  have HV := hid hv
  have HK : ∀ (i : Nat) (hi : i < t.kids.length), t.kids[i].size ≤ f := fun i hi => by have := Nd.size_kid (t := t) (List.getElem_mem hi); omega
  have hkl : t.kids.length ≤ bigD := by have := t.kids_len; omega
  obtain ⟨x, rfl, hx⟩ := hv
  have CA := hid fun W (X : Ext none' w W) => all_any (tyF nmB f) t.kids f x _ W hkl (hx.ext isNd_good X fun _ _ h => h) HK (type_ask H W)
  have CO := hid fun W v' u' (hv' : NdV none' W t v') (hu' : AsksV f [tyF nmB f] W u') => of_any f 11 [tyF nmB f] t v' u' W hkl (by simp) HK hv' hu'
  have CS := hid fun W v' u' (hv' : NdV none' W t v') (hu' : SoV noT W u') => sig_any f hf (tyF nmB f) H noT t ht v' u' W hv' hu'
  have CN := hid fun W => tname_any t.text W
  have TA := hid fun W => type_ask H W
  obtain ⟨a1, cap1, rfl, _⟩ := hx
  obtain ⟨r, hr⟩ : ∃ r, r = tyF nmB (f + 1) t := ⟨_, rfl⟩
  rw [← hr]
  rw [tyF] at hr
  obtain ⟨qa, hqa⟩ : ∃ q, t.kids.all (tyF nmB f) = q := ⟨_, rfl⟩
  obtain ⟨qo, hqo⟩ : ∃ q, ofB 11 [tyF nmB f] t = q := ⟨_, rfl⟩
  obtain ⟨qs, hqs⟩ : ∃ q, sigB (tyF nmB f) noT t = q := ⟨_, rfl⟩
  obtain ⟨qn, hqn⟩ : ∃ q, nmB t.text = q := ⟨_, rfl⟩
  rw [hqa, hqo, hqs, hqn] at hr
  rw [hqa] at CA
  rw [hqo] at CO
  rw [hqs] at CS
  rw [hqn] at CN
  clear H HK hkl hqa hqo hqs hqn ht hf ih
  obtain ⟨tk, htk⟩ : ∃ tk, t.kind = tk := ⟨_, rfl⟩
  rw [htk] at hr HV ⊢
  have HG := hid (heap_alloc_at (w := w) rfl (.cells #[.int .i64 tk, .string ⟨t.text.toArray⟩, .slice a1 t.kids.length cap1, .int .i64 t.pos] 24))
  have HTK := hid htk
  clear htk
  by_cases h10 : tk = 10
  · subst h10
    rw [if_pos rfl] at hr
    have HR := hid hr
    clear hr
    cases qn with
    | false =>
     go_enter Tryz.func102, Tryz.ntmps102
     go_wp2_with fail
     refine (CN.out _).mono ?_
     rintro e w1 ⟨rfl, X1⟩
     have X1 := hid (((Ext.refl none' w).alloc _).trans X1)
     go_wp2_with fail
     go_ret
     exact ⟨by rw [HR.out]; rfl, X1.out⟩
    | true =>
     go_enter Tryz.func102, Tryz.ntmps102
     go_wp2_with fail
     refine (CN.out _).mono ?_
     rintro e w1 ⟨rfl, X1⟩
     have c2 := cell_at (X1.heap HG.out fun h => h) 2
     simp only [List.getElem?_toArray, List.getElem?_cons_zero, List.getElem?_cons_succ] at c2
     have X1 := hid (((Ext.refl none' w).alloc _).trans X1)
     go_wp2_with fail
     refine (CA.out _ X1.out).mono ?_
     rintro e w2 ⟨rfl, X2⟩
     have X2 := hid (X1.out.trans X2)
     go_wp2_with fail
     go_ret
     exact ⟨by rw [HR.out]; cases qa <;> rfl, X2.out⟩
  · rw [if_neg h10] at hr
    have q10 : (tk == 10) = false := by simpa using h10
    by_cases h11 : tk = 11
    · subst h11
      rw [if_pos rfl] at hr
      have HR := hid hr
      clear hr h10
      go_enter Tryz.func102, Tryz.ntmps102
      go_wp2_with fail
      have Y := ((Ext.refl none' w).alloc (.cells #[.int .i64 11, .string ⟨t.text.toArray⟩, .slice a1 t.kids.length cap1, .int .i64 t.pos] 24)).alloc (.cells #[.func (.func 102) #[] #[]] 41)
      refine (CO.out _ _ _ (HV.out.ext Y fun _ _ h => h) (AsksV.lit1 (heap_alloc_at (by simp) _) (TA.out _))).mono ?_
      rintro e w1 ⟨rfl, X1⟩
      have X1 := hid (Y.trans X1)
      clear Y
      go_wp2_with fail
      go_ret
      exact ⟨by rw [HR.out]; rfl, X1.out⟩
    · rw [if_neg h11] at hr
      have q11 : (tk == 11) = false := by simpa using h11
      by_cases h12 : tk = 12
      · subst h12
        rw [if_pos rfl] at hr
        have HR := hid hr
        clear hr h10 h11
        go_enter Tryz.func102, Tryz.ntmps102
        go_wp2_with fail
        have Y := ((Ext.refl none' w).alloc (.cells #[.int .i64 12, .string ⟨t.text.toArray⟩, .slice a1 t.kids.length cap1, .int .i64 t.pos] 24))
        refine (CS.out _ _ _ (HV.out.ext Y fun _ _ h => h) (noT_so _)).mono ?_
        rintro e w1 ⟨rfl, X1⟩
        have X1 := hid (Y.trans X1)
        clear Y
        go_wp2_with fail
        go_ret
        exact ⟨by rw [HR.out]; rfl, X1.out⟩
      · rw [if_neg h12] at hr
        have q12 : (tk == 12) = false := by simpa using h12
        have HR := hid hr
        clear hr h10 h11 h12
        go_enter Tryz.func102, Tryz.ntmps102
        go_wp2_with fail
        go_ret
        exact ⟨by rw [HR.out]; rfl, (Ext.refl _ _).alloc _⟩
theorem str_cat (a b : List UInt8) : (⟨a.toArray⟩ : ByteArray) ++ ⟨b.toArray⟩ = ⟨(a ++ b).toArray⟩ := by
 apply ByteArray.ext
 simp
theorem isStrs_two {w : World} {B : Nat} {s t : List UInt8} {ty : TypeId} {fz : Nat × Nat} (h : w.heap[B]? = some (.cells #[.string ⟨s.toArray⟩, .string ⟨t.toArray⟩] ty fz)) : IsStrs none' w (.slice (some ⟨B, 0, none⟩) 2 2) [s, t] :=
 ⟨_, 2, rfl, Nat.le_refl _, (fun h => by cases h), fun _ => ⟨B, 0, rfl, fun h => h, heap_lt h, fun i hi => by
  have h' : i < 2 := hi
  have hi' : i = 0 ∨ i = 1 := by omega
  rcases hi' with rfl | rfl
  · exact ⟨[.string ⟨s.toArray⟩], fun j v hj => by
     match j, hj with
     | 0, hj => simp at hj; subst hj; exact cell_at h 0, rfl⟩
  · exact ⟨[.string ⟨t.toArray⟩], fun j v hj => by
     match j, hj with
     | 0, hj => simp at hj; subst hj; exact cell_at h 1, rfl⟩⟩⟩
abbrev TypH (D : Nd → Prop) (p : Nd → List UInt8) : Prop := ∀ (t : Nd), D t → ∀ (v : Value) (w : World), NdV none' w t v → Calls Tryz.prog 22 #[v] w (StrPost (p t) w)
theorem typ_tell {D : Nd → Prop} {p : Nd → List UInt8} (H : TypH D p) (w : World) : TellV D p w (.func (.func 22) #[] #[]) :=
 TellV.top (Go.Proofs.enters_of Tryz.func22 (by kernel_rfl) rfl) fun t ht W x hx => H t ht x W hx
theorem kid_val {t : Nd} {w : World} {a : Option Addr} {n cap : Nat} (h : IsSl 4 IsNd none' w (.slice a n cap) t.kids) (i : Nat) (hi : i < t.kids.length) :
  ∃ b off x, a = some ⟨b, off, none⟩ ∧ b < w.heap.size ∧ w.cell? ⟨b, off + i * 4, none⟩ = some (.int .i64 (t.kid i).kind) ∧ w.cell? ⟨b, off + i * 4 + 1, none⟩ = some (.string ⟨(t.kid i).text.toArray⟩) ∧ w.cell? ⟨b, off + i * 4 + 2, none⟩ = some x ∧ w.cell? ⟨b, off + i * 4 + 3, none⟩ = some (.int .i64 (t.kid i).pos) ∧ IsSl 4 IsNd none' w x (t.kid i).kids := by
 have e : t.kid i = t.kids[i] := by unfold Nd.kid; rw [List.getD_eq_getElem?_getD, List.getElem?_eq_getElem hi]; rfl
 rw [e]
 obtain ⟨b, off, cs, rfl, _, hb, hcc, hty⟩ := h.at i hi
 obtain ⟨x, rfl, hx⟩ := hty.parts
 exact ⟨b, off, x, rfl, hb, by simpa using hcc 0 _ rfl, by simpa using hcc 1 _ rfl, by simpa using hcc 2 _ rfl, by simpa using hcc 3 _ rfl, hx⟩
theorem param_any (D : Nd → Prop) (p : Nd → List UInt8) (H : TypH D p) (t : Nd) (h1 : 0 < t.kids.length) (hD : D (t.kid 0)) (hb : t.text.length + (p (t.kid 0)).length ≤ 100000000000000) (v : Value) (w : World) (hv : NdV none' w t v) : Calls Tryz.prog 44 #[v] w (StrPost (parF p t) w) := by
 obtain ⟨x, rfl, hx⟩ := hv
 have HX := hid hx
 obtain ⟨a1, cap1, rfl, _⟩ := hx
 have CT := hid fun W v' (hv' : NdV none' W (t.kid 0) v') => H (t.kid 0) hD v' W hv'
 have CB := hid fun W u (hu : IsStrs none' W u [t.text, p (t.kid 0)]) => between_any [32] _ u W hu (by simp) (by simp [Lib.lens]; omega)
 obtain ⟨r, hr⟩ : ∃ r, r = parF p t := ⟨_, rfl⟩
 rw [← hr]
 unfold parF at hr
 rw [← hr] at CB
 obtain ⟨q, hq⟩ : ∃ q, p (t.kid 0) = q := ⟨_, rfl⟩
 rw [hq] at CT CB
 have hl : 0 < t.kids.length := h1
 have h1z : (0 : Int) < (t.kids.length : Int) := by omega
 clear hr hq hD H h1 hb
 go_enter Tryz.func44, Tryz.ntmps44
 go_upto_region 1 with (fail)
 obtain ⟨W1, hW1⟩ : ∃ W1, W1 = w.alloc (.cells #[.int .i64 t.kind, .string ⟨t.text.toArray⟩, .slice a1 t.kids.length cap1, .int .i64 t.pos] 24) := ⟨_, rfl⟩
 rw [← hW1]
 have X1 := hid (show Ext none' w W1 by rw [hW1]; exact (Ext.refl _ _).alloc _)
 have g0 : W1.heap[w.heap.size]? = some (.cells #[.int .i64 t.kind, .string ⟨t.text.toArray⟩, .slice a1 t.kids.length cap1, .int .i64 t.pos] 24 (0, 0)) := by rw [hW1]; exact heap_alloc_at rfl _
 have HX := hid (HX.out.ext isNd_good X1.out fun _ _ h => h)
 obtain ⟨b, off, x0, rfl, hbw, k0, k1, k2, k3, hx0⟩ := kid_val HX.out 0 hl
 simp only [Nat.zero_mul, Nat.add_zero] at k0 k1 k2 k3
 have HX0 := hid hx0
 obtain ⟨a2, cap2, rfl, _⟩ := hx0
 have y1 := fun t' : LaterF none' W1 => cell_at (t'.x.heap g0 fun h => h) 1
 have y2 := fun t' : LaterF none' W1 => cell_at (t'.x.heap g0 fun h => h) 2
 have z0 := fun t' : LaterF none' W1 => (t'.x.cell (p := ⟨b, off, none⟩) hbw (fun h => h)).trans k0
 have z1 := fun t' : LaterF none' W1 => (t'.x.cell (p := ⟨b, off + 1, none⟩) hbw (fun h => h)).trans k1
 have z2 := fun t' : LaterF none' W1 => (t'.x.cell (p := ⟨b, off + 2, none⟩) hbw (fun h => h)).trans k2
 have z3 := fun t' : LaterF none' W1 => (t'.x.cell (p := ⟨b, off + 3, none⟩) hbw (fun h => h)).trans k3
 simp only [List.getElem?_toArray, List.getElem?_cons_zero, List.getElem?_cons_succ] at y1 y2
 clear hW1 g0 k0 k1 k2 k3
 refine region_q none' W1 (.qs [0, 1, 2, 3, 4, 5] (.one 6 true (.one 7 false (.one 8 false (.one 9 false .fin))))) (by kernel_rfl) (by kernel_rfl) (fun dst v c a w h => by cases dst <;> exact h) ?_
 refine ⟨In.of (Ext.refl _ _).drew, ?_⟩
 change wpQuiet _ _ (fun w' => ∃ t : LaterF none' W1, w' = t.w) _ _ _
 simp only [sel, List.getElem?_cons_succ, List.getElem?_cons_zero]
 repeat (go_big_quiet_step (fail))
 refine wpQuiet_nil ?_
 simp only [wpTreeQ, stepT, sel, List.getElem?_cons_succ, List.getElem?_cons_zero]
 have D1 := hid (Ext.refl none' W1).drew
 clear y1 y2 z0 z1 z2 z3
 go_wp2_with fail
 refine (CT.out _ _ ⟨_, rfl, HX0.out.ext isNd_good D1.out fun _ _ h => h⟩).mono ?_
 rintro e w2 ⟨rfl, X2⟩
 have X2 := hid (D1.out.trans X2)
 go_wp2_with fail
 refine ⟨In.of X2.out, ?_⟩
 go_wp2_with fail
 have Y := hid ((Ext.refl none' w2).alloc (.cells #[.string ⟨t.text.toArray⟩, .string ⟨q.toArray⟩] 9))
 refine (CB.out _ _ (isStrs_two (heap_alloc_at rfl _))).mono ?_
 rintro e w3 ⟨rfl, X3⟩
 have X3 := hid (X1.out.trans (X2.out.trans (Y.out.trans X3)))
 go_wp2_with fail
 go_ret
 exact ⟨rfl, X3.out⟩
end Go.Proofs.YthbmjamgidfneaaGreatDoor
namespace Go.Proofs.YthbmjamgidfneaaGreatDoor
open Go.RowKit Go.Lib
theorem mkf_run : ∀ (fn : Fn) (first cap : Array Value) (w : World), (Instr.makeFunc fn first cap).run Tryz.prog w = .ok (.func fn first cap) w := fun _ _ _ _ => rfl
theorem kidA {t : Nd} {w : World} {a : Option Addr} {n cap : Nat} (h : IsSl 4 IsNd none' w (.slice a n cap) t.kids) (hi : 0 < t.kids.length) :
  ∃ b off ka kc, a = some ⟨b, off, none⟩ ∧ Hid (b < w.heap.size) ∧ Hid (IsSl 4 IsNd none' w (.slice ka (t.kid 0).kids.length kc) (t.kid 0).kids) ∧ Hid (K4 w b off (.int .i64 (t.kid 0).kind) (.string ⟨(t.kid 0).text.toArray⟩) (.slice ka (t.kid 0).kids.length kc) (.int .i64 (t.kid 0).pos)) := by
 obtain ⟨b, off, x, rfl, hb, k0, k1, k2, k3, hx⟩ := kid_val h 0 hi
 have HX := hx
 obtain ⟨ka, kc, rfl, _⟩ := hx
 simp only [Nat.zero_mul, Nat.add_zero] at k0 k1 k2 k3
 exact ⟨b, off, ka, kc, rfl, hid hb, hid HX, hid ⟨k0, k1, k2, k3⟩⟩
theorem kidB {t : Nd} {w : World} {b off : Nat} {n cap : Nat} (h : IsSl 4 IsNd none' w (.slice (some ⟨b, off, none⟩) n cap) t.kids) (i j : Nat) (hj : i * 4 = j) (hi : i < t.kids.length) :
  ∃ ka kc, Hid (IsSl 4 IsNd none' w (.slice ka (t.kid i).kids.length kc) (t.kid i).kids) ∧ Hid (K4 w b (off + j) (.int .i64 (t.kid i).kind) (.string ⟨(t.kid i).text.toArray⟩) (.slice ka (t.kid i).kids.length kc) (.int .i64 (t.kid i).pos)) := by
 subst hj
 obtain ⟨b', off', x, e, hb, k0, k1, k2, k3, hx⟩ := kid_val h i hi
 injection e with e
 injection e with e1 e2 _
 subst e1 e2
 have HX := hx
 obtain ⟨ka, kc, rfl, _⟩ := hx
 exact ⟨ka, kc, hid HX, hid ⟨k0, k1, k2, k3⟩⟩
end Go.Proofs.YthbmjamgidfneaaGreatDoor
namespace Go.Proofs.YthbmjamgidfneaaGreatDoor
open Go.RowKit Go.Lib Go.BigFrame
theorem nmB_len (s : List UInt8) (h : nmB s = true) : s.length ≤ 100 := by
 unfold nmB at h
 simp only [Bool.and_eq_true, decide_eq_true_eq] at h
 exact h.1
def ParD (D : Nd → Prop) (p : Nd → List UInt8) (x : Nd) : Prop := 0 < x.kids.length ∧ D (x.kid 0) ∧ x.text.length + (p (x.kid 0)).length ≤ 100000000000000
theorem param_tell {D : Nd → Prop} {p : Nd → List UInt8} (H : TypH D p) (w : World) : TellV (ParD D p) (parF p) w (.func (.func 44) #[] #[]) :=
 TellV.top (Go.Proofs.enters_of Tryz.func44 (by kernel_rfl) rfl) fun t ht W x hx => param_any D p H t ht.1 ht.2.1 ht.2.2 x W hx
def TyD (f : Nat) (t : Nd) : Prop := t.size ≤ f ∧ tyF nmB f t = true
theorem typ_any : ∀ (f : Nat), f ≤ bigD → TypH (TyD f) (typF f) := by
 intro f
 induction f with
 | zero => intro _ t ht; have := t.size_pos; have := ht.1; omega
 | succ f ih =>
  intro hf t ht v w hv
  have H := ih (by omega)
  obtain ⟨hts, htt⟩ := ht
  obtain ⟨x, rfl, hx⟩ := hv
  have HX := hid hx
  have hkl : t.kids.length ≤ bigD := by have := t.kids_len; omega
  have HLEN := hid fun y (h1 : y.size ≤ f) h2 => typF_len nmB_len f y h2 h1
  have hsz : t.size ≤ 20000000000 := by unfold bigD at hf; omega
  obtain ⟨a1, cap1, rfl, _⟩ := hx
  obtain ⟨r, hr⟩ : ∃ r, r = typF (f + 1) t := ⟨_, rfl⟩
  rw [← hr]
  rw [typF] at hr
  rw [tyF] at htt
  have HG := hid (heap_alloc_at (w := w) rfl (.cells #[.int .i64 t.kind, .string ⟨t.text.toArray⟩, .slice a1 t.kids.length cap1, .int .i64 t.pos] 24))
  obtain ⟨tk, htk⟩ : ∃ tk, t.kind = tk := ⟨_, rfl⟩
  rw [htk] at hr htt HG ⊢
  by_cases h11 : tk = 11
  · subst h11
    rw [if_pos rfl] at hr
    rw [if_neg (by omega), if_pos rfl] at htt
    obtain ⟨y, hy, hty⟩ := one_kid (ofB_parts htt).2.2
    have hl : 0 < t.kids.length := by rw [hy]; simp
    have hl1 : (0 : Int) < (t.kids.length : Int) := by omega
    have e0 : t.kid 0 = y := by unfold Nd.kid; rw [hy]; rfl
    have hys : y.size ≤ f := by have := Nd.size_kid (t := t) (x := y) (by rw [hy]; simp); omega
    have hlen := HLEN.out y hys hty
    have CT := hid fun W v' (hv' : NdV none' W (t.kid 0) v') => H (t.kid 0) (by rw [e0]; exact ⟨hys, hty⟩) v' W hv'
    obtain ⟨q, hq⟩ : ∃ q, typF f (t.kid 0) = q := ⟨_, rfl⟩
    rw [hq] at hr CT
    have hql : q.length ≤ 10000000000000 := by rw [← hq, e0]; have := y.size_pos; unfold bigD at hf; omega
    have cat := str_cat [91, 93] q
    have HR := hid hr
    obtain ⟨b, off, x0, rfl, hbw, k0, k1, k2, k3, hx0⟩ := kid_val HX.out 0 hl
    simp only [Nat.zero_mul, Nat.add_zero] at k0 k1 k2 k3
    have HX0 := hid hx0
    obtain ⟨a2, cap2, rfl, _⟩ := hx0
    clear hr hq hlen hys hty hy htt htk HLEN HG hts H ih e0 hf
    go_enter Tryz.func22, Tryz.ntmps22
    go_wp2_with fail
    refine (CT.out _ _ ⟨_, rfl, HX0.out.ext isNd_good ((Ext.refl none' w).alloc _) fun _ _ h => h⟩).mono ?_
    rintro e w1 ⟨rfl, X1⟩
    have X1 := hid (((Ext.refl none' w).alloc _).trans X1)
    clear k0 k1 k2 k3
    go_wp2_with fail
    go_ret
    exact ⟨by rw [HR.out]; rfl, X1.out⟩
  · rw [if_neg h11] at hr
    have q11 : (tk == 11) = false := by simpa using h11
    by_cases h12 : tk = 12
    · subst h12
      rw [if_pos rfl] at hr
      rw [if_neg (by omega), if_neg (by omega), if_pos rfl] at htt
      obtain ⟨l, rr, hk, hlk, hlt, hps, hrr⟩ := (sigB_parts htt).2.2
      have hll : t.kids.length = 2 := by rw [hk]; rfl
      have hl0 : 0 < t.kids.length := by omega
      have hl1 : 1 < t.kids.length := by omega
      have e0 : t.kid 0 = l := by unfold Nd.kid; rw [hk]; rfl
      have e1 : t.kid 1 = rr := by unfold Nd.kid; rw [hk]; rfl
      have hsl : l.size < t.size := Nd.size_kid (t := t) (x := l) (by rw [hk]; simp)
      have hsr : rr.size < t.size := Nd.size_kid (t := t) (x := rr) (by rw [hk]; simp)
      obtain ⟨L1, L2, L3, L4⟩ := sigF_len (p := typF f) (fun s hs => by unfold noT at hs; simp at hs; subst hs; simp) htt fun x hx htx => HLEN.out x (by omega) htx
      rw [e0] at L2 L4
      rw [e1] at L3
      have HP : ∀ (i : Nat) (h : i < l.kids.length), ParD (TyD f) (typF f) l.kids[i] := fun i hi => by
       obtain ⟨_, h2, y, hy, hty⟩ := hps _ (List.getElem_mem hi)
       have e : l.kids[i].kid 0 = y := by unfold Nd.kid; rw [hy]; rfl
       have s1 := Nd.size_kid (List.getElem_mem hi)
       have s2 : y.size < l.kids[i].size := Nd.size_kid (by rw [hy]; simp)
       have := HLEN.out y (by omega) hty
       refine ⟨by rw [hy]; simp, by rw [e]; exact ⟨by omega, hty⟩, ?_⟩
       have h2' : l.kids[i].text = [] := by unfold noT at h2; simpa using h2
       rw [e, h2']
       simp only [List.length_nil]
       omega
      have hlk : l.kids.length ≤ bigD := by have := l.kids_len; unfold bigD at hf ⊢; omega
      have hls := lens_size (p := parF (typF f)) L4
      have hsz2 := Nd.sizeL_len l.kids
      have hslL : Nd.sizeL l.kids < l.size := by
       cases l with
       | mk k n kids ps => simp only [Nd.size, Nd.kids]; omega
      have CE := hid fun W u v' (hv' : IsSl 4 IsNd none' W v' l.kids) (hu : TellV (ParD (TyD f) (typF f)) (parF (typF f)) W u) => each_any _ _ sComma l.kids v' u W hv' hu HP hlk (by
       have hc : sComma.length = 2 := rfl
       rw [hc]; omega)
      have CP := hid fun W u v' (hv' : NdV none' W (t.kid 1) v') (hu : TellV (TyD f) (typF f) W u) => optional_any (TyD f) (typF f) (t.kid 1) v' u W hv' hu (fun hk => by
       rw [e1] at hk ⊢
       rcases hrr with hrr | hrr
       · exact absurd (emptyB_kind hrr) hk
       · exact ⟨by omega, hrr⟩)
      have TT := hid fun W => typ_tell H W
      have TP := hid fun W => param_tell H W
      unfold sigF at hr
      rw [e0] at hr
      obtain ⟨qj, hqj⟩ : ∃ q, Lib.join (l.kids.map (parF (typF f))) sComma = q := ⟨_, rfl⟩
      obtain ⟨qo, hqo⟩ : ∃ q, optT (typF f) (t.kid 1) = q := ⟨_, rfl⟩
      rw [hqj] at hr CE L2
      rw [hqo] at hr CP
      rw [e1] at hqo
      rw [hqo] at L3
      have hqjl : qj.length ≤ 10000000000000 := by omega
      have hqol : qo.length ≤ 10000000000000 := by omega
      have CB := hid fun W u (hu : IsStrs none' W u [([102, 117, 110, 99, 40] ++ qj) ++ [41], qo]) => between_any [32] _ u W hu (by simp) (by simp [Lib.lens]; omega)
      rw [← hr] at CB
      have cat1 := str_cat [102, 117, 110, 99, 40] qj
      have cat2 := str_cat ([102, 117, 110, 99, 40] ++ qj) [41]
      have HCE : Hid (l.kids = (t.kid 0).kids) := hid (by rw [e0])
      rw [HCE.out] at CE
      have hll1 : (0 : Int) < (t.kids.length : Int) := by omega
      have hll2 : (1 : Int) < (t.kids.length : Int) := by omega
      clear hr hqj hqo e0 e1 hsl hsr L1 L2 L3 L4 HP hlk hls hsz2 hslL HCE hk hll hps hrr hlt htt h11 HLEN H ih hf hts hsz htk
      go_enter Tryz.func22, Tryz.ntmps22
      go_upto_region 5 with (fail)
      obtain ⟨W1, hW1⟩ : ∃ W1, W1 = w.alloc (.cells #[.int .i64 12, .string ⟨t.text.toArray⟩, .slice a1 t.kids.length cap1, .int .i64 t.pos] 24) := ⟨_, rfl⟩
      rw [← hW1] at HG ⊢
      have X1 := hid (show Ext none' w W1 by rw [hW1]; exact (Ext.refl _ _).alloc _)
      have HX := hid (HX.out.ext isNd_good X1.out fun _ _ h => h)
      obtain ⟨b, off, x0, rfl, hbw, k0, k1, k2, k3, hx0⟩ := kid_val HX.out 0 hl0
      simp only [Nat.zero_mul, Nat.add_zero] at k0 k1 k2 k3
      obtain ⟨b', off', x1, e5, hbw', j0, j1, j2, j3, hx1⟩ := kid_val HX.out 1 hl1
      injection e5 with e5
      injection e5 with e5 e6
      subst e5 e6
      have HX0 := hid hx0
      have HX1 := hid hx1
      obtain ⟨a2, cap2, rfl, _⟩ := hx0
      obtain ⟨a3, cap3, rfl, _⟩ := hx1
      simp only [Nat.one_mul] at j0 j1 j2 j3
      have y2 := fun t' : LaterF none' W1 => cell_at (t'.x.heap HG.out fun h => h) 2
      have z2 := fun t' : LaterF none' W1 => (t'.x.cell (p := ⟨b, off + 2, none⟩) hbw (fun h => h)).trans k2
      have i0 := fun t' : LaterF none' W1 => (t'.x.cell (p := ⟨b, off + 4, none⟩) hbw (fun h => h)).trans j0
      have i1 := fun t' : LaterF none' W1 => (t'.x.cell (p := ⟨b, off + 4 + 1, none⟩) hbw (fun h => h)).trans j1
      have i2 := fun t' : LaterF none' W1 => (t'.x.cell (p := ⟨b, off + 4 + 2, none⟩) hbw (fun h => h)).trans j2
      have i3 := fun t' : LaterF none' W1 => (t'.x.cell (p := ⟨b, off + 4 + 3, none⟩) hbw (fun h => h)).trans j3
      simp only [List.getElem?_toArray, List.getElem?_cons_zero, List.getElem?_cons_succ] at y2
      clear hW1 k0 k1 k2 k3 j0 j1 j2 j3
      refine region_q none' W1 (.qs [0, 1, 2, 3, 4, 8, 9, 10, 11] (.one 5 true (.qs [6, 7] (.one 12 true (.one 13 false (.one 14 false (.one 15 false .fin))))))) (by kernel_rfl) (by kernel_rfl) (fun dst v c a w h => by cases dst <;> exact h) ?_
      refine ⟨In.of (Ext.refl _ _).drew, ?_⟩
      change wpQuiet _ _ (fun w' => ∃ t : LaterF none' W1, w' = t.w) _ _ _
      simp only [sel, List.getElem?_cons_succ, List.getElem?_cons_zero]
      repeat (go_big_quiet_step (fail))
      refine wpQuiet_nil ?_
      simp only [wpTreeQ, stepT, sel, List.getElem?_cons_succ, List.getElem?_cons_zero]
      have D1 := hid (Ext.refl none' W1).drew
      clear y2 z2 i0 i1 i2 i3
      go_wp2_with fail
      refine (CE.out _ _ _ (HX0.out.ext isNd_good D1.out fun _ _ h => h) (TP.out _)).mono ?_
      rintro e w2 ⟨rfl, X2⟩
      have X2 := hid (D1.out.trans X2)
      go_wp2_with fail
      refine ⟨In.of X2.out, In.of X2.out, ?_⟩
      change wpQuiet _ _ (fun w' => ∃ t : LaterF none' W1, w' = t.w) _ _ _
      repeat (go_big_quiet_step (fail))
      refine wpQuiet_nil ?_
      go_wp2_with fail
      refine (CP.out _ _ _ ⟨_, rfl, HX1.out.ext isNd_good X2.out fun _ _ h => h⟩ (TT.out _)).mono ?_
      rintro e w3 ⟨rfl, X3⟩
      have X3 := hid (X2.out.trans X3)
      go_wp2_with fail
      refine ⟨In.of X3.out, ?_⟩
      go_wp2_with fail
      have Y := hid ((Ext.refl none' w3).alloc (.cells #[.string ⟨(([102, 117, 110, 99, 40] ++ qj) ++ [41]).toArray⟩, .string ⟨qo.toArray⟩] 9))
      refine (CB.out _ _ (isStrs_two (heap_alloc_at rfl _))).mono ?_
      rintro e w4 ⟨rfl, X4⟩
      have X4 := hid (X1.out.trans (X3.out.trans (Y.out.trans X4)))
      go_wp2_with fail
      go_ret
      exact ⟨rfl, X4.out⟩
    · rw [if_neg h12] at hr
      obtain h10 : tk = 10 := by
       by_cases h : tk = 10
       · exact h
       · rw [if_neg h, if_neg h11, if_neg h12] at htt
         cases htt
      subst h10
      rw [if_pos rfl] at htt
      simp only [Bool.and_eq_true, List.all_eq_true] at htt
      have hnl := nmB_len _ htt.1
      by_cases hk : t.kids = []
      · rw [if_pos hk] at hr
        have HR := hid hr
        have hl0 : t.kids.length = 0 := by rw [hk]; rfl
        have hlz : ((t.kids.length : Int) == 0) = true := by rw [hl0]; rfl
        clear hr hk htt htk h11 h12 q11 HLEN HG hts H ih hf hkl hnl hsz
        go_enter Tryz.func22, Tryz.ntmps22
        go_wp2_with fail
        go_ret
        exact ⟨by rw [HR.out]; rfl, (Ext.refl _ _).alloc _⟩
      · rw [if_neg hk] at hr
        have hl0 : 0 < t.kids.length := List.length_pos_iff.2 hk
        have hlz : ((t.kids.length : Int) == 0) = false := by simp only [beq_eq_false_iff_ne]; omega
        have hst : 1 + Nd.sizeL t.kids ≤ t.size := by
         cases t with
         | mk k n kids ps => simp only [Nd.size, Nd.kids]; omega
        have hls := lens_size (p := typF f) (l := t.kids) fun y hy => HLEN.out y (by have := Nd.size_kid hy; omega) (htt.2 y hy)
        have hj := join_take (t.kids.map (typF f)) sComma
        rw [List.length_map] at hj
        have hc : sComma.length = 2 := rfl
        rw [hc] at hj
        have HD : ∀ (i : Nat) (h : i < t.kids.length), TyD f t.kids[i] := fun i hi => ⟨by have := Nd.size_kid (List.getElem_mem hi); omega, htt.2 _ (List.getElem_mem hi)⟩
        have CE := hid fun W u (X : Ext none' w W) (hu : TellV (TyD f) (typF f) W u) => each_any _ _ sComma t.kids (.slice a1 t.kids.length cap1) u W (HX.out.ext isNd_good X fun _ _ h => h) hu HD hkl (by rw [hc]; omega)
        have TT := hid fun W => typ_tell H W
        obtain ⟨q, hq⟩ : ∃ q, Lib.join (t.kids.map (typF f)) sComma = q := ⟨_, rfl⟩
        rw [hq] at hr CE hj
        have hql : q.length ≤ 10000000000000 := by omega
        have cat1 := str_cat t.text [91]
        have cat2 := str_cat (t.text ++ [91]) q
        have cat3 := str_cat (t.text ++ 91 :: q) [93]
        have HR := hid hr
        clear hr hk htt htk h11 h12 q11 HLEN hts H ih hf hkl hsz hst hls hj hc HD hq
        go_enter Tryz.func22, Tryz.ntmps22
        go_upto_region 10 with (fail)
        obtain ⟨W1, hW1⟩ : ∃ W1, W1 = w.alloc (.cells #[.int .i64 10, .string ⟨t.text.toArray⟩, .slice a1 t.kids.length cap1, .int .i64 t.pos] 24) := ⟨_, rfl⟩
        rw [← hW1] at HG ⊢
        have X1 := hid (show Ext none' w W1 by rw [hW1]; exact (Ext.refl _ _).alloc _)
        have y1 := fun t' : LaterF none' W1 => cell_at (t'.x.heap HG.out fun h => h) 1
        have y2 := fun t' : LaterF none' W1 => cell_at (t'.x.heap HG.out fun h => h) 2
        simp only [List.getElem?_toArray, List.getElem?_cons_zero, List.getElem?_cons_succ] at y1 y2
        clear hW1
        refine region_q none' W1 (.qs [0, 1, 2, 3, 4] (.one 5 true (.one 6 false (.one 7 false (.one 8 false .fin))))) (by kernel_rfl) (by kernel_rfl) (fun dst v c a w h => by cases dst <;> exact h) ?_
        refine ⟨In.of (Ext.refl _ _).drew, ?_⟩
        change wpQuiet _ _ (fun w' => ∃ t : LaterF none' W1, w' = t.w) _ _ _
        simp only [sel, List.getElem?_cons_succ, List.getElem?_cons_zero]
        repeat (go_big_quiet_step (fail))
        refine wpQuiet_nil ?_
        simp only [wpTreeQ, stepT, sel, List.getElem?_cons_succ, List.getElem?_cons_zero]
        have D1 := hid (Ext.refl none' W1).drew
        clear y1 y2
        go_wp2_with fail
        refine (CE.out _ _ (X1.out.trans D1.out) (TT.out _)).mono ?_
        rintro e w2 ⟨rfl, X2⟩
        have X2 := hid (D1.out.trans X2)
        go_wp2_with fail
        refine ⟨In.of X2.out, ?_⟩
        go_wp2_with fail
        go_ret
        exact ⟨by rw [HR.out]; simp, X1.out.trans X2.out⟩
end Go.Proofs.YthbmjamgidfneaaGreatDoor
