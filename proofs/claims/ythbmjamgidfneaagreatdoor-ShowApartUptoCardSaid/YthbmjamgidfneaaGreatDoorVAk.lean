import Derived.Test.YthbmjamgidfneaaGreatDoorVAb
import Derived.Test.YthbmjamgidfneaaGreatDoorVAf
import Derived.Test.YthbmjamgidfneaaGreatDoorVAj
set_option maxRecDepth 100000
set_option maxHeartbeats 6400000
namespace Go.Proofs.YthbmjamgidfneaaGreatDoor
open Go.RowKit Go.Lib Go.BigFrame
theorem binary_any (s : List UInt8) (w : World) (hs : s.length ≤ 4000000000) (hm : MaxL w) : Calls Tryz.prog 149 #[.string ⟨s.toArray⟩] w (BoolP (binB s) w) := by
 obtain ⟨r, hr⟩ : ∃ r, r = binB s := ⟨_, rfl⟩
 rw [← hr]
 rw [binB_eq] at hr
 have HR := hid hr
 clear hr
 by_cases h0 : s = []
 · have E : Hid (r = false) := hid (by rw [HR.out, h0]; rfl)
   subst h0
   go_enter Tryz.func149, Tryz.ntmps149
   go_wp2_with fail
   go_ret
   exact ⟨by rw [E.out]; rfl, Ext.refl _ _⟩
 · have q0 : (s != []) = true := by simpa using h0
   have q0' : s.isEmpty = false := by simpa using h0
   rw [q0, Bool.true_and] at HR
   obtain ⟨_, m, hm0⟩ := hm
   have C1 := hid (Tryz.strings_Contains_one ⟨s.toArray⟩ 32 w)
   have C2 := hid (Tryz.strings_Contains ⟨opsL.toArray⟩ ⟨((32 :: s) ++ [32]).toArray⟩ m w (by rw [bsize]; decide) hm0)
   have D1 : (⟨s.toArray⟩ : ByteArray).data.toList = s := rfl
   have D2 : (⟨opsL.toArray⟩ : ByteArray).data.toList = opsL := rfl
   have D3 : (⟨((32 :: s) ++ [32]).toArray⟩ : ByteArray).data.toList = (32 :: s) ++ [32] := rfl
   rw [D1] at C1
   rw [D2, D3] at C2
   obtain ⟨b1, hb1⟩ : ∃ b, decide (0 ≤ indexByte s 32) = b := ⟨_, rfl⟩
   obtain ⟨b2, hb2⟩ : ∃ b, contains opsL ((32 :: s) ++ [32]) = b := ⟨_, rfl⟩
   rw [hb1] at C1 HR
   rw [hb2] at C2 HR
   have cat1 := str_cat [32] s
   have cat2 := str_cat (32 :: s) [32]
   clear h0 hb1 hb2 D1 D2 D3 hm0
   go_enter Tryz.func149, Tryz.ntmps149
   go_wp2_with fail
   refine C1.out.mono ?_
   rintro e w1 ⟨rfl, rfl⟩
   cases b1
   · go_wp2_with fail
     refine C2.out.mono ?_
     rintro e w2 ⟨rfl, rfl⟩
     go_wp2_with fail
     go_ret
     exact ⟨by rw [HR.out]; rfl, Ext.refl _ _⟩
   · go_wp2_with fail
     go_ret
     exact ⟨by rw [HR.out]; rfl, Ext.refl _ _⟩
theorem Ext.drewN {w : World} (n : Nat) : Ext none' w (w.drewN n) := ⟨rfl, rfl, rfl, Nat.le_refl _, fun _ _ _ => rfl⟩
theorem ranged_any (s : List UInt8) (w : World) (hs : s.length ≤ 4000000000) (hm : MaxL w) : Calls Tryz.prog 157 #[.string ⟨s.toArray⟩] w (BoolP (rngB s) w) := by
 obtain ⟨r, hr⟩ : ∃ r, r = rngB s := ⟨_, rfl⟩
 rw [← hr]
 unfold rngB at hr
 have HR := hid hr
 obtain ⟨_, m, hm0⟩ := hm
 have C1 := hid (Tryz.strings_Cut ⟨s.toArray⟩ ⟨([44] : List UInt8).toArray⟩ m w (by rw [bsize]; omega) hm0)
 have D1 : (⟨s.toArray⟩ : ByteArray).data.toList = s := rfl
 have D2 : (⟨([44] : List UInt8).toArray⟩ : ByteArray).data.toList = [44] := rfl
 rw [D1, D2, cut_comma] at C1
 clear hr D1 D2 hm0
 by_cases hc : s.contains 44 = true
 · rw [if_pos hc] at C1 HR
   obtain ⟨a, ha⟩ : ∃ a, s.takeWhile (· != 44) = a := ⟨_, rfl⟩
   obtain ⟨b, hb⟩ : ∃ b, (s.dropWhile (· != 44)).drop 1 = b := ⟨_, rfl⟩
   rw [ha, hb] at C1 HR
   have hs0 : s ≠ [] := by intro e; rw [e] at hc; simp at hc
   have q0 : (s == []) = false := by simpa using hs0
   have q0' : s.isEmpty = false := by simpa using hs0
   have CN := hid fun W => tname_any a W
   have CB := hid fun W => bound_any b W
   obtain ⟨b1, hb1⟩ : ∃ x, nmB a = x := ⟨_, rfl⟩
   obtain ⟨b2, hb2⟩ : ∃ x, bndB b = x := ⟨_, rfl⟩
   rw [hb1] at CN HR
   rw [hb2] at CB HR
   clear hc ha hb hs0 hb1 hb2
   go_enter Tryz.func157, Tryz.ntmps157
   go_wp2_with fail
   refine C1.out.mono ?_
   rintro e w1 ⟨rfl, n, rfl⟩
   go_wp2_with fail
   refine (CN.out _).mono ?_
   rintro e w2 ⟨rfl, X2⟩
   have X2 := hid ((Ext.drewN (w := w) n).trans X2)
   cases b1
   · go_wp2_with fail
     go_ret
     exact ⟨by rw [HR.out]; rfl, X2.out⟩
   · go_wp2_with fail
     refine (CB.out _).mono ?_
     rintro e w3 ⟨rfl, X3⟩
     have X3 := hid (X2.out.trans X3)
     cases b2
     all_goals
      go_wp2_with fail
      go_ret
      exact ⟨by rw [HR.out]; rfl, X3.out⟩
 · rw [if_neg hc] at C1 HR
   have CB := hid fun W => bound_any s W
   by_cases hs0 : s = []
   · have E : Hid (r = true) := hid (by rw [HR.out, hs0]; rfl)
     subst hs0
     clear hc
     go_enter Tryz.func157, Tryz.ntmps157
     go_wp2_with fail
     refine C1.out.mono ?_
     rintro e w1 ⟨rfl, n, rfl⟩
     go_wp2_with fail
     go_ret
     exact ⟨by rw [E.out]; rfl, Ext.drewN n⟩
   · have q0 : (s == []) = false := by simpa using hs0
     have q0' : s.isEmpty = false := by simpa using hs0
     rw [q0, Bool.false_or] at HR
     obtain ⟨b2, hb2⟩ : ∃ x, bndB s = x := ⟨_, rfl⟩
     rw [hb2] at CB HR
     clear hc hs0 hb2
     go_enter Tryz.func157, Tryz.ntmps157
     go_wp2_with fail
     refine C1.out.mono ?_
     rintro e w1 ⟨rfl, n, rfl⟩
     go_wp2_with fail
     refine (CB.out _).mono ?_
     rintro e w3 ⟨rfl, X3⟩
     have X3 := hid ((Ext.drewN (w := w) n).trans X3)
     go_wp2_with fail
     go_ret
     exact ⟨by rw [HR.out]; rfl, X3.out⟩
theorem binary_so {w : World} (hm : MaxL w) : SoV binB w (.func (.func 149) #[] #[]) :=
 ⟨_, _, rfl, Go.Proofs.enters_of Tryz.func149 (by kernel_rfl) rfl, fun s W hs X => binary_any s W (by unfold bigD at hs; exact hs) (maxL_later hm X)⟩
theorem ranged_so {w : World} (hm : MaxL w) : SoV rngB w (.func (.func 157) #[] #[]) :=
 ⟨_, _, rfl, Go.Proofs.enters_of Tryz.func157 (by kernel_rfl) rfl, fun s W hs X => ranged_any s W (by unfold bigD at hs; exact hs) (maxL_later hm X)⟩
end Go.Proofs.YthbmjamgidfneaaGreatDoor
namespace Go.Proofs.YthbmjamgidfneaaGreatDoor
open Go.RowKit Go.Lib Go.BigFrame
set_option linter.unusedVariables false
set_option linter.unusedSimpArgs false
abbrev ExH (f : Nat) (ex : Nd → Bool) : Prop := ∀ (t : Nd), t.size ≤ f → ∀ (v : Value) (w : World), MaxL w → NdV none' w t v → Calls Tryz.prog 103 #[v] w (BoolP (ex t) w)
abbrev StH (f : Nat) (st : Nd → Bool) : Prop := ∀ (t : Nd), t.size ≤ f → ∀ (v : Value) (w : World), MaxL w → NdV none' w t v → Calls Tryz.prog 104 #[v] w (BoolP (st t) w)
abbrev IfH (f : Nat) (st : Nd → Bool) : Prop := ∀ (t : Nd), t.size ≤ f → ∀ (v : Value) (w : World), MaxL w → NdV none' w t v → Calls Tryz.prog 155 #[v] w (BoolP (ifB st t) w)
structure Qs (f : Nat) (ty ex st : Nd → Bool) : Prop where
 hty : TyH f ty
 hex : ExH f ex
 hst : StH f st
 hif : IfH f st
theorem Qs.expr {f : Nat} {ty ex st : Nd → Bool} (Q : Qs f ty ex st) (w : World) (hm : MaxL w) : AskV f ex w (.func (.func 103) #[] #[]) :=
 ⟨_, _, rfl, Go.Proofs.enters_of Tryz.func103 (by kernel_rfl) rfl, fun t ht W x X hx => Q.hex t ht x W (maxL_later hm X) hx⟩
theorem Qs.stmt {f : Nat} {ty ex st : Nd → Bool} (Q : Qs f ty ex st) (w : World) (hm : MaxL w) : AskV f st w (.func (.func 104) #[] #[]) :=
 ⟨_, _, rfl, Go.Proofs.enters_of Tryz.func104 (by kernel_rfl) rfl, fun t ht W x X hx => Q.hst t ht x W (maxL_later hm X) hx⟩
theorem Qs.ifs {f : Nat} {ty ex st : Nd → Bool} (Q : Qs f ty ex st) (w : World) (hm : MaxL w) : AskV f (ifB st) w (.func (.func 155) #[] #[]) :=
 ⟨_, _, rfl, Go.Proofs.enters_of Tryz.func155 (by kernel_rfl) rfl, fun t ht W x X hx => Q.hif t ht x W (maxL_later hm X) hx⟩
theorem named_kids1 {so : List UInt8 → Bool} {t : Nd} {f : Nat} (h : t.size ≤ f + 1) (i : Nat) (hi : i < (namedP so t).kids.length) : (namedP so t).kids[i].size ≤ f := by
 have hm := List.getElem_mem hi
 have : ∀ x ∈ (namedP so t).kids, x.size ≤ f := fun x hx => by
  unfold namedP at hx
  split at hx
  · have := Nd.size_kid (t := t) hx; omega
  · cases hx
 exact this _ hm
theorem AsksV.lit3 {f : Nat} {p q r : Nd → Bool} {w : World} {B : Nat} {u v x : Value} {t : TypeId} {fz : Nat × Nat} (h : w.heap[B]? = some (.cells #[u, v, x] t fz)) (hu : AskV f p w u) (hv : AskV f q w v) (hx : AskV f r w x) : AsksV f [p, q, r] w (.slice (some ⟨B, 0, Option.none⟩) 3 3) :=
 ⟨_, 3, rfl, fun i hi => by
  have : i < 3 := hi
  have hi : i = 0 ∨ i = 1 ∨ i = 2 := by omega
  rcases hi with rfl | rfl | rfl
  · exact ⟨B, 0, u, rfl, heap_lt h, cell_at h 0, hu⟩
  · exact ⟨B, 0, v, rfl, heap_lt h, cell_at h 1, hv⟩
  · exact ⟨B, 0, x, rfl, heap_lt h, cell_at h 2, hx⟩⟩
theorem AsksV.lit4 {f : Nat} {p q r s : Nd → Bool} {w : World} {B : Nat} {u v x y : Value} {t : TypeId} {fz : Nat × Nat} (h : w.heap[B]? = some (.cells #[u, v, x, y] t fz)) (hu : AskV f p w u) (hv : AskV f q w v) (hx : AskV f r w x) (hy : AskV f s w y) : AsksV f [p, q, r, s] w (.slice (some ⟨B, 0, Option.none⟩) 4 4) :=
 ⟨_, 4, rfl, fun i hi => by
  have : i < 4 := hi
  have hi : i = 0 ∨ i = 1 ∨ i = 2 ∨ i = 3 := by omega
  rcases hi with rfl | rfl | rfl | rfl
  · exact ⟨B, 0, u, rfl, heap_lt h, cell_at h 0, hu⟩
  · exact ⟨B, 0, v, rfl, heap_lt h, cell_at h 1, hv⟩
  · exact ⟨B, 0, x, rfl, heap_lt h, cell_at h 2, hx⟩
  · exact ⟨B, 0, y, rfl, heap_lt h, cell_at h 3, hy⟩⟩
theorem sign_any (f : Nat) (hf : f + 1 ≤ bigD) {ty ex st : Nd → Bool} (Q : Qs f ty ex st) (t : Nd) (ht : t.size ≤ f + 1) (v : Value) (w : World) (hv : NdV none' w t v) :
  Calls Tryz.prog 105 #[v] w (BoolP (sigB ty nmB t) w) := by
 have CC := hid fun W (X : Ext none' w W) => sig_any f hf ty Q.hty nmB t ht v _ W (hv.ext X fun _ _ h => h) (tname_so W)
 obtain ⟨q, hq⟩ : ∃ q, sigB ty nmB t = q := ⟨_, rfl⟩
 rw [hq] at CC ⊢
 obtain ⟨y, rfl, hy⟩ := hv
 obtain ⟨a1, cap1, rfl, _⟩ := hy
 clear hq Q ht hf
 go_enter Tryz.func105, Tryz.ntmps105
 go_wp2_with fail
 refine (CC.out _ ((Ext.refl _ _).alloc _)).mono ?_
 rintro e w1 ⟨rfl, X1⟩
 have X1 := hid (((Ext.refl none' w).alloc _).trans X1)
 go_wp2_with fail
 go_ret
 exact ⟨rfl, X1.out⟩
theorem sign_ask {f : Nat} (hf : f + 1 ≤ bigD) {ty ex st : Nd → Bool} (Q : Qs f ty ex st) (w : World) : AskV f (sigB ty nmB) w (.func (.func 105) #[] #[]) :=
 ⟨_, _, rfl, Go.Proofs.enters_of Tryz.func105 (by kernel_rfl) rfl, fun t ht W x _ hx => sign_any f hf Q t (by omega) x W hx⟩
theorem block_any (f : Nat) (hf : f + 1 ≤ bigD) {ty ex st : Nd → Bool} (Q : Qs f ty ex st) (t : Nd) (ht : t.size ≤ f + 1) (v : Value) (w : World) (hm : MaxL w) (hv : NdV none' w t v) :
  Calls Tryz.prog 139 #[v] w (BoolP (blkB st t) w) := by
 obtain ⟨y, rfl, hy⟩ := hv
 have CA := hid fun W (X : Ext none' w W) => all_any st t.kids f y _ W (by have := t.kids_len; omega) (hy.ext isNd_good X fun _ _ h => h) (fun i hi => by have := Nd.size_kid (t := t) (List.getElem_mem hi); omega) (Q.stmt W (maxL_later hm X))
 unfold blkB
 obtain ⟨a1, cap1, rfl, _⟩ := hy
 obtain ⟨qa, hqa⟩ : ∃ q, t.kids.all st = q := ⟨_, rfl⟩
 rw [hqa] at CA ⊢
 obtain ⟨tk, htk⟩ : ∃ k, t.kind = k := ⟨_, rfl⟩
 obtain ⟨tx, htx⟩ : ∃ k, t.text = k := ⟨_, rfl⟩
 rw [htk, htx]
 clear hqa htk htx Q hm ht hf
 by_cases h1 : tk = 36
 · have q1 : (tk == 36) = true := by simpa using h1
   rw [q1]
   by_cases h2 : tx = []
   · have q2 : (tx == []) = true := by simpa using h2
     have q2' : tx.isEmpty = true := by simpa using h2
     rw [q2]
     clear h1 h2
     go_enter Tryz.func139, Tryz.ntmps139
     go_wp2_with fail
     refine (CA.out _ ((Ext.refl _ _).alloc _)).mono ?_
     rintro e w1 ⟨rfl, X1⟩
     have X1 := hid (((Ext.refl none' w).alloc _).trans X1)
     go_wp2_with fail
     go_ret
     exact ⟨by simp, X1.out⟩
   · have q2 : (tx == []) = false := by simpa using h2
     have q2' : tx.isEmpty = false := by simpa using h2
     rw [q2]
     clear h1 h2
     go_enter Tryz.func139, Tryz.ntmps139
     go_wp2_with fail
     go_ret
     exact ⟨by simp, (Ext.refl _ _).alloc _⟩
 · have q1 : (tk == 36) = false := by simpa using h1
   rw [q1]
   clear h1
   go_enter Tryz.func139, Tryz.ntmps139
   go_wp2_with fail
   go_ret
   exact ⟨by simp, (Ext.refl _ _).alloc _⟩
theorem block_ask {f : Nat} (hf : f + 1 ≤ bigD) {ty ex st : Nd → Bool} (Q : Qs f ty ex st) (w : World) (hm : MaxL w) : AskV f (blkB st) w (.func (.func 139) #[] #[]) :=
 ⟨_, _, rfl, Go.Proofs.enters_of Tryz.func139 (by kernel_rfl) rfl, fun t ht W x X hx => block_any f hf Q t (by omega) x W (maxL_later hm X) hx⟩
theorem short_any (f : Nat) (hf : f + 1 ≤ bigD) {ty ex st : Nd → Bool} (Q : Qs f ty ex st) (t : Nd) (ht : t.size ≤ f + 1) (v : Value) (w : World) (hm : MaxL w) (hv : NdV none' w t v) :
  Calls Tryz.prog 151 #[v] w (BoolP (shB ex t) w) := by
 show Calls Tryz.prog 151 #[v] w (BoolP (namB bndB 26 [ex] t) w)
 rw [← ofB_named bndB 26 (by omega) [ex] t]
 have CN := hid fun W (X : Ext none' w W) => named_any bndB t v _ W (by have := t.size_text; omega) (hv.ext X fun _ _ h => h) (bound_so W)
 have CO := hid fun W v' u' (hv' : NdV none' W (namedP bndB t) v') (hu' : AsksV f [ex] W u') => of_any f 26 [ex] (namedP bndB t) v' u' W (named_len bndB t (by omega)) (by simp) (fun i hi => named_kids1 ht i hi) hv' hu'
 obtain ⟨q, hq⟩ : ∃ q, ofB 26 [ex] (namedP bndB t) = q := ⟨_, rfl⟩
 obtain ⟨r, hr⟩ : ∃ r, namedP bndB t = r := ⟨_, rfl⟩
 rw [hq] at CO ⊢
 rw [hr] at CN CO
 have A_ex := hid fun W (X : Ext none' w W) => (show AskV f (ex) W (.func (.func 103) #[] #[]) from Q.expr W (maxL_later hm X))
 obtain ⟨y, rfl, hy⟩ := hv
 obtain ⟨a1, cap1, rfl, _⟩ := hy
 clear hq hr Q ht hm hf
 go_enter Tryz.func151, Tryz.ntmps151
 go_wp2_with fail
 refine (CN.out _ ((Ext.refl _ _).alloc _)).mono ?_
 rintro e w1 ⟨v', rfl, hv', X1⟩
 have HV' := hid hv'
 obtain ⟨y', rfl, hy'⟩ := hv'
 obtain ⟨a5, cap5, rfl, _⟩ := hy'
 have X1 := hid (((Ext.refl none' w).alloc _).trans X1)
 have V1 := hid (Ext.refl none' w1)
 go_wp2_with fail
 have Y := hid ((Ext.refl none' w1).alloc (.cells #[.func (.func 103) #[] #[]] 41))
 refine (CO.out _ _ _ (HV'.out.ext (V1.out.trans Y.out) fun _ _ h => h) (AsksV.lit1 (heap_alloc_at rfl _) (A_ex.out _ (X1.out.trans (V1.out.trans Y.out))))).mono ?_
 rintro e w9 ⟨rfl, X9⟩
 have X9 := hid ((X1.out.trans (V1.out.trans Y.out)).trans X9)
 go_wp2_with fail
 go_ret
 exact ⟨rfl, X9.out⟩
theorem short_ask {f : Nat} (hf : f + 1 ≤ bigD) {ty ex st : Nd → Bool} (Q : Qs f ty ex st) (w : World) (hm : MaxL w) : AskV f (shB ex) w (.func (.func 151) #[] #[]) :=
 ⟨_, _, rfl, Go.Proofs.enters_of Tryz.func151 (by kernel_rfl) rfl, fun t ht W x X hx => short_any f hf Q t (by omega) x W (maxL_later hm X) hx⟩
theorem set_any (f : Nat) (hf : f + 1 ≤ bigD) {ty ex st : Nd → Bool} (Q : Qs f ty ex st) (t : Nd) (ht : t.size ≤ f + 1) (v : Value) (w : World) (hm : MaxL w) (hv : NdV none' w t v) :
  Calls Tryz.prog 152 #[v] w (BoolP (setB ex t) w) := by
 show Calls Tryz.prog 152 #[v] w (BoolP (ofB 27 [ex, ex] t) w)
 have CO := hid fun W v' u' (hv' : NdV none' W t v') (hu' : AsksV f [ex, ex] W u') => of_any f 27 [ex, ex] t v' u' W (by have := t.kids_len; omega) (by simp) (fun i hi => by have := Nd.size_kid (t := t) (List.getElem_mem hi); omega) hv' hu'
 obtain ⟨q, hq⟩ : ∃ q, ofB 27 [ex, ex] t = q := ⟨_, rfl⟩
 rw [hq] at CO ⊢
 have A_ex := hid fun W (X : Ext none' w W) => (show AskV f (ex) W (.func (.func 103) #[] #[]) from Q.expr W (maxL_later hm X))
 have HV := hid hv
 obtain ⟨y, rfl, hy⟩ := hv
 obtain ⟨a1, cap1, rfl, _⟩ := hy
 clear hq Q ht hm hf
 obtain ⟨W0, hW0⟩ : ∃ W0, W0 = w.alloc (.cells #[.int .i64 t.kind, .string ⟨t.text.toArray⟩, .slice a1 t.kids.length cap1, .int .i64 t.pos] 24) := ⟨_, rfl⟩
 have XB := hid (show Ext none' w W0 by rw [hW0]; exact (Ext.refl _ _).alloc _)
 have B0 := hid (Ext.refl none' W0)
 have HSZ := hid (show w.heap.size + 1 = W0.heap.size by rw [hW0]; simp)
 go_enter Tryz.func152, Tryz.ntmps152
 go_wp2_with fail
 rw [← hW0]
 clear hW0
 have Y := hid ((Ext.refl none' W0).alloc (.cells #[.func (.func 103) #[] #[], .func (.func 103) #[] #[]] 41))
 refine (CO.out _ _ _ (HV.out.ext (XB.out.trans (B0.out.trans Y.out)) fun _ _ h => h) (AsksV.lit2 (heap_alloc_at HSZ.out _) (A_ex.out _ (XB.out.trans (B0.out.trans Y.out))) (A_ex.out _ (XB.out.trans (B0.out.trans Y.out))))).mono ?_
 rintro e w9 ⟨rfl, X9⟩
 have X9 := hid ((XB.out.trans (B0.out.trans Y.out)).trans X9)
 go_wp2_with fail
 go_ret
 exact ⟨rfl, X9.out⟩
theorem set_ask {f : Nat} (hf : f + 1 ≤ bigD) {ty ex st : Nd → Bool} (Q : Qs f ty ex st) (w : World) (hm : MaxL w) : AskV f (setB ex) w (.func (.func 152) #[] #[]) :=
 ⟨_, _, rfl, Go.Proofs.enters_of Tryz.func152 (by kernel_rfl) rfl, fun t ht W x X hx => set_any f hf Q t (by omega) x W (maxL_later hm X) hx⟩
theorem inc_any (f : Nat) (hf : f + 1 ≤ bigD) {ty ex st : Nd → Bool} (Q : Qs f ty ex st) (t : Nd) (ht : t.size ≤ f + 1) (v : Value) (w : World) (hm : MaxL w) (hv : NdV none' w t v) :
  Calls Tryz.prog 153 #[v] w (BoolP (incrB ex t) w) := by
 show Calls Tryz.prog 153 #[v] w (BoolP (namB incB 28 [ex] t) w)
 rw [← ofB_named incB 28 (by omega) [ex] t]
 have CN := hid fun W (X : Ext none' w W) => named_any incB t v _ W (by have := t.size_text; omega) (hv.ext X fun _ _ h => h) (inc1_so W)
 have CO := hid fun W v' u' (hv' : NdV none' W (namedP incB t) v') (hu' : AsksV f [ex] W u') => of_any f 28 [ex] (namedP incB t) v' u' W (named_len incB t (by omega)) (by simp) (fun i hi => named_kids1 ht i hi) hv' hu'
 obtain ⟨q, hq⟩ : ∃ q, ofB 28 [ex] (namedP incB t) = q := ⟨_, rfl⟩
 obtain ⟨r, hr⟩ : ∃ r, namedP incB t = r := ⟨_, rfl⟩
 rw [hq] at CO ⊢
 rw [hr] at CN CO
 have A_ex := hid fun W (X : Ext none' w W) => (show AskV f (ex) W (.func (.func 103) #[] #[]) from Q.expr W (maxL_later hm X))
 obtain ⟨y, rfl, hy⟩ := hv
 obtain ⟨a1, cap1, rfl, _⟩ := hy
 clear hq hr Q ht hm hf
 go_enter Tryz.func153, Tryz.ntmps153
 go_wp2_with fail
 refine (CN.out _ ((Ext.refl _ _).alloc _)).mono ?_
 rintro e w1 ⟨v', rfl, hv', X1⟩
 have HV' := hid hv'
 obtain ⟨y', rfl, hy'⟩ := hv'
 obtain ⟨a5, cap5, rfl, _⟩ := hy'
 have X1 := hid (((Ext.refl none' w).alloc _).trans X1)
 have V1 := hid (Ext.refl none' w1)
 go_wp2_with fail
 have Y := hid ((Ext.refl none' w1).alloc (.cells #[.func (.func 103) #[] #[]] 41))
 refine (CO.out _ _ _ (HV'.out.ext (V1.out.trans Y.out) fun _ _ h => h) (AsksV.lit1 (heap_alloc_at rfl _) (A_ex.out _ (X1.out.trans (V1.out.trans Y.out))))).mono ?_
 rintro e w9 ⟨rfl, X9⟩
 have X9 := hid ((X1.out.trans (V1.out.trans Y.out)).trans X9)
 go_wp2_with fail
 go_ret
 exact ⟨rfl, X9.out⟩
theorem inc_ask {f : Nat} (hf : f + 1 ≤ bigD) {ty ex st : Nd → Bool} (Q : Qs f ty ex st) (w : World) (hm : MaxL w) : AskV f (incrB ex) w (.func (.func 153) #[] #[]) :=
 ⟨_, _, rfl, Go.Proofs.enters_of Tryz.func153 (by kernel_rfl) rfl, fun t ht W x X hx => inc_any f hf Q t (by omega) x W (maxL_later hm X) hx⟩
theorem call1_any (f : Nat) (hf : f + 1 ≤ bigD) {ty ex st : Nd → Bool} (Q : Qs f ty ex st) (t : Nd) (ht : t.size ≤ f) (v : Value) (w : World) (hm : MaxL w) (hv : NdV none' w t v) :
  Calls Tryz.prog 187 #[v] w (BoolP (isCallB ex t) w) := by
 have CC := hid fun W (X : Ext none' w W) => Q.hex t ht v W (maxL_later hm X) (hv.ext X fun _ _ h => h)
 show Calls _ _ _ _ (BoolP (t.kind == 21 && ex t) w)
 obtain ⟨q, hq⟩ : ∃ q, ex t = q := ⟨_, rfl⟩
 rw [hq] at CC ⊢
 obtain ⟨y, rfl, hy⟩ := hv
 obtain ⟨a1, cap1, rfl, _⟩ := hy
 obtain ⟨tk, htk⟩ : ∃ k, t.kind = k := ⟨_, rfl⟩
 rw [htk] at CC ⊢
 clear hq htk Q ht hf
 by_cases h1 : tk = 21
 · have q1 : (tk == 21) = true := by simpa using h1
   rw [q1]
   clear h1
   go_enter Tryz.func187, Tryz.ntmps187
   go_wp2_with fail
   refine (CC.out _ ((Ext.refl _ _).alloc _)).mono ?_
   rintro e w1 ⟨rfl, X1⟩
   have X1 := hid (((Ext.refl none' w).alloc _).trans X1)
   go_wp2_with fail
   go_ret
   exact ⟨by simp, X1.out⟩
 · have q1 : (tk == 21) = false := by simpa using h1
   rw [q1]
   clear h1
   go_enter Tryz.func187, Tryz.ntmps187
   go_wp2_with fail
   go_ret
   exact ⟨by simp, (Ext.refl _ _).alloc _⟩
theorem call1_ask {f : Nat} (hf : f + 1 ≤ bigD) {ty ex st : Nd → Bool} (Q : Qs f ty ex st) (w : World) (hm : MaxL w) : AskV f (isCallB ex) w (.func (.func 187) #[] #[]) :=
 ⟨_, _, rfl, Go.Proofs.enters_of Tryz.func187 (by kernel_rfl) rfl, fun t ht W x X hx => call1_any f hf Q t ht x W (maxL_later hm X) hx⟩
theorem call_any (f : Nat) (hf : f + 1 ≤ bigD) {ty ex st : Nd → Bool} (Q : Qs f ty ex st) (t : Nd) (ht : t.size ≤ f + 1) (v : Value) (w : World) (hm : MaxL w) (hv : NdV none' w t v) :
  Calls Tryz.prog 154 #[v] w (BoolP (callB ex t) w) := by
 show Calls Tryz.prog 154 #[v] w (BoolP (ofB 29 [isCallB ex] t) w)
 have CO := hid fun W v' u' (hv' : NdV none' W t v') (hu' : AsksV f [isCallB ex] W u') => of_any f 29 [isCallB ex] t v' u' W (by have := t.kids_len; omega) (by simp) (fun i hi => by have := Nd.size_kid (t := t) (List.getElem_mem hi); omega) hv' hu'
 obtain ⟨q, hq⟩ : ∃ q, ofB 29 [isCallB ex] t = q := ⟨_, rfl⟩
 rw [hq] at CO ⊢
 have A_call1 := hid fun W (X : Ext none' w W) => (show AskV f (isCallB ex) W (.func (.func 187) #[] #[]) from call1_ask hf Q W (maxL_later hm X))
 have HV := hid hv
 obtain ⟨y, rfl, hy⟩ := hv
 obtain ⟨a1, cap1, rfl, _⟩ := hy
 clear hq Q ht hm hf
 obtain ⟨W0, hW0⟩ : ∃ W0, W0 = w.alloc (.cells #[.int .i64 t.kind, .string ⟨t.text.toArray⟩, .slice a1 t.kids.length cap1, .int .i64 t.pos] 24) := ⟨_, rfl⟩
 have XB := hid (show Ext none' w W0 by rw [hW0]; exact (Ext.refl _ _).alloc _)
 have B0 := hid (Ext.refl none' W0)
 have HSZ := hid (show w.heap.size + 1 = W0.heap.size by rw [hW0]; simp)
 go_enter Tryz.func154, Tryz.ntmps154
 go_wp2_with fail
 rw [← hW0]
 clear hW0
 have Y := hid ((Ext.refl none' W0).alloc (.cells #[.func (.func 187) #[] #[]] 41))
 refine (CO.out _ _ _ (HV.out.ext (XB.out.trans (B0.out.trans Y.out)) fun _ _ h => h) (AsksV.lit1 (heap_alloc_at HSZ.out _) (A_call1.out _ (XB.out.trans (B0.out.trans Y.out))))).mono ?_
 rintro e w9 ⟨rfl, X9⟩
 have X9 := hid ((XB.out.trans (B0.out.trans Y.out)).trans X9)
 go_wp2_with fail
 go_ret
 exact ⟨rfl, X9.out⟩
theorem call_ask {f : Nat} (hf : f + 1 ≤ bigD) {ty ex st : Nd → Bool} (Q : Qs f ty ex st) (w : World) (hm : MaxL w) : AskV f (callB ex) w (.func (.func 154) #[] #[]) :=
 ⟨_, _, rfl, Go.Proofs.enters_of Tryz.func154 (by kernel_rfl) rfl, fun t ht W x X hx => call_any f hf Q t (by omega) x W (maxL_later hm X) hx⟩
theorem if_any (f : Nat) (hf : f + 1 ≤ bigD) {ty ex st : Nd → Bool} (Q : Qs f ty ex st) (t : Nd) (ht : t.size ≤ f + 1) (v : Value) (w : World) (hm : MaxL w) (hv : NdV none' w t v) :
  Calls Tryz.prog 155 #[v] w (BoolP (ifsB ex st t) w) := by
 show Calls Tryz.prog 155 #[v] w (BoolP (ofB 30 [ex, blkB st, orB (orB (emptyB) (blkB st)) (ifB st)] t) w)
 have CO := hid fun W v' u' (hv' : NdV none' W t v') (hu' : AsksV f [ex, blkB st, orB (orB (emptyB) (blkB st)) (ifB st)] W u') => of_any f 30 [ex, blkB st, orB (orB (emptyB) (blkB st)) (ifB st)] t v' u' W (by have := t.kids_len; omega) (by simp) (fun i hi => by have := Nd.size_kid (t := t) (List.getElem_mem hi); omega) hv' hu'
 obtain ⟨q, hq⟩ : ∃ q, ofB 30 [ex, blkB st, orB (orB (emptyB) (blkB st)) (ifB st)] t = q := ⟨_, rfl⟩
 rw [hq] at CO ⊢
 have A_ex := hid fun W (X : Ext none' w W) => (show AskV f (ex) W (.func (.func 103) #[] #[]) from Q.expr W (maxL_later hm X))
 have A_blk := hid fun W (X : Ext none' w W) => (show AskV f (blkB st) W (.func (.func 139) #[] #[]) from block_ask hf Q W (maxL_later hm X))
 have A_empty := hid fun W (X : Ext none' w W) => (show AskV f (emptyB) W (.func (.func 156) #[] #[]) from empty_ask f W)
 have A_if := hid fun W (X : Ext none' w W) => (show AskV f (ifB st) W (.func (.func 155) #[] #[]) from Q.ifs W (maxL_later hm X))
 have HV := hid hv
 obtain ⟨y, rfl, hy⟩ := hv
 obtain ⟨a1, cap1, rfl, _⟩ := hy
 clear hq Q ht hm hf
 obtain ⟨W0, hW0⟩ : ∃ W0, W0 = w.alloc (.cells #[.int .i64 t.kind, .string ⟨t.text.toArray⟩, .slice a1 t.kids.length cap1, .int .i64 t.pos] 24) := ⟨_, rfl⟩
 have X0 := hid (show Ext none' w W0 by rw [hW0]; exact (Ext.refl _ _).alloc _)
 have G0 := hid (show W0.heap[w.heap.size]? = some (.cells #[.int .i64 t.kind, .string ⟨t.text.toArray⟩, .slice a1 t.kids.length cap1, .int .i64 t.pos] 24 (0, 0)) by rw [hW0]; exact heap_alloc_at rfl _)
 go_enter Tryz.func155, Tryz.ntmps155
 go_upto_region 1 with (fail)
 rw [← hW0]
 clear hW0
 obtain ⟨y0, y1, y2, y3⟩ := cell4L fun t' : LaterF none' W0 => t'.x.heap G0.out fun h => h
 refine region_q none' W0 (.qs [0] (.one 1 true (.one 2 true (.one 3 true (.one 4 false (.one 5 false .fin)))))) (by kernel_rfl) (by kernel_rfl) (fun dst v c a w h => by cases dst <;> exact h) ?_
 refine ⟨In.of (Ext.refl _ _).drew, ?_⟩
 change wpQuiet _ _ (fun w' => ∃ t : LaterF none' W0, w' = t.w) _ _ _
 simp only [sel, List.getElem?_cons_succ, List.getElem?_cons_zero]
 repeat (go_big_quiet_step (fail))
 refine wpQuiet_nil ?_
 simp only [wpTreeQ, stepT, sel, List.getElem?_cons_succ, List.getElem?_cons_zero]
 have D1 := hid (Ext.refl none' W0).drew
 clear y0 y1 y2 y3
 go_wp2_with fail
 refine (or_any f (emptyB) (blkB st) _ _ _ (A_empty.out _ (X0.out.trans D1.out)) (A_blk.out _ (X0.out.trans D1.out))).mono ?_
 rintro e z1 ⟨u1, rfl, hu1, E1⟩
 have U1 := hid (show AskV f (orB (emptyB) (blkB st)) z1 u1 from hu1)
 obtain ⟨fn1, fcaps1, rfl, _⟩ := hu1
 have E1 := hid E1
 have T1 := hid (D1.out.trans E1.out)
 go_wp2_with fail
 refine ⟨In.of T1.out, ?_⟩
 go_wp2_with fail
 refine (or_any f (orB (emptyB) (blkB st)) (ifB st) _ _ _ (U1.out.ext (Ext.refl _ _)) (A_if.out _ (X0.out.trans T1.out))).mono ?_
 rintro e z2 ⟨u2, rfl, hu2, E2⟩
 have U2 := hid (show AskV f (orB (orB (emptyB) (blkB st)) (ifB st)) z2 u2 from hu2)
 obtain ⟨fn2, fcaps2, rfl, _⟩ := hu2
 have E2 := hid E2
 have T2 := hid (T1.out.trans E2.out)
 go_wp2_with fail
 refine ⟨In.of T2.out, ?_⟩
 go_wp2_with fail
 have Y := hid ((Ext.refl none' z2).alloc (.cells #[.func (.func 103) #[] #[], .func (.func 139) #[] #[], .func (.func fn2) #[] fcaps2] 41))
 refine ⟨In.of (T2.out.trans Y.out), ?_⟩
 go_wp2_with fail
 refine (CO.out _ _ _ (HV.out.ext (X0.out.trans (T2.out.trans Y.out)) fun _ _ h => h) (AsksV.lit3 (heap_alloc_at rfl _) (A_ex.out _ (X0.out.trans (T2.out.trans Y.out))) (A_blk.out _ (X0.out.trans (T2.out.trans Y.out))) (U2.out.ext Y.out))).mono ?_
 rintro e w9 ⟨rfl, X9⟩
 have X9 := hid ((X0.out.trans (T2.out.trans Y.out)).trans X9)
 go_wp2_with fail
 go_ret
 exact ⟨rfl, X9.out⟩
end Go.Proofs.YthbmjamgidfneaaGreatDoor
