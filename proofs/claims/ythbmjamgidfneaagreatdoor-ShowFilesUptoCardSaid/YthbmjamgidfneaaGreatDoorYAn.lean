import Derived.Test.YthbmjamgidfneaaGreatDoorYAa
import Derived.Test.YthbmjamgidfneaaGreatDoorYAd
import Derived.Test.YthbmjamgidfneaaGreatDoorYAe
import Derived.Test.YthbmjamgidfneaaGreatDoorYAf
import Derived.Test.YthbmjamgidfneaaGreatDoorYAg
import Derived.Test.YthbmjamgidfneaaGreatDoorYAm
set_option maxRecDepth 100000
set_option maxHeartbeats 6400000
namespace Go.Proofs.YthbmjamgidfneaaGreatDoor
open Go.RowKit Go.Lib Go.BigFrame
def dm (f : Nat) (l : List Nd) : Nat := (l.map (depD f)).foldr max 0
theorem dm_snoc (f : Nat) (l : List Nd) (t : Nd) : dm f (l ++ [t]) = max (dm f l) (depD f t) := by
 unfold dm
 induction l with
 | nil => simp
 | cons a r ih => rw [List.cons_append, List.map_cons, List.foldr_cons, ih, List.map_cons, List.foldr_cons]; omega
theorem depD_le : ∀ (f : Nat) (t : Nd), depD f t ≤ f
 | 0, _ => Nat.le_refl _
 | f + 1, t => by
  have key : ∀ l : List Nd, (l.map (depD f)).foldr max 0 ≤ f := by
   intro l
   induction l with
   | nil => exact Nat.zero_le _
   | cons a r ih => rw [List.map_cons, List.foldr_cons]; have := depD_le f a; omega
  rw [depD]
  have := key t.kids
  omega
theorem dm_le (f : Nat) (l : List Nd) : dm f l ≤ f := by
 unfold dm
 induction l with
 | nil => exact Nat.zero_le _
 | cons a r ih => rw [List.map_cons, List.foldr_cons]; have := depD_le f a; omega
theorem ndepth_any : ∀ (f : Nat), f ≤ 100000 → ∀ (t : Nd), t.size ≤ bigD → ∀ (A : Nat → Prop) (v : Value) (w : World), NdV A w t v → Calls Tryz.prog 30 #[v, .int .i64 (f : Nat)] w (IntP (depD f t : Nat) w) := by
 intro f
 induction f with
 | zero =>
  intro _ t _ A v w hv
  obtain ⟨x, rfl, hx⟩ := hv
  obtain ⟨a0, cap0, rfl, _⟩ := hx
  go_enter Tryz.func30, Tryz.ntmps30
  go_wp2_with fail
  go_ret
  exact ⟨rfl, (Ext.refl _ _).alloc _⟩
 | succ f ih =>
  intro hf t hsz A v w hv
  cases t with
  | mk k n l ps =>
  obtain ⟨p, hp⟩ : ∃ p, p = depD (f + 1) (.mk k n l ps) := ⟨_, rfl⟩
  rw [← hp]
  have hp : p = dm f l + 1 := hp
  have HP := hid hp
  obtain ⟨x, rfl, hx⟩ := hv
  have hx : IsSl 4 IsNd A w x l := hx
  have HX := hid hx
  obtain ⟨a0, cap0, rfl, _⟩ := hx
  have HIH := hid (ih (by omega))
  have hll : l.length ≤ bigD := by have := Nd.kids_len (.mk k n l ps); simp only [Nd.kids] at this; omega
  unfold bigD at hll
  have HSZ := hid hsz
  have HFF := hid hf
  clear ih hp hsz
  show Calls Tryz.prog 30 #[.agg #[.int .i64 k, .string ⟨n.toArray⟩, .slice a0 l.length cap0, .int .i64 ps], .int .i64 ((f + 1 : Nat) : Nat)] w (IntP (p : Nat) w)
  obtain ⟨B, hB⟩ : ∃ B, B = w.heap.size := ⟨_, rfl⟩
  have g0 := heap_alloc_at (w := w) hB (.cells #[.int .i64 k, .string ⟨n.toArray⟩, .slice a0 l.length cap0, .int .i64 ps] 24)
  obtain ⟨W1, hW1⟩ : ∃ W1, W1 = w.alloc (.cells #[.int .i64 k, .string ⟨n.toArray⟩, .slice a0 l.length cap0, .int .i64 ps] 24) := ⟨_, rfl⟩
  have X1 : Ext none' w W1 := by rw [hW1]; exact (Ext.refl _ _).alloc _
  rw [← hW1] at g0
  have HX1 := hid (HX.out.ext isNd_good X1 fun _ _ h => h.elim)
  have X1 := hid X1
  have hb2 : Hid (∀ W, Ext none' W1 W → W.cell? ⟨B, 2, none⟩ = some (.slice a0 l.length cap0)) := hid fun W X => by rw [cell_at (X.heap g0 (fun h => h))]; rfl
  have hz : (((f + 1 : Nat) : Int) == 0) = false := by simp only [beq_eq_false_iff_ne]; omega
  have hs : ((f + 1 : Nat) : Int) - 1 = (f : Int) := by omega
  obtain ⟨F, hF⟩ : ∃ F : Int, F = ((f + 1 : Nat) : Int) := ⟨_, rfl⟩
  have hFb : F ≤ 100000 ∧ 1 ≤ F := by omega
  rw [← hF] at hz hs ⊢
  clear g0 hF
  go_enter Tryz.func30, Tryz.ntmps30
  go_wp2_with fail
  rw [← hW1, ← hB]
  clear hB hW1
  go_loopw [5, 6] (fun c z wr => ∃ (i : Nat), z = .int .i64 (i : Nat) ∧ i ≤ l.length ∧ c = .int .i64 ((dm f (l.take i) : Nat) : Nat) ∧ Hid (Ext none' W1 wr)) (fun _ z _ => l.length - (RowKit.intOf z).toNat)
  case atStart => exact ⟨0, rfl, by omega, rfl, hid (Ext.refl _ _)⟩
  case round =>
   obtain ⟨i, rfl, hle, rfl, HR⟩ := hrel
   have b2 := hb2.out _ HR.out
   by_cases hi : i < l.length
   · obtain ⟨b, off, cs, rfl, hAb, hbw, hcc, hty⟩ := (HX1.out.ext isNd_good HR.out fun _ _ h => h.elim).at i hi
     obtain ⟨x', rfl, hx'⟩ := hty.parts
     have c0 := hcc 0 _ rfl
     have c1 := hcc 1 _ rfl
     have c2 := hcc 2 _ rfl
     have c3 := hcc 3 _ rfl
     simp only [Nat.add_zero] at c0
     have hmem := List.getElem_mem hi
     have hts : l[i].size ≤ bigD := by have := Nd.size_kid (t := .mk k n l ps) hmem; have := HSZ.out; omega
     have HX2 := hid hx'
     obtain ⟨a', cap', rfl, _⟩ := hx'
     have CS := hid (HIH.out l[i] hts A (.agg #[.int .i64 l[i].kind, .string ⟨l[i].text.toArray⟩, .slice a' l[i].kids.length cap', .int .i64 l[i].pos]) wr ⟨_, rfl, HX2.out⟩)
     have htake : l.take (i + 1) = l.take i ++ [l[i]] := by rw [List.take_add_one, List.getElem?_eq_getElem hi]; rfl
     have hsn : dm f (l.take (i + 1)) = max (dm f (l.take i)) (depD f l[i]) := by rw [htake, dm_snoc]
     have hbd : depD f l[i] ≤ 100000 := by have := depD_le f l[i]; have := HFF.out; omega
     have hcl : dm f (l.take i) ≤ 100000 := by have := dm_le f (l.take i); have := HFF.out; omega
     obtain ⟨q, hq⟩ : ∃ q, depD f l[i] = q := ⟨_, rfl⟩
     obtain ⟨c, hc⟩ : ∃ c, dm f (l.take i) = c := ⟨_, rfl⟩
     rw [hq] at CS hsn hbd
     rw [hc] at hsn hcl ⊢
     have HSN := hid hsn
     clear hcc hty hsn htake hq hc hts
     go_wp2_with fail
     refine CS.out.mono ?_
     rintro e w2 ⟨rfl, X2⟩
     have X2 := hid (HR.out.trans X2)
     go_wp2_with fail
     go_roundw
     case rel => exact ⟨i + 1, by go_num, by omega, by rw [HSN.out]; congr 1; omega, X2⟩
     case measure => simp [RowKit.intOf]; omega
   · obtain rfl : i = l.length := by omega
     obtain ⟨m, hm⟩ : ∃ m, dm f (l.take l.length) = m := ⟨_, rfl⟩
     have e1 : Hid (p = m + 1) := hid (by rw [HP.out, ← hm, List.take_length])
     have hmb : m ≤ 100000 := by rw [← hm]; have := dm_le f (l.take l.length); have := HFF.out; omega
     rw [hm]
     clear hm
     go_wp2_with fail
     go_ret
     exact ⟨by rw [e1.out]; rfl, X1.out.trans HR.out⟩
theorem rright_type (f : Nat) (hf : f ≤ bigD) (t : Nd) (ht : t.size ≤ f) (v : Value) (w : World) (hv : NdV none' w t v) :
 Calls Tryz.prog 16 #[v, .string ⟨#[116, 121, 112, 101]⟩] w (BoolP (rightB (tyF nmB f t) t) w) := by
 have hts : t.size ≤ bigD := by omega
 have CD := hid fun W (X : Ext none' w W) => ndepth_any 101 (by omega) t hts none' v W (hv.ext X fun _ _ h => h)
 have CZ := hid fun W (X : Ext none' w W) => nsize_any 100 (by omega) t hts none' v W (hv.ext X fun _ _ h => h)
 have CT := hid fun W (X : Ext none' w W) => rtype_any f hf t ht v W (hv.ext X fun _ _ h => h)
 obtain ⟨x, rfl, hx⟩ := hv
 obtain ⟨a1, cap1, rfl, _⟩ := hx
 obtain ⟨r, hr⟩ : ∃ r, r = rightB (tyF nmB f t) t := ⟨_, rfl⟩
 rw [← hr]
 unfold rightB at hr
 rw [depthN_dep] at hr
 have HR := hid hr
 have hd := depD_le 101 t
 have hz := sizeD_le 100 t
 obtain ⟨d, hd'⟩ : ∃ d, depD 101 t = d := ⟨_, rfl⟩
 obtain ⟨z, hz'⟩ : ∃ z, sizeD 100 t = z := ⟨_, rfl⟩
 obtain ⟨q, hq⟩ : ∃ q, tyF nmB f t = q := ⟨_, rfl⟩
 rw [hd'] at CD HR hd
 rw [hz'] at CZ HR hz
 rw [hq] at CT HR
 have hzb : z ≤ 20000000000 := by unfold bigD at hts; omega
 obtain ⟨B, W1, hB, hW1, X1, G0⟩ := boxed w (.cells #[.int .i64 t.kind, .string ⟨t.text.toArray⟩, .slice a1 t.kids.length cap1, .int .i64 t.pos] 24)
 clear hr hd' hz' hq hz ht hts
 go_enter Tryz.func16, Tryz.ntmps16
 go_upto_region 1 with (fail)
 rw [← hW1, ← hB]
 clear hW1 hB
 obtain ⟨c0, c1, c2, c3⟩ := cell4 G0.out
 go_wp2_with fail
 refine (CD.out _ X1.out).mono ?_
 rintro e W2 ⟨rfl, X2⟩
 have G0 := hid (X2.heap G0.out fun h => h)
 have X2 := hid (X1.out.trans X2)
 clear c0 c1 c2 c3
 obtain ⟨c0, c1, c2, c3⟩ := cell4 G0.out
 by_cases hd1 : d ≤ 100
 case neg =>
  have q1 : (100 : Int) < (d : Int) := by omega
  have E := hid (show r = false by rw [HR.out, decide_eq_false hd1]; rfl)
  clear hd1
  go_wp2_with fail
  go_ret
  exact ⟨by rw [E.out]; rfl, X2.out⟩
 have q1 : ¬ (100 : Int) < (d : Int) := by omega
 have D1 := hid (decide_eq_true hd1)
 clear hd1
 go_wp2_with fail
 refine (CZ.out _ X2.out).mono ?_
 rintro e W3 ⟨rfl, X3⟩
 have G0 := hid (X3.heap G0.out fun h => h)
 have X3 := hid (X2.out.trans X3)
 clear c0 c1 c2 c3
 obtain ⟨c0, c1, c2, c3⟩ := cell4 G0.out
 by_cases hz1 : z ≤ 65536
 case neg =>
  have q2 : (65536 : Int) < (z : Int) := by omega
  have E := hid (show r = false by rw [HR.out, decide_eq_false hz1]; simp)
  clear hz1
  go_wp2_with fail
  go_ret
  exact ⟨by rw [E.out]; rfl, X3.out⟩
 have q2 : ¬ (65536 : Int) < (z : Int) := by omega
 have E := hid (show r = q by rw [HR.out, D1.out, decide_eq_true hz1]; simp)
 clear hz1
 go_wp2_with fail
 refine (CT.out _ X3.out).mono ?_
 rintro e W4 ⟨rfl, X4⟩
 have X4 := hid (X3.out.trans X4)
 clear c0 c1 c2 c3
 go_wp2_with fail
 go_ret
 exact ⟨by rw [E.out]; rfl, X4.out⟩
end Go.Proofs.YthbmjamgidfneaaGreatDoor
namespace Go.Proofs.YthbmjamgidfneaaGreatDoor
open Go.RowKit Go.Lib Go.BigFrame
set_option linter.unusedVariables false
set_option linter.unusedSimpArgs false
theorem rright_expr (f : Nat) (hf : f ≤ bigD) (t : Nd) (ht : t.size ≤ f) (v : Value) (w : World) (hv : NdV none' w t v) :
 Calls Tryz.prog 16 #[v, .string ⟨#[101, 120, 112, 114, 101, 115, 115, 105, 111, 110]⟩] w (BoolP (rightB (exF f t) t) w) := by
 have hts : t.size ≤ bigD := by omega
 have CD := hid fun W (X : Ext none' w W) => ndepth_any 101 (by omega) t hts none' v W (hv.ext X fun _ _ h => h)
 have CZ := hid fun W (X : Ext none' w W) => nsize_any 100 (by omega) t hts none' v W (hv.ext X fun _ _ h => h)
 have CT := hid fun W (X : Ext none' w W) => (rlv_any f hf).1 t ht v W (hv.ext X fun _ _ h => h)
 obtain ⟨x, rfl, hx⟩ := hv
 obtain ⟨a1, cap1, rfl, _⟩ := hx
 obtain ⟨r, hr⟩ : ∃ r, r = rightB (exF f t) t := ⟨_, rfl⟩
 rw [← hr]
 unfold rightB at hr
 rw [depthN_dep] at hr
 have HR := hid hr
 have hd := depD_le 101 t
 have hz := sizeD_le 100 t
 obtain ⟨d, hd'⟩ : ∃ d, depD 101 t = d := ⟨_, rfl⟩
 obtain ⟨z, hz'⟩ : ∃ z, sizeD 100 t = z := ⟨_, rfl⟩
 obtain ⟨q, hq⟩ : ∃ q, exF f t = q := ⟨_, rfl⟩
 rw [hd'] at CD HR hd
 rw [hz'] at CZ HR hz
 rw [hq] at CT HR
 have hzb : z ≤ 20000000000 := by unfold bigD at hts; omega
 obtain ⟨B, W1, hB, hW1, X1, G0⟩ := boxed w (.cells #[.int .i64 t.kind, .string ⟨t.text.toArray⟩, .slice a1 t.kids.length cap1, .int .i64 t.pos] 24)
 clear hr hd' hz' hq hz ht hts
 go_enter Tryz.func16, Tryz.ntmps16
 go_upto_region 1 with (fail)
 rw [← hW1, ← hB]
 clear hW1 hB
 obtain ⟨c0, c1, c2, c3⟩ := cell4 G0.out
 go_wp2_with fail
 refine (CD.out _ X1.out).mono ?_
 rintro e W2 ⟨rfl, X2⟩
 have G0 := hid (X2.heap G0.out fun h => h)
 have X2 := hid (X1.out.trans X2)
 clear c0 c1 c2 c3
 obtain ⟨c0, c1, c2, c3⟩ := cell4 G0.out
 by_cases hd1 : d ≤ 100
 case neg =>
  have q1 : (100 : Int) < (d : Int) := by omega
  have E := hid (show r = false by rw [HR.out, decide_eq_false hd1]; rfl)
  clear hd1
  go_wp2_with fail
  go_ret
  exact ⟨by rw [E.out]; rfl, X2.out⟩
 have q1 : ¬ (100 : Int) < (d : Int) := by omega
 have D1 := hid (decide_eq_true hd1)
 clear hd1
 go_wp2_with fail
 refine (CZ.out _ X2.out).mono ?_
 rintro e W3 ⟨rfl, X3⟩
 have G0 := hid (X3.heap G0.out fun h => h)
 have X3 := hid (X2.out.trans X3)
 clear c0 c1 c2 c3
 obtain ⟨c0, c1, c2, c3⟩ := cell4 G0.out
 by_cases hz1 : z ≤ 65536
 case neg =>
  have q2 : (65536 : Int) < (z : Int) := by omega
  have E := hid (show r = false by rw [HR.out, decide_eq_false hz1]; simp)
  clear hz1
  go_wp2_with fail
  go_ret
  exact ⟨by rw [E.out]; rfl, X3.out⟩
 have q2 : ¬ (65536 : Int) < (z : Int) := by omega
 have E := hid (show r = q by rw [HR.out, D1.out, decide_eq_true hz1]; simp)
 clear hz1
 go_wp2_with fail
 refine (CT.out _ X3.out).mono ?_
 rintro e W4 ⟨rfl, X4⟩
 have X4 := hid (X3.out.trans X4)
 clear c0 c1 c2 c3
 go_wp2_with fail
 go_ret
 exact ⟨by rw [E.out]; rfl, X4.out⟩
theorem rright_stmt (f : Nat) (hf : f ≤ bigD) (t : Nd) (ht : t.size ≤ f) (v : Value) (w : World) (hv : NdV none' w t v) :
 Calls Tryz.prog 16 #[v, .string ⟨#[115, 116, 97, 116, 101, 109, 101, 110, 116]⟩] w (BoolP (rightB (stF f t) t) w) := by
 have hts : t.size ≤ bigD := by omega
 have CD := hid fun W (X : Ext none' w W) => ndepth_any 101 (by omega) t hts none' v W (hv.ext X fun _ _ h => h)
 have CZ := hid fun W (X : Ext none' w W) => nsize_any 100 (by omega) t hts none' v W (hv.ext X fun _ _ h => h)
 have CT := hid fun W (X : Ext none' w W) => (rlv_any f hf).2 t ht v W (hv.ext X fun _ _ h => h)
 obtain ⟨x, rfl, hx⟩ := hv
 obtain ⟨a1, cap1, rfl, _⟩ := hx
 obtain ⟨r, hr⟩ : ∃ r, r = rightB (stF f t) t := ⟨_, rfl⟩
 rw [← hr]
 unfold rightB at hr
 rw [depthN_dep] at hr
 have HR := hid hr
 have hd := depD_le 101 t
 have hz := sizeD_le 100 t
 obtain ⟨d, hd'⟩ : ∃ d, depD 101 t = d := ⟨_, rfl⟩
 obtain ⟨z, hz'⟩ : ∃ z, sizeD 100 t = z := ⟨_, rfl⟩
 obtain ⟨q, hq⟩ : ∃ q, stF f t = q := ⟨_, rfl⟩
 rw [hd'] at CD HR hd
 rw [hz'] at CZ HR hz
 rw [hq] at CT HR
 have hzb : z ≤ 20000000000 := by unfold bigD at hts; omega
 obtain ⟨B, W1, hB, hW1, X1, G0⟩ := boxed w (.cells #[.int .i64 t.kind, .string ⟨t.text.toArray⟩, .slice a1 t.kids.length cap1, .int .i64 t.pos] 24)
 clear hr hd' hz' hq hz ht hts
 go_enter Tryz.func16, Tryz.ntmps16
 go_upto_region 1 with (fail)
 rw [← hW1, ← hB]
 clear hW1 hB
 obtain ⟨c0, c1, c2, c3⟩ := cell4 G0.out
 go_wp2_with fail
 refine (CD.out _ X1.out).mono ?_
 rintro e W2 ⟨rfl, X2⟩
 have G0 := hid (X2.heap G0.out fun h => h)
 have X2 := hid (X1.out.trans X2)
 clear c0 c1 c2 c3
 obtain ⟨c0, c1, c2, c3⟩ := cell4 G0.out
 by_cases hd1 : d ≤ 100
 case neg =>
  have q1 : (100 : Int) < (d : Int) := by omega
  have E := hid (show r = false by rw [HR.out, decide_eq_false hd1]; rfl)
  clear hd1
  go_wp2_with fail
  go_ret
  exact ⟨by rw [E.out]; rfl, X2.out⟩
 have q1 : ¬ (100 : Int) < (d : Int) := by omega
 have D1 := hid (decide_eq_true hd1)
 clear hd1
 go_wp2_with fail
 refine (CZ.out _ X2.out).mono ?_
 rintro e W3 ⟨rfl, X3⟩
 have G0 := hid (X3.heap G0.out fun h => h)
 have X3 := hid (X2.out.trans X3)
 clear c0 c1 c2 c3
 obtain ⟨c0, c1, c2, c3⟩ := cell4 G0.out
 by_cases hz1 : z ≤ 65536
 case neg =>
  have q2 : (65536 : Int) < (z : Int) := by omega
  have E := hid (show r = false by rw [HR.out, decide_eq_false hz1]; simp)
  clear hz1
  go_wp2_with fail
  go_ret
  exact ⟨by rw [E.out]; rfl, X3.out⟩
 have q2 : ¬ (65536 : Int) < (z : Int) := by omega
 have E := hid (show r = q by rw [HR.out, D1.out, decide_eq_true hz1]; simp)
 clear hz1
 go_wp2_with fail
 refine (CT.out _ X3.out).mono ?_
 rintro e W4 ⟨rfl, X4⟩
 have X4 := hid (X3.out.trans X4)
 clear c0 c1 c2 c3
 go_wp2_with fail
 go_ret
 exact ⟨by rw [E.out]; rfl, X4.out⟩
theorem rright_decl (f : Nat) (hf : f + 1 ≤ bigD) (t : Nd) (ht : t.size ≤ f + 1) (v : Value) (w : World) (hv : NdV none' w t v) :
 Calls Tryz.prog 16 #[v, .string ⟨#[100, 101, 99, 108, 97, 114, 97, 116, 105, 111, 110]⟩] w (BoolP (rightB (declB (tyF nmB f) (exF f) (stF f) t) t) w) := by
 have hts : t.size ≤ bigD := by omega
 have CD := hid fun W (X : Ext none' w W) => ndepth_any 101 (by omega) t hts none' v W (hv.ext X fun _ _ h => h)
 have CZ := hid fun W (X : Ext none' w W) => nsize_any 100 (by omega) t hts none' v W (hv.ext X fun _ _ h => h)
 have CT := hid fun W (X : Ext none' w W) => rdecl_any f hf _ _ _ (rtype_any f (by omega)) (rlv_any f (by omega)).1 (rlv_any f (by omega)).2 t ht v W (hv.ext X fun _ _ h => h)
 obtain ⟨x, rfl, hx⟩ := hv
 obtain ⟨a1, cap1, rfl, _⟩ := hx
 obtain ⟨r, hr⟩ : ∃ r, r = rightB (declB (tyF nmB f) (exF f) (stF f) t) t := ⟨_, rfl⟩
 rw [← hr]
 unfold rightB at hr
 rw [depthN_dep] at hr
 have HR := hid hr
 have hd := depD_le 101 t
 have hz := sizeD_le 100 t
 obtain ⟨d, hd'⟩ : ∃ d, depD 101 t = d := ⟨_, rfl⟩
 obtain ⟨z, hz'⟩ : ∃ z, sizeD 100 t = z := ⟨_, rfl⟩
 obtain ⟨q, hq⟩ : ∃ q, declB (tyF nmB f) (exF f) (stF f) t = q := ⟨_, rfl⟩
 rw [hd'] at CD HR hd
 rw [hz'] at CZ HR hz
 rw [hq] at CT HR
 have hzb : z ≤ 20000000000 := by unfold bigD at hts; omega
 obtain ⟨B, W1, hB, hW1, X1, G0⟩ := boxed w (.cells #[.int .i64 t.kind, .string ⟨t.text.toArray⟩, .slice a1 t.kids.length cap1, .int .i64 t.pos] 24)
 clear hr hd' hz' hq hz ht hts
 go_enter Tryz.func16, Tryz.ntmps16
 go_upto_region 1 with (fail)
 rw [← hW1, ← hB]
 clear hW1 hB
 obtain ⟨c0, c1, c2, c3⟩ := cell4 G0.out
 go_wp2_with fail
 refine (CD.out _ X1.out).mono ?_
 rintro e W2 ⟨rfl, X2⟩
 have G0 := hid (X2.heap G0.out fun h => h)
 have X2 := hid (X1.out.trans X2)
 clear c0 c1 c2 c3
 obtain ⟨c0, c1, c2, c3⟩ := cell4 G0.out
 by_cases hd1 : d ≤ 100
 case neg =>
  have q1 : (100 : Int) < (d : Int) := by omega
  have E := hid (show r = false by rw [HR.out, decide_eq_false hd1]; rfl)
  clear hd1
  go_wp2_with fail
  go_ret
  exact ⟨by rw [E.out]; rfl, X2.out⟩
 have q1 : ¬ (100 : Int) < (d : Int) := by omega
 have D1 := hid (decide_eq_true hd1)
 clear hd1
 go_wp2_with fail
 refine (CZ.out _ X2.out).mono ?_
 rintro e W3 ⟨rfl, X3⟩
 have G0 := hid (X3.heap G0.out fun h => h)
 have X3 := hid (X2.out.trans X3)
 clear c0 c1 c2 c3
 obtain ⟨c0, c1, c2, c3⟩ := cell4 G0.out
 by_cases hz1 : z ≤ 65536
 case neg =>
  have q2 : (65536 : Int) < (z : Int) := by omega
  have E := hid (show r = false by rw [HR.out, decide_eq_false hz1]; simp)
  clear hz1
  go_wp2_with fail
  go_ret
  exact ⟨by rw [E.out]; rfl, X3.out⟩
 have q2 : ¬ (65536 : Int) < (z : Int) := by omega
 have E := hid (show r = q by rw [HR.out, D1.out, decide_eq_true hz1]; simp)
 clear hz1
 go_wp2_with fail
 refine (CT.out _ X3.out).mono ?_
 rintro e W4 ⟨rfl, X4⟩
 have X4 := hid (X3.out.trans X4)
 clear c0 c1 c2 c3
 go_wp2_with fail
 go_ret
 exact ⟨by rw [E.out]; rfl, X4.out⟩
theorem rright_sig (f : Nat) (hf : f + 1 ≤ bigD) (t : Nd) (ht : t.size ≤ f + 1) (v : Value) (w : World) (hv : NdV none' w t v) :
 Calls Tryz.prog 16 #[v, .string ⟨#[115, 105, 103, 110, 97, 116, 117, 114, 101]⟩] w (BoolP (rightB (sigB (tyF nmB f) nmB t) t) w) := by
 have hts : t.size ≤ bigD := by omega
 have CD := hid fun W (X : Ext none' w W) => ndepth_any 101 (by omega) t hts none' v W (hv.ext X fun _ _ h => h)
 have CZ := hid fun W (X : Ext none' w W) => nsize_any 100 (by omega) t hts none' v W (hv.ext X fun _ _ h => h)
 have CT := hid fun W (X : Ext none' w W) => (show ∀ v W, NdV none' W t v → Calls Tryz.prog 36 #[v, .bool true] W (BoolP (sigB (tyF nmB f) nmB t) W) from fun v W hv => rsig_any f hf (tyF nmB f) (rtype_any f (by omega)) true t ht v W hv) v W (hv.ext X fun _ _ h => h)
 obtain ⟨x, rfl, hx⟩ := hv
 obtain ⟨a1, cap1, rfl, _⟩ := hx
 obtain ⟨r, hr⟩ : ∃ r, r = rightB (sigB (tyF nmB f) nmB t) t := ⟨_, rfl⟩
 rw [← hr]
 unfold rightB at hr
 rw [depthN_dep] at hr
 have HR := hid hr
 have hd := depD_le 101 t
 have hz := sizeD_le 100 t
 obtain ⟨d, hd'⟩ : ∃ d, depD 101 t = d := ⟨_, rfl⟩
 obtain ⟨z, hz'⟩ : ∃ z, sizeD 100 t = z := ⟨_, rfl⟩
 obtain ⟨q, hq⟩ : ∃ q, sigB (tyF nmB f) nmB t = q := ⟨_, rfl⟩
 rw [hd'] at CD HR hd
 rw [hz'] at CZ HR hz
 rw [hq] at CT HR
 have hzb : z ≤ 20000000000 := by unfold bigD at hts; omega
 obtain ⟨B, W1, hB, hW1, X1, G0⟩ := boxed w (.cells #[.int .i64 t.kind, .string ⟨t.text.toArray⟩, .slice a1 t.kids.length cap1, .int .i64 t.pos] 24)
 clear hr hd' hz' hq hz ht hts
 go_enter Tryz.func16, Tryz.ntmps16
 go_upto_region 1 with (fail)
 rw [← hW1, ← hB]
 clear hW1 hB
 obtain ⟨c0, c1, c2, c3⟩ := cell4 G0.out
 go_wp2_with fail
 refine (CD.out _ X1.out).mono ?_
 rintro e W2 ⟨rfl, X2⟩
 have G0 := hid (X2.heap G0.out fun h => h)
 have X2 := hid (X1.out.trans X2)
 clear c0 c1 c2 c3
 obtain ⟨c0, c1, c2, c3⟩ := cell4 G0.out
 by_cases hd1 : d ≤ 100
 case neg =>
  have q1 : (100 : Int) < (d : Int) := by omega
  have E := hid (show r = false by rw [HR.out, decide_eq_false hd1]; rfl)
  clear hd1
  go_wp2_with fail
  go_ret
  exact ⟨by rw [E.out]; rfl, X2.out⟩
 have q1 : ¬ (100 : Int) < (d : Int) := by omega
 have D1 := hid (decide_eq_true hd1)
 clear hd1
 go_wp2_with fail
 refine (CZ.out _ X2.out).mono ?_
 rintro e W3 ⟨rfl, X3⟩
 have G0 := hid (X3.heap G0.out fun h => h)
 have X3 := hid (X2.out.trans X3)
 clear c0 c1 c2 c3
 obtain ⟨c0, c1, c2, c3⟩ := cell4 G0.out
 by_cases hz1 : z ≤ 65536
 case neg =>
  have q2 : (65536 : Int) < (z : Int) := by omega
  have E := hid (show r = false by rw [HR.out, decide_eq_false hz1]; simp)
  clear hz1
  go_wp2_with fail
  go_ret
  exact ⟨by rw [E.out]; rfl, X3.out⟩
 have q2 : ¬ (65536 : Int) < (z : Int) := by omega
 have E := hid (show r = q by rw [HR.out, D1.out, decide_eq_true hz1]; simp)
 clear hz1
 go_wp2_with fail
 refine (CT.out _ X3.out).mono ?_
 rintro e W4 ⟨rfl, X4⟩
 have X4 := hid (X3.out.trans X4)
 clear c0 c1 c2 c3
 go_wp2_with fail
 go_ret
 exact ⟨by rw [E.out]; rfl, X4.out⟩
def sortL : List (List UInt8) := [[102, 105, 108, 101], [100, 101, 99, 108, 97, 114, 97, 116, 105, 111, 110], [116, 121, 112, 101], [101, 120, 112, 114, 101, 115, 115, 105, 111, 110], [115, 116, 97, 116, 101, 109, 101, 110, 116], [115, 105, 103, 110, 97, 116, 117, 114, 101]]
def sortB (s : List UInt8) : Bool := sortL.contains s
theorem rright_none (s : List UInt8) (hs : sortB s = false) (f : Nat) (hf : f ≤ bigD) (t : Nd) (ht : t.size ≤ f) (v : Value) (w : World) (hv : NdV none' w t v) :
 Calls Tryz.prog 16 #[v, .string ⟨s.toArray⟩] w (BoolP (rightB (false) t) w) := by
 have hts : t.size ≤ bigD := by omega
 have CD := hid fun W (X : Ext none' w W) => ndepth_any 101 (by omega) t hts none' v W (hv.ext X fun _ _ h => h)
 have CZ := hid fun W (X : Ext none' w W) => nsize_any 100 (by omega) t hts none' v W (hv.ext X fun _ _ h => h)
 have n0 : (s == [102, 105, 108, 101]) = false := by
  simp only [beq_eq_false_iff_ne]; intro e; subst e; exact absurd hs (by decide)
 have n1 : (s == [100, 101, 99, 108, 97, 114, 97, 116, 105, 111, 110]) = false := by
  simp only [beq_eq_false_iff_ne]; intro e; subst e; exact absurd hs (by decide)
 have n2 : (s == [116, 121, 112, 101]) = false := by
  simp only [beq_eq_false_iff_ne]; intro e; subst e; exact absurd hs (by decide)
 have n3 : (s == [101, 120, 112, 114, 101, 115, 115, 105, 111, 110]) = false := by
  simp only [beq_eq_false_iff_ne]; intro e; subst e; exact absurd hs (by decide)
 have n4 : (s == [115, 116, 97, 116, 101, 109, 101, 110, 116]) = false := by
  simp only [beq_eq_false_iff_ne]; intro e; subst e; exact absurd hs (by decide)
 have n5 : (s == [115, 105, 103, 110, 97, 116, 117, 114, 101]) = false := by
  simp only [beq_eq_false_iff_ne]; intro e; subst e; exact absurd hs (by decide)
 obtain ⟨x, rfl, hx⟩ := hv
 obtain ⟨a1, cap1, rfl, _⟩ := hx
 obtain ⟨r, hr⟩ : ∃ r, r = rightB (false) t := ⟨_, rfl⟩
 rw [← hr]
 unfold rightB at hr
 rw [depthN_dep] at hr
 have HR := hid hr
 have hd := depD_le 101 t
 have hz := sizeD_le 100 t
 obtain ⟨d, hd'⟩ : ∃ d, depD 101 t = d := ⟨_, rfl⟩
 obtain ⟨z, hz'⟩ : ∃ z, sizeD 100 t = z := ⟨_, rfl⟩
 rw [hd'] at CD HR hd
 rw [hz'] at CZ HR hz
 have hzb : z ≤ 20000000000 := by unfold bigD at hts; omega
 obtain ⟨B, W1, hB, hW1, X1, G0⟩ := boxed w (.cells #[.int .i64 t.kind, .string ⟨t.text.toArray⟩, .slice a1 t.kids.length cap1, .int .i64 t.pos] 24)
 clear hr hd' hz' hz ht hts hs
 go_enter Tryz.func16, Tryz.ntmps16
 go_upto_region 1 with (fail)
 rw [← hW1, ← hB]
 clear hW1 hB
 obtain ⟨c0, c1, c2, c3⟩ := cell4 G0.out
 go_wp2_with fail
 refine (CD.out _ X1.out).mono ?_
 rintro e W2 ⟨rfl, X2⟩
 have G0 := hid (X2.heap G0.out fun h => h)
 have X2 := hid (X1.out.trans X2)
 clear c0 c1 c2 c3
 obtain ⟨c0, c1, c2, c3⟩ := cell4 G0.out
 by_cases hd1 : d ≤ 100
 case neg =>
  have q1 : (100 : Int) < (d : Int) := by omega
  have E := hid (show r = false by rw [HR.out, decide_eq_false hd1]; rfl)
  clear hd1
  go_wp2_with fail
  go_ret
  exact ⟨by rw [E.out]; rfl, X2.out⟩
 have q1 : ¬ (100 : Int) < (d : Int) := by omega
 have D1 := hid (decide_eq_true hd1)
 clear hd1
 go_wp2_with fail
 refine (CZ.out _ X2.out).mono ?_
 rintro e W3 ⟨rfl, X3⟩
 have G0 := hid (X3.heap G0.out fun h => h)
 have X3 := hid (X2.out.trans X3)
 clear c0 c1 c2 c3
 obtain ⟨c0, c1, c2, c3⟩ := cell4 G0.out
 by_cases hz1 : z ≤ 65536
 case neg =>
  have q2 : (65536 : Int) < (z : Int) := by omega
  have E := hid (show r = false by rw [HR.out, decide_eq_false hz1]; simp)
  clear hz1
  go_wp2_with fail
  go_ret
  exact ⟨by rw [E.out]; rfl, X3.out⟩
 have q2 : ¬ (65536 : Int) < (z : Int) := by omega
 have E := hid (show r = false by rw [HR.out, D1.out, decide_eq_true hz1]; simp)
 clear hz1
 go_wp2_with fail
 go_ret
 exact ⟨by rw [E.out]; rfl, X3.out⟩
theorem rright_file (f : Nat) (hf : f + 1 ≤ bigD) (t : Nd) (ht : t.size ≤ f + 1) (v : Value) (w : World) (hv : NdV none' w t v) :
 Calls Tryz.prog 16 #[v, .string ⟨#[102, 105, 108, 101]⟩] w (BoolP (rightB (fileB (tyF nmB f) (exF f) (stF f) t) t) w) := by
 have hts : t.size ≤ bigD := by omega
 have CD := hid fun W (X : Ext none' w W) => ndepth_any 101 (by omega) t hts none' v W (hv.ext X fun _ _ h => h)
 have CZ := hid fun W (X : Ext none' w W) => nsize_any 100 (by omega) t hts none' v W (hv.ext X fun _ _ h => h)
 have CM := hid fun W => rnm_any t.text W
 have CD2 := hid fun i (h : i < t.kids.length) v W (hv : NdV none' W t.kids[i] v) => rdecl_any f hf _ _ _ (rtype_any f (by omega)) (rlv_any f (by omega)).1 (rlv_any f (by omega)).2 t.kids[i] (by have := Nd.size_kid (List.getElem_mem h); omega) v W hv
 have hkl : t.kids.length ≤ 4000000000 := by have := t.kids_len; unfold bigD at hts; omega
 obtain ⟨qn, hqn⟩ : ∃ q, nmB t.text = q := ⟨_, rfl⟩
 obtain ⟨x, rfl, hx⟩ := hv
 have HY := hid hx
 obtain ⟨a1, cap1, rfl, _⟩ := hx
 obtain ⟨r, hr⟩ : ∃ r, r = rightB (fileB (tyF nmB f) (exF f) (stF f) t) t := ⟨_, rfl⟩
 rw [← hr]
 unfold rightB at hr
 rw [depthN_dep] at hr
 have HR := hid hr
 have hd := depD_le 101 t
 have hz := sizeD_le 100 t
 obtain ⟨d, hd'⟩ : ∃ d, depD 101 t = d := ⟨_, rfl⟩
 obtain ⟨z, hz'⟩ : ∃ z, sizeD 100 t = z := ⟨_, rfl⟩
 rw [hd'] at CD HR hd
 rw [hz'] at CZ HR hz
 unfold fileB at HR
 rw [hqn] at CM HR
 obtain ⟨tk, htk⟩ : ∃ k, t.kind = k := ⟨_, rfl⟩
 rw [htk] at HR CD CZ ⊢
 clear htk
 have hzb : z ≤ 20000000000 := by unfold bigD at hts; omega
 obtain ⟨B, W1, hB, hW1, X1, G0⟩ := boxed w (.cells #[.int .i64 tk, .string ⟨t.text.toArray⟩, .slice a1 t.kids.length cap1, .int .i64 t.pos] 24)
 clear hr hd' hz' hz ht hts hqn
 go_enter Tryz.func16, Tryz.ntmps16
 go_upto_region 1 with (fail)
 rw [← hW1, ← hB]
 clear hW1 hB
 obtain ⟨c0, c1, c2, c3⟩ := cell4 G0.out
 go_wp2_with fail
 refine (CD.out _ X1.out).mono ?_
 rintro e W2 ⟨rfl, X2⟩
 have G0 := hid (X2.heap G0.out fun h => h)
 have X2 := hid (X1.out.trans X2)
 clear c0 c1 c2 c3
 obtain ⟨c0, c1, c2, c3⟩ := cell4 G0.out
 by_cases hd1 : d ≤ 100
 case neg =>
  have q1 : (100 : Int) < (d : Int) := by omega
  have E := hid (show r = false by rw [HR.out, decide_eq_false hd1]; rfl)
  clear hd1
  go_wp2_with fail
  go_ret
  exact ⟨by rw [E.out]; rfl, X2.out⟩
 have q1 : ¬ (100 : Int) < (d : Int) := by omega
 have D1 := hid (decide_eq_true hd1)
 clear hd1
 go_wp2_with fail
 refine (CZ.out _ X2.out).mono ?_
 rintro e W3 ⟨rfl, X3⟩
 have G0 := hid (X3.heap G0.out fun h => h)
 have X3 := hid (X2.out.trans X3)
 clear c0 c1 c2 c3
 obtain ⟨c0, c1, c2, c3⟩ := cell4 G0.out
 by_cases hz1 : z ≤ 65536
 case neg =>
  have q2 : (65536 : Int) < (z : Int) := by omega
  have E := hid (show r = false by rw [HR.out, decide_eq_false hz1]; simp)
  clear hz1
  go_wp2_with fail
  go_ret
  exact ⟨by rw [E.out]; rfl, X3.out⟩
 have q2 : ¬ (65536 : Int) < (z : Int) := by omega
 have HR := hid (show r = (tk == 1 && (qn && t.kids.all (declB (tyF nmB f) (exF f) (stF f)))) by rw [HR.out, D1.out, decide_eq_true hz1]; simp)
 clear hz1
 by_cases hk : tk = 1
 case neg =>
  have q1k : (tk == 1) = false := by simpa using hk
  have q2k : (tk != 1) = true := by simpa using hk
  have E := hid (show r = false by rw [HR.out, q1k]; rfl)
  clear hk
  go_wp2_with fail
  go_ret
  exact ⟨by rw [E.out]; rfl, X3.out⟩
 have q1k : (tk == 1) = true := by simpa using hk
 have q2k : (tk != 1) = false := by simp [hk]
 clear hk
 go_wp2_with fail
 refine (CM.out _).mono ?_
 rintro e W4 ⟨rfl, X4⟩
 have G0 := hid (X4.heap G0.out fun h => h)
 have X4 := hid (X3.out.trans X4)
 clear c0 c1 c2 c3
 obtain ⟨c0, c1, c2, c3⟩ := cell4 G0.out
 cases qn
 case false =>
  have E := hid (show r = false by rw [HR.out, q1k]; rfl)
  go_wp2_with fail
  go_ret
  exact ⟨by rw [E.out]; rfl, X4.out⟩
 have HR := hid (show r = t.kids.all (declB (tyF nmB f) (exF f) (stF f)) by rw [HR.out, q1k]; rfl)
 clear q1k q2k
 go_wp2_with fail
 clear c0 c1 c2 c3
 go_loopw [5] (fun z wr => ∃ (i : Nat), z = .int .i64 (i : Nat) ∧ i ≤ t.kids.length ∧ Hid (Ext none' W4 wr ∧ ∀ j (h : j < t.kids.length), j < i → declB (tyF nmB f) (exF f) (stF f) t.kids[j] = true)) (fun z _ => t.kids.length - (RowKit.intOf z).toNat)
 case atStart => exact ⟨0, rfl, by omega, hid ⟨Ext.refl _ _, fun j _ h => by omega⟩⟩
 case round =>
  obtain ⟨i, rfl, hle, RR⟩ := hrel
  have c2 := cell_at (RR.out.1.heap G0.out fun h => h) 2
  simp only [List.getElem?_toArray, List.getElem?_cons_zero, List.getElem?_cons_succ] at c2
  by_cases hi : i < t.kids.length
  · obtain ⟨b5, off5, cs5, rfl, _, hw5, hcc5, ht5⟩ := (HY.out.ext isNd_good (X4.out.trans RR.out.1) fun _ _ h => h).at i hi
    obtain ⟨x5, rfl, hx5⟩ := ht5.parts
    have d0 := hcc5 0 _ rfl
    have d1 := hcc5 1 _ rfl
    have d2 := hcc5 2 _ rfl
    have d3 := hcc5 3 _ rfl
    simp only [Nat.add_zero] at d0
    have hmem := List.getElem_mem hi
    have HX5 := hid hx5
    obtain ⟨a6, cap6, rfl, _⟩ := hx5
    have CQ := hid (CD2.out i hi (.agg #[.int .i64 t.kids[i].kind, .string ⟨t.kids[i].text.toArray⟩, .slice a6 t.kids[i].kids.length cap6, .int .i64 t.kids[i].pos]) wr ⟨_, rfl, HX5.out⟩)
    obtain ⟨q, hq⟩ : ∃ q, declB (tyF nmB f) (exF f) (stF f) t.kids[i] = q := ⟨_, rfl⟩
    rw [hq] at CQ
    have HQ := hid hq
    have HM := hid hmem
    obtain ⟨p, hp⟩ : ∃ p, t.kids[i] = p := ⟨_, rfl⟩
    rw [hp] at d0 d1 d2 d3 CQ
    clear hcc5 ht5 hq hmem hp HX5
    go_wp2_with fail
    refine CQ.out.mono ?_
    rintro e W5 ⟨rfl, X5⟩
    have X5' := hid (RR.out.1.trans X5)
    clear d0 d1 d2 d3 X5 c2
    cases q
    case false =>
     have E : Hid (r = false) := hid (by rw [HR.out, List.all_eq_false]; exact ⟨_, HM.out, by rw [HQ.out]; simp⟩)
     go_wp2_with fail
     go_ret
     exact ⟨by rw [E.out]; rfl, X4.out.trans X5'.out⟩
    have N : Hid (Ext none' W4 W5 ∧ ∀ j (h : j < t.kids.length), j < i + 1 → declB (tyF nmB f) (exF f) (stF f) t.kids[j] = true) := hid ⟨X5'.out, fun j h hj => by
     by_cases e : j = i
     · subst e; exact HQ.out
     · exact RR.out.2 j h (by omega)⟩
    go_wp2_with fail
    go_roundw
    case rel => exact ⟨i + 1, by go_num, by omega, N⟩
    case measure => simp [RowKit.intOf]; omega
  · have E : Hid (r = true) := hid (by
     rw [HR.out, List.all_eq_true]
     intro y hy
     obtain ⟨j, hj, rfl⟩ := List.mem_iff_getElem.1 hy
     exact RR.out.2 j hj (by omega))
    obtain rfl : i = t.kids.length := by omega
    go_wp2_with fail
    go_ret
    exact ⟨by rw [E.out]; rfl, X4.out.trans RR.out.1⟩
end Go.Proofs.YthbmjamgidfneaaGreatDoor
namespace Go.Proofs.YthbmjamgidfneaaGreatDoor
open Go.RowKit Go.Lib
theorem join_snoc (l : List (List UInt8)) (x sep : List UInt8) : Lib.join (l ++ [x]) sep = (if l = [] then [] else Lib.join l sep ++ sep) ++ x := by
 cases l with
 | nil => simp [Lib.join_one]
 | cons a r =>
  rw [List.cons_append, Lib.join_cons, Lib.join_cons, if_neg (by simp)]
  unfold Lib.joinTail
  simp
def jn (p : Nd → List UInt8) (sep : List UInt8) (l : List Nd) (i : Nat) : List UInt8 := Lib.join ((l.take i).map p) sep
theorem jn_all (p : Nd → List UInt8) (sep : List UInt8) (l : List Nd) : jn p sep l l.length = Lib.join (l.map p) sep := by unfold jn; rw [List.take_length]
theorem jn_succ (p : Nd → List UInt8) (sep : List UInt8) (l : List Nd) (i : Nat) (h : i < l.length) : jn p sep l (i + 1) = (if i = 0 then [] else jn p sep l i ++ sep) ++ p l[i] := by
 unfold jn
 rw [List.take_add_one, List.getElem?_eq_getElem h, List.map_append]
 show Lib.join (_ ++ [p l[i]]) sep = _
 rw [join_snoc]
 by_cases h0 : i = 0
 · subst h0; simp
 · rw [if_neg h0, if_neg]
   intro e
   have := congrArg List.length e
   rw [List.length_map, List.length_take] at this
   simp only [List.length_nil] at this
   omega
theorem jn_one (p : Nd → List UInt8) (sep : List UInt8) (l : List Nd) (h : 0 < l.length) : jn p sep l 1 = p l[0] := by
 rw [jn_succ p sep l 0 h]; simp
theorem jn_next (p : Nd → List UInt8) (sep : List UInt8) (l : List Nd) (i : Nat) (h : i < l.length) (h0 : 0 < i) : jn p sep l (i + 1) = jn p sep l i ++ (sep ++ p l[i]) := by
 rw [jn_succ p sep l i h, if_neg (by omega)]; simp
theorem sizeL_take (l : List Nd) (i : Nat) : Nd.sizeL (l.take i) ≤ Nd.sizeL l := by
 conv => rhs; rw [← List.take_append_drop i l]
 generalize l.take i = a
 induction a with
 | nil => simp [Nd.sizeL]
 | cons x r ih => simp only [List.cons_append, Nd.sizeL]; omega
theorem jn_len {p : Nd → List UInt8} {sep : List UInt8} {l : List Nd} (hs : sep.length ≤ 10) (h : ∀ x ∈ l, (p x).length + 10 ≤ 4000000 * x.size) (i : Nat) : (jn p sep l i).length ≤ 4000000 * Nd.sizeL l := by
 have h1 := lens_le (p := p) (c := 10) (l := l.take i) fun x hx => h x (List.mem_of_mem_take hx)
 have h2 := join_take ((l.take i).map p) sep
 have h3 := sizeL_take l i
 have h4 : sep.length * ((l.take i).map p).length ≤ 10 * (l.take i).length := by rw [List.length_map]; exact Nat.mul_le_mul_right _ hs
 unfold jn
 omega
theorem jn_ne {p : Nd → List UInt8} {sep : List UInt8} {l : List Nd} (h : ∀ x ∈ l, p x ≠ []) : Lib.join (l.map p) sep = [] ↔ l = [] := by
 cases l with
 | nil => simp [Lib.join_nil]
 | cons a r =>
  rw [List.map_cons, Lib.join_cons]
  simp [h a (by simp)]
theorem ty_name_parts {f : Nat} {t : Nd} (h : tyF nmB (f + 1) t = true) (hk : t.kind = 10) : nmB t.text = true ∧ ∀ x ∈ t.kids, tyF nmB f x = true := by
 rw [tyF, if_pos hk] at h
 simp only [Bool.and_eq_true, List.all_eq_true] at h
 exact h
theorem ty_slice_parts {f : Nat} {t : Nd} (h : tyF nmB (f + 1) t = true) (hk : t.kind = 11) : t.kids.length = 1 ∧ tyF nmB f (t.kid 0) = true := by
 rw [tyF, if_neg (by omega), if_pos hk] at h
 obtain ⟨_, _, h3⟩ := ofB_parts h
 obtain ⟨x, hx, htx⟩ := one_kid h3
 rw [kid_one hx, hx]
 exact ⟨rfl, htx⟩
theorem ty_sig_parts {f : Nat} {t : Nd} (h : tyF nmB (f + 1) t = true) (hk : t.kind = 12) : sigB (tyF nmB f) noT t = true := by
 rw [tyF, if_neg (by omega), if_neg (by omega), if_pos hk] at h
 exact h
theorem noT_len : ∀ s, noT s = true → s.length ≤ 100 := fun s hs => by unfold noT at hs; simp at hs; subst hs; simp
theorem typ_text10 {f : Nat} {t : Nd} (h : tyF nmB (f + 1) t = true) (hk : t.kind = 10) : typF (f + 1) t = t.text ++ (if jn (typF f) sComma t.kids t.kids.length = [] then [] else 91 :: (jn (typF f) sComma t.kids t.kids.length ++ [93])) := by
 rw [typF, if_neg (by omega), if_neg (by omega), jn_all]
 have hp := (ty_name_parts h hk).2
 have := jn_ne (sep := sComma) (p := typF f) (l := t.kids) fun x hx => ty_ne (hp x hx)
 by_cases hl : t.kids = []
 · rw [if_pos hl, if_pos (this.2 hl)]; simp
 · rw [if_neg hl, if_neg fun e => hl (this.1 e)]; simp
theorem typ_text11 {f : Nat} {t : Nd} (hk : t.kind = 11) : typF (f + 1) t = 91 :: 93 :: typF f (t.kid 0) := by rw [typF, if_pos hk]; rfl
theorem typ_text12 {f : Nat} {t : Nd} (h : tyF nmB (f + 1) t = true) (hk : t.kind = 12) : typF (f + 1) t = 102 :: 117 :: 110 :: 99 :: sigT (typF f) t := by
 rw [typF, if_neg (by omega), if_pos hk, sig_text (fun x hx => ty_ne hx) (ty_sig_parts h hk)]
 rfl
end Go.Proofs.YthbmjamgidfneaaGreatDoor
namespace Go.Proofs.YthbmjamgidfneaaGreatDoor
open Go.RowKit Go.Lib Go.BigFrame
set_option linter.unusedVariables false
set_option linter.unusedSimpArgs false
abbrev RTxH (f : Nat) : Prop := ∀ (t : Nd), t.size ≤ f → tyF nmB f t = true → ∀ (v : Value) (w : World), NdV none' w t v → Calls Tryz.prog 27 #[v] w (StrPost (typF f t) w)
theorem rt_slice (f : Nat) (hf : f + 1 ≤ 1100000) (H : RTxH f) (t : Nd) (ht : t.size ≤ f + 1) (hk : t.kind = 11) (he : tyF nmB (f + 1) t = true) (v : Value) (w : World) (hv : NdV none' w t v) :
 Calls Tryz.prog 27 #[v] w (StrPost (typF (f + 1) t) w) := by
 obtain ⟨a1, cap1, rfl, hcap, HV, HY⟩ := nd_open hv
 have hkl : t.kids.length ≤ 1100000 := by have := t.kids_len; omega
 obtain ⟨r, hr⟩ : ∃ r, r = (typF (f + 1) t) := ⟨_, rfl⟩
 rw [← hr]
 have HT := hid ht
 have HF := hid hf
 obtain ⟨hl, hx⟩ := ty_slice_parts he hk
 have hl0 : 0 < t.kids.length := by omega
 have hks : (t.kid 0).size ≤ f := by have := kid_size hl0; omega
 have hql : (typF f (t.kid 0)).length ≤ 10000000000000 := by have := ty_len hx hks; omega
 have C0 := hid fun W (X : Ext none' w W) v' (hv' : NdV none' W (t.kid 0) v') => H (t.kid 0) hks hx v' W hv'
 obtain ⟨q0, hq0⟩ : ∃ q, typF f (t.kid 0) = q := ⟨_, rfl⟩
 rw [typ_text11 hk, hq0] at hr
 rw [hq0] at C0 hql
 have HR := hid hr
 have z0 : (0 : Int) < (t.kids.length : Int) := by omega
 have cat1 := str_cat [91, 93] q0
 simp only [List.cons_append, List.nil_append] at cat1
 clear hl hx hks hq0
 have HK := hid hk
 rw [hk] at HV ⊢
 obtain ⟨tx, htx⟩ : ∃ k, t.text = k := ⟨_, rfl⟩
 have HTX := hid htx
 rw [htx] at HV ⊢
 obtain ⟨B, W0, hB, hW0, X0, G0⟩ := boxed w (.cells #[.int .i64 11, .string ⟨tx.toArray⟩, .slice a1 t.kids.length cap1, .int .i64 t.pos] 24)
 have XX := hid (Ext.refl none' W0)
 clear hr htx ht hf hk he H
 go_enter Tryz.func27, Tryz.ntmps27
 go_upto_region 1 with (fail)
 rw [← hW0, ← hB]
 clear hW0 hB
 obtain ⟨c0, c1, c2, c3⟩ := cellx XX.out G0.out
 obtain ⟨b, off, ka0, kc0, rfl, HBW, HZ0, KK0⟩ := kidA (HY.out.ext isNd_good X0.out fun _ _ h => h) (hl0)
 obtain ⟨m00, m01, m02, m03⟩ := kid' XX.out HBW.out KK0.out
 go_wp2_with fail
 refine (C0.out _ (X0.out.trans XX.out) (.agg #[.int .i64 (t.kid 0).kind, .string ⟨(t.kid 0).text.toArray⟩, .slice ka0 (t.kid 0).kids.length kc0, .int .i64 (t.kid 0).pos]) ⟨_, rfl, HZ0.out.ext isNd_good XX.out fun _ _ h => h⟩).mono ?_
 rintro e w1 ⟨rfl, X⟩
 have XX := hid (XX.out.trans X)
 clear X c0 c1 c2 c3 m00 m01 m02 m03
 go_wp2_with fail
 go_ret
 exact ⟨by rw [HR.out]; rfl, X0.out.trans XX.out⟩
theorem rt_sig (f : Nat) (hf : f + 1 ≤ 1100000) (H : RTxH f) (HS : ∀ (t : Nd), t.size ≤ f + 1 → ∀ so : List UInt8 → Bool, (∀ s, so s = true → s.length ≤ 100) → sigB (tyF nmB f) so t = true → ∀ (v : Value) (w : World), NdV none' w t v → Calls Tryz.prog 64 #[v] w (StrPost (sigT (typF f) t) w)) (t : Nd) (ht : t.size ≤ f + 1) (hk : t.kind = 12) (he : tyF nmB (f + 1) t = true) (v : Value) (w : World) (hv : NdV none' w t v) :
 Calls Tryz.prog 27 #[v] w (StrPost (typF (f + 1) t) w) := by
 obtain ⟨a1, cap1, rfl, hcap, HV, HY⟩ := nd_open hv
 have hkl : t.kids.length ≤ 1100000 := by have := t.kids_len; omega
 obtain ⟨r, hr⟩ : ∃ r, r = (typF (f + 1) t) := ⟨_, rfl⟩
 rw [← hr]
 have HT := hid ht
 have HF := hid hf
 have hx := ty_sig_parts he hk
 have hql : (sigT (typF f) t).length ≤ 10000000000000 := by have := sigT_len noT_len hx ht; omega
 have C0 := hid fun W v' (hv' : NdV none' W t v') => HS t ht noT noT_len hx v' W hv'
 obtain ⟨q0, hq0⟩ : ∃ q, sigT (typF f) t = q := ⟨_, rfl⟩
 rw [typ_text12 he hk, hq0] at hr
 rw [hq0] at C0 hql
 have HR := hid hr
 have cat1 := str_cat [102, 117, 110, 99] q0
 simp only [List.cons_append, List.nil_append] at cat1
 clear hx hq0
 have HK := hid hk
 rw [hk] at HV ⊢
 obtain ⟨tx, htx⟩ : ∃ k, t.text = k := ⟨_, rfl⟩
 have HTX := hid htx
 rw [htx] at HV ⊢
 obtain ⟨B, W0, hB, hW0, X0, G0⟩ := boxed w (.cells #[.int .i64 12, .string ⟨tx.toArray⟩, .slice a1 t.kids.length cap1, .int .i64 t.pos] 24)
 have XX := hid (Ext.refl none' W0)
 clear hr htx ht hf hk he H HS
 go_enter Tryz.func27, Tryz.ntmps27
 go_upto_region 1 with (fail)
 rw [← hW0, ← hB]
 clear hW0 hB
 obtain ⟨c0, c1, c2, c3⟩ := cellx XX.out G0.out
 go_wp2_with fail
 refine (C0.out _ (.agg #[.int .i64 12, .string ⟨tx.toArray⟩, .slice a1 t.kids.length cap1, .int .i64 t.pos]) (HV.out.ext (X0.out.trans XX.out) fun _ _ h => h)).mono ?_
 rintro e w1 ⟨rfl, X⟩
 have XX := hid (XX.out.trans X)
 clear X c0 c1 c2 c3
 go_wp2_with fail
 go_ret
 exact ⟨by rw [HR.out]; rfl, X0.out.trans XX.out⟩
theorem rt_name (f : Nat) (hf : f + 1 ≤ 1100000) (H : RTxH f) (t : Nd) (ht : t.size ≤ f + 1) (hk : t.kind = 10) (he : tyF nmB (f + 1) t = true) (v : Value) (w : World) (hv : NdV none' w t v) :
 Calls Tryz.prog 27 #[v] w (StrPost (typF (f + 1) t) w) := by
 obtain ⟨a1, cap1, rfl, hcap, HV, HY⟩ := nd_open hv
 have hkl : t.kids.length ≤ 1100000 := by have := t.kids_len; omega
 obtain ⟨r, hr⟩ : ∃ r, r = (typF (f + 1) t) := ⟨_, rfl⟩
 rw [← hr]
 have HT := hid ht
 have HF := hid hf
 obtain ⟨hn, hx⟩ := ty_name_parts he hk
 have hsz := size_kids t
 have hnl := nmB_len _ hn
 have C0 := hid fun x (hx' : x ∈ t.kids) v' W (hv' : NdV none' W x v') => H x (by have := Nd.size_kid hx'; omega) (hx x hx') v' W hv'
 have hty : ∀ x ∈ t.kids, (typF f x).length + 10 ≤ 4000000 * x.size := fun x hx' => by have := ty_len (hx x hx') (by have := Nd.size_kid hx'; omega); omega
 obtain ⟨J, hJ⟩ : ∃ J, J = jn (typF f) sComma (t.kids) := ⟨_, rfl⟩
 have JZ := hid (show J 0 = [] by rw [hJ]; rfl)
 have J1 := hid (show ∀ h : 0 < (t.kids).length, J 1 = (typF f) (t.kids)[0] by rw [hJ]; exact fun h => jn_one _ _ _ h)
 have JN := hid (show ∀ i (h : i < (t.kids).length), 0 < i → J (i + 1) = J i ++ (sComma ++ (typF f) (t.kids)[i]) by rw [hJ]; exact fun i h h0 => jn_next _ _ _ i h h0)
 have JL := hid (show ∀ i, (J i).length ≤ 10000000000000 by
  intro i
  rw [hJ]
  have := jn_len (p := typF f) (sep := sComma) (l := t.kids) (by decide) hty i
  skip
  omega)
 have QL := hid (show ∀ x ∈ (t.kids), ((typF f) x).length ≤ 10000000000000 by
  intro x hx
  have := hty x hx
  have := Nd.size_kid hx
  omega)
 rw [typ_text10 he hk, ← hJ] at hr
 have HR := hid hr
 clear hn hx hsz hty hJ
 have HK := hid hk
 rw [hk] at HV ⊢
 obtain ⟨tx, htx⟩ : ∃ k, t.text = k := ⟨_, rfl⟩
 have HTX := hid htx
 rw [htx] at HV HR ⊢
 obtain ⟨B, W0, hB, hW0, X0, G0⟩ := boxed w (.cells #[.int .i64 10, .string ⟨tx.toArray⟩, .slice a1 t.kids.length cap1, .int .i64 t.pos] 24)
 have XX := hid (Ext.refl none' W0)
 clear hr htx ht hf hk he H
 go_enter Tryz.func27, Tryz.ntmps27
 go_upto_region 1 with (fail)
 rw [← hW0, ← hB]
 clear hW0 hB
 obtain ⟨c0, c1, c2, c3⟩ := cellx XX.out G0.out
 go_wp2_with fail
 clear c0 c1 c2 c3
 go_loopw [3, 5] (fun o z wr => ∃ (i : Nat), z = .int .i64 (i : Nat) ∧ i ≤ t.kids.length ∧ o = .string ⟨(J i).toArray⟩ ∧ Hid (Ext none' W0 wr)) (fun _ z _ => t.kids.length - (RowKit.intOf z).toNat)
 case atStart => exact ⟨0, rfl, by omega, by rw [JZ.out], XX⟩
 case round =>
  obtain ⟨i, rfl, hle, rfl, RR⟩ := hrel
  have c2 := cell_at (RR.out.heap G0.out fun h => h) 2
  simp only [List.getElem?_toArray, List.getElem?_cons_zero, List.getElem?_cons_succ] at c2
  by_cases hi : i < t.kids.length
  · obtain ⟨b5, off5, cs5, rfl, _, hw5, hcc5, ht5⟩ := (HY.out.ext isNd_good (X0.out.trans RR.out) fun _ _ h => h).at i hi
    obtain ⟨x5, rfl, hx5⟩ := ht5.parts
    have d0 := hcc5 0 _ rfl
    have d1 := hcc5 1 _ rfl
    have d2 := hcc5 2 _ rfl
    have d3 := hcc5 3 _ rfl
    simp only [Nat.add_zero] at d0
    have hmem := List.getElem_mem hi
    have HX5 := hid hx5
    obtain ⟨a6, cap6, rfl, _⟩ := hx5
    have hal := JL.out i
    have hpl := QL.out _ hmem
    have CQ := hid (C0.out t.kids[i] hmem (.agg #[.int .i64 t.kids[i].kind, .string ⟨t.kids[i].text.toArray⟩, .slice a6 t.kids[i].kids.length cap6, .int .i64 t.kids[i].pos]) wr ⟨_, rfl, HX5.out⟩)
    have HN1 := hid (J1.out)
    have HNN := hid (JN.out i hi)
    obtain ⟨p, hp⟩ : ∃ p, t.kids[i] = p := ⟨_, rfl⟩
    rw [hp] at d0 d1 d2 d3 CQ hpl HNN
    obtain ⟨q1, hq1⟩ : ∃ q, typF f p = q := ⟨_, rfl⟩
    rw [hq1] at CQ hpl HNN
    have H01 := hid fun (h : i = 0) => (show J (i + 1) = q1 by subst h; rw [J1.out hi, hp, hq1])
    clear hcc5 ht5 hmem hp HX5 hq1
    by_cases h0 : i = 0
    case pos =>
     have N := hid (H01.out h0)
     have z1 : ¬ 0 < i := by omega
     have z2 : ¬ (0 : Int) < (i : Int) := by omega
     have z3 : decide ((0 : Int) < (i : Int)) = false := by rw [decide_eq_false_iff_not]; omega
     rw [show J i = [] by rw [h0]; exact JZ.out]
     have cat1 := str_cat [] q1
     simp only [List.nil_append] at cat1
     clear h0
     go_wp2_with fail
     refine CQ.out.mono ?_
     rintro e W5 ⟨rfl, X5⟩
     have X5 := hid (RR.out.trans X5)
     clear d0 d1 d2 d3 c2
     go_wp2_with fail
     go_roundw
     case rel => exact ⟨i + 1, by go_num, by omega, by rw [N.out]; try simp, X5⟩
     case measure => simp [RowKit.intOf]; omega
    have N := hid (HNN.out (by omega))
    have z1 : 0 < i := by omega
    have z2 : (0 : Int) < (i : Int) := by omega
    have z3 : decide ((0 : Int) < (i : Int)) = true := by rw [decide_eq_true_iff]; omega
    obtain ⟨o1, ho1⟩ : ∃ o, J i = o := ⟨_, rfl⟩
    rw [ho1] at N hal ⊢
    have cat1 := str_cat o1 [44, 32]
    have cat2 := str_cat (o1 ++ [44, 32]) q1
    simp only [List.append_assoc, List.cons_append, List.nil_append] at cat1 cat2
    clear ho1 h0
    go_wp2_with fail
    refine CQ.out.mono ?_
    rintro e W5 ⟨rfl, X5⟩
    have X5 := hid (RR.out.trans X5)
    clear d0 d1 d2 d3 c2
    go_wp2_with fail
    go_roundw
    case rel => exact ⟨i + 1, by go_num, by omega, by rw [N.out]; rfl, X5⟩
    case measure => simp [RowKit.intOf]; omega
  · obtain rfl : i = t.kids.length := by omega
    have c1 := cell_at (RR.out.heap G0.out fun h => h) 1
    simp only [List.getElem?_toArray, List.getElem?_cons_zero, List.getElem?_cons_succ] at c1
    have hal := JL.out t.kids.length
    obtain ⟨o1, ho1⟩ : ∃ o, J t.kids.length = o := ⟨_, rfl⟩
    rw [ho1] at HR hal ⊢
    clear ho1
    rw [HTX.out] at hnl
    by_cases h0 : o1 = []
    · subst h0
      have cat1 := str_cat tx []
      simp only [List.append_nil] at cat1
      go_wp2_with fail
      go_ret
      exact ⟨by rw [HR.out]; simp, X0.out.trans RR.out⟩
    · have HR := hid (show r = tx ++ 91 :: (o1 ++ [93]) by rw [HR.out, if_neg h0])
      have n1 : (o1 == []) = false := by simpa using h0
      have n2 : (o1 != []) = true := by simpa using h0
      have n3 : o1.isEmpty = false := by simpa using h0
      have cat1 := str_cat [91] o1
      have cat2 := str_cat (91 :: o1) [93]
      have cat3 := str_cat tx (91 :: (o1 ++ [93]))
      simp only [List.append_assoc, List.cons_append, List.nil_append] at cat1 cat2 cat3
      clear h0
      go_wp2_with fail
      go_ret
      exact ⟨by rw [HR.out]; rfl, X0.out.trans RR.out⟩
theorem sig_pars {f : Nat} {so : List UInt8 → Bool} {t : Nd} (hso : ∀ s, so s = true → s.length ≤ 100) (h : sigB (tyF nmB f) so t = true) : t.kids.length = 2 ∧ (∀ x ∈ (t.kid 0).kids, x.text.length ≤ 100 ∧ x.kids.length = 1 ∧ tyF nmB f (x.kid 0) = true) ∧ ((t.kid 1).kind = 0 ∨ tyF nmB f (t.kid 1) = true) := by
 obtain ⟨_, _, l, r, hk, _, _, hps, hr⟩ := sigB_parts h
 obtain ⟨e0, e1⟩ := kid_two hk
 rw [e0, e1]
 refine ⟨by rw [hk]; rfl, fun x hx => ?_, ?_⟩
 · obtain ⟨_, h2, y, hy, hty⟩ := hps x hx
   exact ⟨hso _ h2, by rw [hy]; rfl, by rw [kid_one hy]; exact hty⟩
 · rcases hr with hr | hr
   · exact .inl (emptyB_kind hr)
   · exact .inr hr
theorem paT_eq (ty : Nd → List UInt8) (x : Nd) (hx : x.text ≠ []) : paT ty x = x.text ++ (32 :: ty (x.kid 0)) := by unfold paT; rw [if_neg hx]; simp
theorem paT_nil (ty : Nd → List UInt8) (x : Nd) (hx : x.text = []) : paT ty x = ty (x.kid 0) := by unfold paT; rw [if_pos hx]; rfl
theorem rsigt_any (f : Nat) (hf : f + 1 ≤ 1100000) (H : RTxH f) (t : Nd) (ht : t.size ≤ f + 1) (so : List UInt8 → Bool) (hso : ∀ s, so s = true → s.length ≤ 100) (he : sigB (tyF nmB f) so t = true) (v : Value) (w : World) (hv : NdV none' w t v) :
 Calls Tryz.prog 64 #[v] w (StrPost (sigT (typF f) t) w) := by
 obtain ⟨a1, cap1, rfl, hcap, HV, HY⟩ := nd_open hv
 have hkl : t.kids.length ≤ 1100000 := by have := t.kids_len; omega
 obtain ⟨r, hr⟩ : ∃ r, r = (sigT (typF f) t) := ⟨_, rfl⟩
 rw [← hr]
 have HT := hid ht
 have HF := hid hf
 obtain ⟨hl2, hps, hr2⟩ := sig_pars hso he
 have hl0 : 0 < t.kids.length := by omega
 have hl1 : 1 < t.kids.length := by omega
 have hks0 : (t.kid 0).size ≤ f := by have := kid_size hl0; omega
 have hks1 : (t.kid 1).size ≤ f := by have := kid_size hl1; omega
 have hsz := size_kids (t.kid 0)
 have HPS := hid hps
 have HH := hid H
 have HKS0 := hid hks0
 have hty : ∀ x ∈ (t.kid 0).kids, (paT (typF f) x).length + 10 ≤ 4000000 * x.size := fun x hx' => by
  have h1 := ty_len (hps x hx').2.2 (by have := Nd.size_kid hx'; have := kid_size (t := x) (i := 0) (by have := (hps x hx').2.1; omega); omega)
  have h2 := kid_size (t := x) (i := 0) (by have := (hps x hx').2.1; omega)
  have h3 := (hps x hx').1
  unfold paT
  rw [List.length_append]
  split
  · simp only [List.length_nil]; omega
  · simp only [List.length_append, List.length_cons, List.length_nil]; omega
 obtain ⟨J, hJ⟩ : ∃ J, J = jn (paT (typF f)) sComma ((t.kid 0).kids) := ⟨_, rfl⟩
 have JZ := hid (show J 0 = [] by rw [hJ]; rfl)
 have J1 := hid (show ∀ h : 0 < ((t.kid 0).kids).length, J 1 = (paT (typF f)) ((t.kid 0).kids)[0] by rw [hJ]; exact fun h => jn_one _ _ _ h)
 have JN := hid (show ∀ i (h : i < ((t.kid 0).kids).length), 0 < i → J (i + 1) = J i ++ (sComma ++ (paT (typF f)) ((t.kid 0).kids)[i]) by rw [hJ]; exact fun i h h0 => jn_next _ _ _ i h h0)
 have JL := hid (show ∀ i, (J i).length ≤ 10000000000000 by
  intro i
  rw [hJ]
  have := jn_len (p := paT (typF f)) (sep := sComma) (l := (t.kid 0).kids) (by decide) hty i
  skip
  omega)
 have QL := hid (show ∀ x ∈ ((t.kid 0).kids), ((paT (typF f)) x).length ≤ 10000000000000 by
  intro x hx
  have := hty x hx
  have := Nd.size_kid hx
  omega)
 have hkl0 : (t.kid 0).kids.length ≤ 1100000 := by have := (t.kid 0).kids_len; omega
 have C1 := hid fun (h : (t.kid 1).kind ≠ 0) W v' (hv' : NdV none' W (t.kid 1) v') => H (t.kid 1) hks1 (hr2.resolve_left h) v' W hv'
 have Q1L := hid fun (h : (t.kid 1).kind ≠ 0) => (show (typF f (t.kid 1)).length ≤ 10000000000000 by have := ty_len (hr2.resolve_left h) hks1; omega)
 have hr : r = 40 :: (J (t.kid 0).kids.length ++ (41 :: (if (t.kid 1).kind = 0 then [] else 32 :: typF f (t.kid 1)))) := by
  rw [hr, hJ]
  unfold sigT
  rw [jn_all]
  split <;> simp
 have HR := hid hr
 have zz0 : (0 : Int) < (t.kids.length : Int) := by omega
 have zz1 : (1 : Int) < (t.kids.length : Int) := by omega
 clear hl2 hps hr2 hks0 hks1 hsz hty hJ
 obtain ⟨tk, htk⟩ : ∃ k, t.kind = k := ⟨_, rfl⟩
 have HTK := hid htk
 rw [htk] at HV ⊢
 obtain ⟨tx, htx⟩ : ∃ k, t.text = k := ⟨_, rfl⟩
 have HTX := hid htx
 rw [htx] at HV ⊢
 obtain ⟨B, W0, hB, hW0, X0, G0⟩ := boxed w (.cells #[.int .i64 tk, .string ⟨tx.toArray⟩, .slice a1 t.kids.length cap1, .int .i64 t.pos] 24)
 have XX := hid (Ext.refl none' W0)
 clear hr htx ht hf htk he H hso
 go_enter Tryz.func64, Tryz.ntmps64
 go_upto_region 1 with (fail)
 rw [← hW0, ← hB]
 clear hW0 hB
 obtain ⟨c0, c1, c2, c3⟩ := cellx XX.out G0.out
 obtain ⟨b, off, ka0, kc0, rfl, HBW, HZ0, KK0⟩ := kidA (HY.out.ext isNd_good X0.out fun _ _ h => h) (by omega)
 obtain ⟨ka1, kc1, HZ1, KK1⟩ := kidB (HY.out.ext isNd_good X0.out fun _ _ h => h) 1 4 rfl (by omega)
 obtain ⟨m00, m01, m02, m03⟩ := kid' XX.out HBW.out KK0.out
 obtain ⟨m10, m11, m12, m13⟩ := kid' XX.out HBW.out KK1.out
 go_wp2_with fail
 clear c0 c1 c2 c3 m00 m01 m02 m03 m10 m11 m12 m13
 go_loopw [3, 5] (fun o z wr => ∃ (i : Nat), z = .int .i64 (i : Nat) ∧ i ≤ (t.kid 0).kids.length ∧ o = .string ⟨(40 :: J i).toArray⟩ ∧ Hid (Ext none' W0 wr)) (fun _ z _ => (t.kid 0).kids.length - (RowKit.intOf z).toNat)
 case atStart => exact ⟨0, rfl, by omega, by rw [JZ.out], XX⟩
 case round =>
  obtain ⟨i, rfl, hle, rfl, RR⟩ := hrel
  by_cases hi : i < (t.kid 0).kids.length
  · obtain ⟨b5, off5, cs5, rfl, _, hw5, hcc5, ht5⟩ := (HZ0.out.ext isNd_good RR.out fun _ _ h => h).at i hi
    obtain ⟨x5, rfl, hx5⟩ := ht5.parts
    have d0 := hcc5 0 _ rfl
    have d1 := hcc5 1 _ rfl
    have d2 := hcc5 2 _ rfl
    have d3 := hcc5 3 _ rfl
    simp only [Nat.add_zero] at d0
    have hmem := List.getElem_mem hi
    have HX5 := hid hx5
    have hk2 := hx5
    obtain ⟨a6, cap6, rfl, _⟩ := hx5
    clear hk2
    have hal := JL.out i
    have hpl := QL.out _ hmem
    obtain ⟨hptl, hpk, hpt⟩ := HPS.out _ hmem
    have hl0 : 0 < ((t.kid 0).kids[i]).kids.length := by omega
    have hsz7 : (((t.kid 0).kids[i]).kid 0).size ≤ f := by have := Nd.size_kid hmem; have := kid_size hl0; have := HKS0.out; omega
    obtain ⟨b7, off7, z7, ez7, hbw7, k0, k1, k2, k3, hz7⟩ := kid_val HX5.out 0 hl0
    subst ez7
    simp only [Nat.zero_mul, Nat.add_zero] at k0 k1 k2 k3
    have HZ7 := hid hz7
    obtain ⟨a8, cap8, rfl, _⟩ := hz7
    have CQ := hid (HH.out (((t.kid 0).kids[i]).kid 0) hsz7 hpt (.agg #[.int .i64 (((t.kid 0).kids[i]).kid 0).kind, .string ⟨(((t.kid 0).kids[i]).kid 0).text.toArray⟩, .slice a8 (((t.kid 0).kids[i]).kid 0).kids.length cap8, .int .i64 (((t.kid 0).kids[i]).kid 0).pos]) wr ⟨_, rfl, HZ7.out⟩)
    have HNN := hid (JN.out i hi)
    have z0 : (0 : Int) < (((t.kid 0).kids[i]).kids.length : Int) := by omega
    have H01 := hid fun (h : i = 0) => (show J (i + 1) = paT (typF f) ((t.kid 0).kids[i]) by subst h; rw [J1.out hi])
    obtain ⟨p, hp⟩ : ∃ p, (t.kid 0).kids[i] = p := ⟨_, rfl⟩
    rw [hp] at d0 d1 d3 CQ hpl HNN H01 k0 k1 k3 hptl z0 hl0
    simp only [hp] at d2 k2
    obtain ⟨q1, hq1⟩ : ∃ q, typF f (p.kid 0) = q := ⟨_, rfl⟩
    have hql1 : q1.length ≤ 10000000000000 := by
     rw [← hq1]
     have : (typF f (p.kid 0)).length ≤ (paT (typF f) p).length := by unfold paT; rw [List.length_append]; omega
     omega
    rw [hq1] at CQ
    obtain ⟨px, hpx⟩ : ∃ q, p.text = q := ⟨_, rfl⟩
    have HPA0 := hid fun (h : px = []) => (show paT (typF f) p = q1 by rw [paT_nil _ _ (hpx.trans h), hq1])
    have HPA1 := hid fun (h : px ≠ []) => (show paT (typF f) p = px ++ (32 :: q1) by rw [paT_eq _ _ (by rw [hpx]; exact h), hq1, hpx])
    rw [hpx] at d1 hptl
    clear hcc5 ht5 hmem hp HX5 hq1 hpx hpk hpt hsz7
    by_cases h0 : i = 0
    case neg =>
     by_cases hp0 : px = []
     case neg =>
      have z1 : 0 < i := by omega
      have z2 : (0 : Int) < (i : Int) := by omega
      have z3 : decide ((0 : Int) < (i : Int)) = true := by rw [decide_eq_true_iff]; omega
      have N := hid (HNN.out (by omega))
      obtain ⟨o1, ho1⟩ : ∃ o, J i = o := ⟨_, rfl⟩
      rw [ho1] at N hal ⊢
      clear ho1 h0
      have n1 : (px == []) = false := by simpa using hp0
      have n2 : (px != []) = true := by simpa using hp0
      have n3 : px.isEmpty = false := by simpa using hp0
      have N := hid (N.out.trans (by rw [HPA1.out hp0]))
      have cat1 := str_cat (40 :: o1) ([44, 32])
      have cat2 := str_cat (px) ([32])
      have cat3 := str_cat (40 :: (o1 ++ [44, 32])) (px ++ [32])
      have cat4 := str_cat (40 :: (o1 ++ [44, 32]) ++ (px ++ [32])) (q1)
      simp only [List.append_assoc, List.cons_append, List.nil_append] at cat1 cat2 cat3 cat4
      clear hp0
      go_wp2_with fail
      refine CQ.out.mono ?_
      rintro e W5 ⟨rfl, X5⟩
      have X5 := hid (RR.out.trans X5)
      clear d0 d1 d2 d3 k0 k1 k2 k3
      go_wp2_with fail
      go_roundw
      case rel => exact ⟨i + 1, by go_num, by omega, by first | (rw [N.out]; done) | (rw [N.out]; simp [sComma]), X5⟩
      case measure => simp [RowKit.intOf]; omega
     have z1 : 0 < i := by omega
     have z2 : (0 : Int) < (i : Int) := by omega
     have z3 : decide ((0 : Int) < (i : Int)) = true := by rw [decide_eq_true_iff]; omega
     have N := hid (HNN.out (by omega))
     obtain ⟨o1, ho1⟩ : ∃ o, J i = o := ⟨_, rfl⟩
     rw [ho1] at N hal ⊢
     clear ho1 h0
     have n1 : (px == []) = true := by simpa using hp0
     have n2 : (px != []) = false := by simp [hp0]
     have n3 : px.isEmpty = true := by simpa using hp0
     have N := hid (N.out.trans (by rw [HPA0.out hp0]))
     have cat5 := str_cat (40 :: o1) ([44, 32])
     have cat6 := str_cat (40 :: (o1 ++ [44, 32])) (q1)
     simp only [List.append_assoc, List.cons_append, List.nil_append] at cat5 cat6
     clear hp0
     go_wp2_with fail
     refine CQ.out.mono ?_
     rintro e W5 ⟨rfl, X5⟩
     have X5 := hid (RR.out.trans X5)
     clear d0 d1 d2 d3 k0 k1 k2 k3
     go_wp2_with fail
     go_roundw
     case rel => exact ⟨i + 1, by go_num, by omega, by first | (rw [N.out]; done) | (rw [N.out]; simp [sComma]), X5⟩
     case measure => simp [RowKit.intOf]; omega
    by_cases hp0 : px = []
    case neg =>
     have z1 : ¬ 0 < i := by omega
     have z2 : ¬ (0 : Int) < (i : Int) := by omega
     have z3 : decide ((0 : Int) < (i : Int)) = false := by rw [decide_eq_false_iff_not]; omega
     rw [show J i = [] by rw [h0]; exact JZ.out]
     have N := hid (H01.out h0)
     clear h0
     have n1 : (px == []) = false := by simpa using hp0
     have n2 : (px != []) = true := by simpa using hp0
     have n3 : px.isEmpty = false := by simpa using hp0
     have N := hid (N.out.trans (by rw [HPA1.out hp0]))
     have cat7 := str_cat (px) ([32])
     have cat8 := str_cat ([40]) (px ++ [32])
     have cat9 := str_cat ([40] ++ (px ++ [32])) (q1)
     simp only [List.append_assoc, List.cons_append, List.nil_append] at cat7 cat8 cat9
     clear hp0
     go_wp2_with fail
     refine CQ.out.mono ?_
     rintro e W5 ⟨rfl, X5⟩
     have X5 := hid (RR.out.trans X5)
     clear d0 d1 d2 d3 k0 k1 k2 k3
     go_wp2_with fail
     go_roundw
     case rel => exact ⟨i + 1, by go_num, by omega, by first | (rw [N.out]; done) | (rw [N.out]; simp [sComma]), X5⟩
     case measure => simp [RowKit.intOf]; omega
    have z1 : ¬ 0 < i := by omega
    have z2 : ¬ (0 : Int) < (i : Int) := by omega
    have z3 : decide ((0 : Int) < (i : Int)) = false := by rw [decide_eq_false_iff_not]; omega
    rw [show J i = [] by rw [h0]; exact JZ.out]
    have N := hid (H01.out h0)
    clear h0
    have n1 : (px == []) = true := by simpa using hp0
    have n2 : (px != []) = false := by simp [hp0]
    have n3 : px.isEmpty = true := by simpa using hp0
    have N := hid (N.out.trans (by rw [HPA0.out hp0]))
    have cat10 := str_cat ([40]) (q1)
    simp only [List.append_assoc, List.cons_append, List.nil_append] at cat10
    clear hp0
    go_wp2_with fail
    refine CQ.out.mono ?_
    rintro e W5 ⟨rfl, X5⟩
    have X5 := hid (RR.out.trans X5)
    clear d0 d1 d2 d3 k0 k1 k2 k3
    go_wp2_with fail
    go_roundw
    case rel => exact ⟨i + 1, by go_num, by omega, by first | (rw [N.out]; done) | (rw [N.out]; simp [sComma]), X5⟩
    case measure => simp [RowKit.intOf]; omega
  · obtain rfl : i = (t.kid 0).kids.length := by omega
    have c2 := cell_at ((RR.out).heap G0.out fun h => h) 2
    simp only [List.getElem?_toArray, List.getElem?_cons_zero, List.getElem?_cons_succ] at c2
    obtain ⟨m10, m11, m12, m13⟩ := kid' RR.out HBW.out KK1.out
    have hal := JL.out (t.kid 0).kids.length
    obtain ⟨o1, ho1⟩ : ∃ o, J (t.kid 0).kids.length = o := ⟨_, rfl⟩
    rw [ho1] at HR hal ⊢
    clear ho1
    by_cases h1 : (t.kid 1).kind = 0
    case pos =>
     have HR := hid (show r = 40 :: (o1 ++ [41]) by rw [HR.out, if_pos h1])
     have n1 : ((t.kid 1).kind == 0) = true := by simpa using h1
     have n2 : ((t.kid 1).kind != 0) = false := by simp [h1]
     have cat1 := str_cat (40 :: o1) [41]
     simp only [List.append_assoc, List.cons_append, List.nil_append] at cat1
     clear h1
     go_wp2_with fail
     go_ret
     exact ⟨by rw [HR.out]; rfl, X0.out.trans RR.out⟩
    have HR := hid (show r = 40 :: (o1 ++ (41 :: 32 :: typF f (t.kid 1))) by rw [HR.out, if_neg h1])
    have n1 : ((t.kid 1).kind == 0) = false := by simpa using h1
    have n2 : ((t.kid 1).kind != 0) = true := by simpa using h1
    have C1 := hid (C1.out h1)
    have hql := Q1L.out h1
    clear h1
    obtain ⟨q1, hq1⟩ : ∃ q, typF f (t.kid 1) = q := ⟨_, rfl⟩
    rw [hq1] at C1 hql HR
    clear hq1
    have cat1 := str_cat (40 :: o1) [41]
    have cat2 := str_cat [32] q1
    have cat3 := str_cat (40 :: (o1 ++ [41])) (32 :: q1)
    simp only [List.append_assoc, List.cons_append, List.nil_append] at cat1 cat2 cat3
    go_wp2_with fail
    refine (C1.out _ (.agg #[.int .i64 (t.kid 1).kind, .string ⟨(t.kid 1).text.toArray⟩, .slice ka1 (t.kid 1).kids.length kc1, .int .i64 (t.kid 1).pos]) ⟨_, rfl, HZ1.out.ext isNd_good RR.out fun _ _ h => h⟩).mono ?_
    rintro e w1 ⟨rfl, X⟩
    have XR := hid (RR.out.trans X)
    clear X c2 m10 m11 m12 m13
    go_wp2_with fail
    go_ret
    exact ⟨by rw [HR.out]; rfl, X0.out.trans XR.out⟩
theorem rtx_any : ∀ (f : Nat), f ≤ 1100000 → RTxH f
 | 0, _ => fun t ht => by have := t.size_pos; omega
 | f + 1, hf => fun t ht he v w hv => by
  have ih := rtx_any f (by omega)
  rcases tyF_kind he with hk | hk | hk
  · exact rt_name f hf ih t ht hk he v w hv
  · exact rt_slice f hf ih t ht hk he v w hv
  · exact rt_sig f hf ih (fun t ht so hso he v w hv => rsigt_any f hf ih t ht so hso he v w hv) t ht hk he v w hv
end Go.Proofs.YthbmjamgidfneaaGreatDoor
