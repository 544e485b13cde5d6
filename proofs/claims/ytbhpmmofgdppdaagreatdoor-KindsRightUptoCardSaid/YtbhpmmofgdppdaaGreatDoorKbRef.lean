import Derived.Test.YtbhpmmofgdppdaaGreatDoorKbHas
import Derived.Test.YtbhpmmofgdppdaaGreatDoorTokRName
/-
  demoticref06: name, nothing, Sig.
-/
namespace Go.Proofs.YtbhpmmofgdppdaaGreatDoor
open Go.RowKit Go.Lib Go.BigFrame
set_option maxRecDepth 100000 in
theorem rnm_any (s : List UInt8) (w : World) : Calls Tryz.prog 41 #[.string ⟨s.toArray⟩] w (BoolP (nmB s) w) := by
  obtain ⟨r, hr⟩ : ∃ r, r = nmB s := ⟨_, rfl⟩
  rw [← hr]
  unfold nmB at hr
  by_cases hs : s.length ≤ 100
  · have q : decide (s.length ≤ 100) = true := decide_eq_true hs
    rw [q] at hr
    have HR := hid hr
    have CN := hid fun W => rname_any s W (by omega)
    obtain ⟨b, hb⟩ : ∃ b, nameB s = b := ⟨_, rfl⟩
    rw [hb] at CN HR
    have hz : (s.length : Int) ≤ 100 := by omega
    clear hr hb
    go_enter Tryz.func41, Tryz.ntmps41
    go_wp2_with fail
    refine (CN.out _).mono ?_
    rintro e w1 ⟨rfl, X1⟩
    have X1 := hid X1
    go_wp2_with fail
    go_ret
    exact ⟨by rw [HR.out]; cases b <;> rfl, X1.out⟩
  · have q : decide (s.length ≤ 100) = false := decide_eq_false hs
    rw [q] at hr
    have HR := hid hr
    have hz : ¬ (s.length : Int) ≤ 100 := by omega
    clear hr
    go_enter Tryz.func41, Tryz.ntmps41
    go_wp2_with fail
    go_ret
    exact ⟨by rw [HR.out]; rfl, Ext.refl _ _⟩
set_option maxRecDepth 100000 in
theorem rnothing_any (t : Nd) (v : Value) (w : World) (hv : NdV none' w t v) : Calls Tryz.prog 77 #[v] w (BoolP (emptyB t) w) := by
  obtain ⟨x, rfl, hx⟩ := hv
  obtain ⟨a1, cap1, rfl, _⟩ := hx
  cases t with
  | mk k n l ps =>
  simp only [Nd.kind, Nd.text, Nd.kids, Nd.pos]
  by_cases hk : k = 0
  · have q1 : (k == 0) = true := by simpa using hk
    by_cases hn : n = []
    · have q2 : (n == []) = true := by simpa using hn
      by_cases hl : l = []
      · have e : emptyB (.mk k n l ps) = true := by subst hk hn hl; rfl
        rw [e]
        have q3 : ((l.length : Int) == 0) = true := by subst hl; rfl
        have q4 : l.length = 0 := by subst hl; rfl
        clear hk hn hl e
        go_enter Tryz.func77, Tryz.ntmps77
        go_wp2_with fail
        go_ret
        exact ⟨by simp_all, (Ext.refl _ _).alloc _⟩
      · have e : emptyB (.mk k n l ps) = false := by
          have : l.isEmpty = false := by simpa using hl
          simp [emptyB, Nd.kids, this]
        rw [e]
        have hz : 0 < l.length := List.length_pos_iff.2 hl
        have q3 : ((l.length : Int) == 0) = false := by simp only [beq_eq_false_iff_ne]; omega
        clear hk hn hl e
        go_enter Tryz.func77, Tryz.ntmps77
        go_wp2_with fail
        go_ret
        exact ⟨by simp_all, (Ext.refl _ _).alloc _⟩
    · have q2 : (n == []) = false := by simpa using hn
      have e : emptyB (.mk k n l ps) = false := by simp [emptyB, Nd.text, q2]
      rw [e]
      clear hk hn e
      go_enter Tryz.func77, Tryz.ntmps77
      go_wp2_with fail
      go_ret
      exact ⟨by simp_all, (Ext.refl _ _).alloc _⟩
  · have q1 : (k == 0) = false := by simpa using hk
    have e : emptyB (.mk k n l ps) = false := by simp [emptyB, Nd.kind, q1]
    rw [e]
    clear hk e
    go_enter Tryz.func77, Tryz.ntmps77
    go_wp2_with fail
    go_ret
    exact ⟨by simp_all, (Ext.refl _ _).alloc _⟩
/-- What a parameter's text must be: a name, or nothing. -/
def soB (nm : Bool) (s : List UInt8) : Bool := if nm then nmB s else s == []
theorem soB_false : soB false = noT := rfl
theorem soB_true : soB true = nmB := rfl
abbrev RTyH (f : Nat) (ty : Nd → Bool) : Prop := ∀ (t : Nd), t.size ≤ f → ∀ (v : Value) (w : World), NdV none' w t v → Calls Tryz.prog 43 #[v] w (BoolP (ty t) w)
theorem sigB_two {ty : Nd → Bool} {so : List UInt8 → Bool} {t : Nd} (h : t.kids.length = 2) : sigB ty so t = (t.kind == 12 && t.text == [] && ((t.kid 0).kind == 6 && (t.kid 0).text == [] && (t.kid 0).kids.all (namB so 8 [ty]) && (emptyB (t.kid 1) || ty (t.kid 1)))) := by
  unfold sigB ofB listB
  match h' : t.kids, h with
  | [l, r], _ =>
    have e0 : t.kid 0 = l := by unfold Nd.kid; rw [h']; rfl
    have e1 : t.kid 1 = r := by unfold Nd.kid; rw [h']; rfl
    rw [e0, e1]
    simp [kidsB]
theorem sigB_len {ty : Nd → Bool} {so : List UInt8 → Bool} {t : Nd} (h : t.kids.length ≠ 2) : sigB ty so t = false := by
  unfold sigB ofB
  rw [kidsB_no (by simpa using h), Bool.and_false]
theorem namB_one {so : List UInt8 → Bool} {ty : Nd → Bool} {k : Int} {t : Nd} (h : t.kids.length = 1) : namB so k [ty] t = (t.kind == k && so t.text && ty (t.kid 0)) := by
  unfold namB
  match h' : t.kids, h with
  | [x], _ =>
    have e0 : t.kid 0 = x := by unfold Nd.kid; rw [h']; rfl
    rw [e0]
    simp [kidsB]
theorem namB_len {so : List UInt8 → Bool} {ty : Nd → Bool} {k : Int} {t : Nd} (h : t.kids.length ≠ 1) : namB so k [ty] t = false := by
  unfold namB
  rw [kidsB_no (by simpa using h), Bool.and_false]
theorem kid_mem {t : Nd} {i : Nat} (h : i < t.kids.length) : t.kid i ∈ t.kids := by
  have e : t.kid i = t.kids[i] := by unfold Nd.kid; rw [List.getD_eq_getElem?_getD, List.getElem?_eq_getElem h]; rfl
  rw [e]; exact List.getElem_mem h
/-- The cells of the two kids of a signature. -/
structure SgM (w : World) (b off : Nat) (k0 k1 k2 m0 m1 m2 m3 : Value) : Prop where
  k0 : w.cell? ⟨b, off, none⟩ = some k0
  k1 : w.cell? ⟨b, off + 1, none⟩ = some k1
  k2 : w.cell? ⟨b, off + 2, none⟩ = some k2
  m0 : w.cell? ⟨b, off + 4, none⟩ = some m0
  m1 : w.cell? ⟨b, off + 4 + 1, none⟩ = some m1
  m2 : w.cell? ⟨b, off + 4 + 2, none⟩ = some m2
  m3 : w.cell? ⟨b, off + 4 + 3, none⟩ = some m3
set_option maxRecDepth 100000 in
set_option maxHeartbeats 3200000 in
theorem rsig_any (f : Nat) (hf : f + 1 ≤ bigD) (ty : Nd → Bool) (H : RTyH f ty) (nm : Bool) (t : Nd) (ht : t.size ≤ f + 1) (v : Value) (w : World) (hv : NdV none' w t v) :
    Calls Tryz.prog 46 #[v, .bool nm] w (BoolP (sigB ty (soB nm) t) w) := by
  obtain ⟨x, rfl, hx⟩ := hv
  have HX := hid hx
  obtain ⟨a1, cap1, rfl, _⟩ := hx
  obtain ⟨r, hr⟩ : ∃ r, r = sigB ty (soB nm) t := ⟨_, rfl⟩
  rw [← hr]
  have HR := hid hr
  have HT := hid ht
  have HH := hid H
  have HH2 := hid H
  obtain ⟨tk, htk⟩ : ∃ k, t.kind = k := ⟨_, rfl⟩
  have HTK := hid htk
  rw [htk]
  obtain ⟨tx, htx⟩ : ∃ k, t.text = k := ⟨_, rfl⟩
  have HTX := hid htx
  rw [htx]
  have hkb : t.kids.length ≤ 20000000000 := by have := t.kids_len; unfold bigD at hf; omega
  clear hr ht H htk htx
  go_enter Tryz.func46, Tryz.ntmps46
  go_upto_region 1 with (fail)
  obtain ⟨B, hB⟩ : ∃ B, B = w.heap.size := ⟨_, rfl⟩
  obtain ⟨W1, hW1⟩ : ∃ W1, W1 = w.alloc (.cells #[.int .i64 tk, .string ⟨tx.toArray⟩, .slice a1 t.kids.length cap1, .int .i64 t.pos] 49) := ⟨_, rfl⟩
  rw [← hW1, ← hB]
  have X1 := hid (show Ext none' w W1 by rw [hW1]; exact (Ext.refl _ _).alloc _)
  have G0 := hid (show W1.heap[B]? = some (.cells #[.int .i64 tk, .string ⟨tx.toArray⟩, .slice a1 t.kids.length cap1, .int .i64 t.pos] 49 (0, 0)) by rw [hW1]; exact heap_alloc_at hB _)
  clear hW1 hB
  have c0 := cell_at G0.out 0
  have c1 := cell_at G0.out 1
  have c2 := cell_at G0.out 2
  simp only [List.getElem?_toArray, List.getElem?_cons_zero, List.getElem?_cons_succ] at c0 c1 c2
  by_cases h12 : tk = 12
  case neg =>
    have q : (tk != 12) = true := by simpa using h12
    have E : Hid (r = false) := hid (by
      rw [HR.out]; unfold sigB ofB
      have : (t.kind == 12) = false := by rw [HTK.out]; simpa using h12
      rw [this]; rfl)
    clear h12
    go_wp2_with fail
    go_ret
    exact ⟨by rw [E.out]; rfl, X1.out⟩
  have q12 : (tk != 12) = false := by simpa using h12
  by_cases hx0 : tx = []
  case neg =>
    have q : (tx != []) = true := by simpa using hx0
    have q' : tx.isEmpty = false := by simpa using hx0
    have E : Hid (r = false) := hid (by
      rw [HR.out]; unfold sigB ofB
      have : (t.text == []) = false := by rw [HTX.out]; simpa using hx0
      rw [this]; simp)
    clear h12 hx0
    go_wp2_with fail
    go_ret
    exact ⟨by rw [E.out]; rfl, X1.out⟩
  have qx : (tx != []) = false := by simpa using hx0
  have qx' : tx.isEmpty = true := by simpa using hx0
  by_cases hl : t.kids.length = 2
  case neg =>
    have q : ((t.kids.length : Int) != 2) = true := by simp only [bne_iff_ne, ne_eq]; omega
    have E : Hid (r = false) := hid (by rw [HR.out, sigB_len hl])
    clear h12 hx0 hl
    go_wp2_with fail
    go_ret
    exact ⟨by rw [E.out]; rfl, X1.out⟩
  have ql : ((t.kids.length : Int) != 2) = false := by simp only [bne_eq_false_iff_eq]; omega
  have y0 : (0 : Int) < (t.kids.length : Int) := by omega
  have y1 : (1 : Int) < (t.kids.length : Int) := by omega
  have HL := hid hl
  have HR2 := hid (show r = ((t.kid 0).kind == 6 && (t.kid 0).text == [] && (t.kid 0).kids.all (namB (soB nm) 8 [ty]) && (emptyB (t.kid 1) || ty (t.kid 1))) by
    rw [HR.out, sigB_two hl, HTK.out, HTX.out, h12, hx0]; rfl)
  obtain ⟨b, off, x0, rfl, hbw, k0, k1, k2, k3, hx0'⟩ := kid_val (HX.out.ext isNd_good X1.out fun _ _ h => h) 0 (by omega)
  obtain ⟨b', off', x1, e1, hbw1, m0, m1, m2, m3, hx1'⟩ := kid_val (HX.out.ext isNd_good X1.out fun _ _ h => h) 1 (by omega)
  injection e1 with e1
  injection e1 with e1 e2 _
  subst e1 e2
  simp only [Nat.zero_mul, Nat.one_mul, Nat.add_zero] at k0 k1 k2 k3 m0 m1 m2 m3
  have HX0 := hid hx0'
  have HX1 := hid hx1'
  obtain ⟨a2, cap2, rfl, _⟩ := hx0'
  obtain ⟨a3, cap3, rfl, _⟩ := hx1'
  have hs0 := hid (show (t.kid 0).size ≤ f by have := Nd.size_kid (kid_mem (t := t) (i := 0) (by omega)); have := HT.out; omega)
  have hs1 := hid (show (t.kid 1).size ≤ f by have := Nd.size_kid (kid_mem (t := t) (i := 1) (by omega)); have := HT.out; omega)
  have CN := hid fun W (X : Ext none' W1 W) => rnothing_any (t.kid 1) (.agg #[.int .i64 (t.kid 1).kind, .string ⟨(t.kid 1).text.toArray⟩, .slice a3 (t.kid 1).kids.length cap3, .int .i64 (t.kid 1).pos]) W ⟨_, rfl, HX1.out.ext isNd_good X fun _ _ h => h⟩
  have CT := hid fun W (X : Ext none' W1 W) => HH.out (t.kid 1) hs1.out (.agg #[.int .i64 (t.kid 1).kind, .string ⟨(t.kid 1).text.toArray⟩, .slice a3 (t.kid 1).kids.length cap3, .int .i64 (t.kid 1).pos]) W ⟨_, rfl, HX1.out.ext isNd_good X fun _ _ h => h⟩
  obtain ⟨en, hen⟩ : ∃ q, emptyB (t.kid 1) = q := ⟨_, rfl⟩
  obtain ⟨yn, hyn⟩ : ∃ q, ty (t.kid 1) = q := ⟨_, rfl⟩
  rw [hen] at CN HR2
  rw [hyn] at CT HR2
  obtain ⟨n1, hn1⟩ : ∃ n, t.kid 1 = n := ⟨_, rfl⟩
  rw [hn1] at m0 m1 m2 m3 CN CT
  obtain ⟨p0, hp0⟩ : ∃ n, t.kid 0 = n := ⟨_, rfl⟩
  have hpl := p0.kids_len
  rw [hp0] at k0 k1 k2 k3 HR2 HX0 hs0
  obtain ⟨pk, hpk⟩ : ∃ k, p0.kind = k := ⟨_, rfl⟩
  obtain ⟨pt, hpt⟩ : ∃ k, p0.text = k := ⟨_, rfl⟩
  rw [hpk] at k0 HR2
  rw [hpt] at k1 HR2
  clear h12 hx0 hl hen hyn hn1 hpk hpt HR HH hp0
  by_cases h6 : pk = 6
  case neg =>
    have q : (pk != 6) = true := by simpa using h6
    have E : Hid (r = false) := hid (by
      rw [HR2.out]
      have : (pk == 6) = false := by simpa using h6
      rw [this]; rfl)
    clear h6
    go_wp2_with fail
    go_ret
    exact ⟨by rw [E.out]; rfl, X1.out⟩
  have q6 : (pk != 6) = false := by simpa using h6
  by_cases hpt0 : pt = []
  case neg =>
    have q : (pt != []) = true := by simpa using hpt0
    have q' : pt.isEmpty = false := by simpa using hpt0
    have E : Hid (r = false) := hid (by
      rw [HR2.out]
      have : (pt == []) = false := by simpa using hpt0
      rw [this]; simp)
    clear h6 hpt0
    go_wp2_with fail
    go_ret
    exact ⟨by rw [E.out]; rfl, X1.out⟩
  have qt : (pt != []) = false := by simpa using hpt0
  have qt' : pt.isEmpty = true := by simpa using hpt0
  have M := hid (SgM.mk k0 k1 k2 m0 m1 m2 m3)
  have HR3 := hid (show r = (p0.kids.all (namB (soB nm) 8 [ty]) && (en || yn)) by rw [HR2.out, h6, hpt0]; rfl)
  clear h6 hpt0 HR2
  go_wp2_with fail
  refine (CN.out _ (Ext.refl _ _)).mono ?_
  rintro e W2 ⟨rfl, X2⟩
  have X2 := hid X2
  clear c0 c1 c2 k0 k1 k2 k3 m0 m1 m2 m3
  have c2 := cell_at (X2.out.heap G0.out fun h => h) 2
  simp only [List.getElem?_toArray, List.getElem?_cons_zero, List.getElem?_cons_succ] at c2
  have k0 := (X2.out.cell (p := ⟨b, off, none⟩) hbw fun h => h).trans M.out.k0
  have k1 := (X2.out.cell (p := ⟨b, off + 1, none⟩) hbw fun h => h).trans M.out.k1
  have k2 := (X2.out.cell (p := ⟨b, off + 2, none⟩) hbw fun h => h).trans M.out.k2
  have m0 := (X2.out.cell (p := ⟨b, off + 4, none⟩) hbw fun h => h).trans M.out.m0
  have m1 := (X2.out.cell (p := ⟨b, off + 4 + 1, none⟩) hbw fun h => h).trans M.out.m1
  have m2 := (X2.out.cell (p := ⟨b, off + 4 + 2, none⟩) hbw fun h => h).trans M.out.m2
  have m3 := (X2.out.cell (p := ⟨b, off + 4 + 3, none⟩) hbw fun h => h).trans M.out.m3
  cases en
  case' true =>
    have HR4 := hid (show r = p0.kids.all (namB (soB nm) 8 [ty]) by rw [HR3.out]; simp)
    obtain ⟨W3, hW3⟩ : ∃ W3, W3 = W2 := ⟨_, rfl⟩
    have X3 := hid (show Ext none' W1 W3 by rw [hW3]; exact X2.out)
    rw [← hW3] at c2 k0 k1 k2 m0 m1 m2 m3 ⊢
    clear hW3
    go_upto_region 3 with (fail)
  case' false =>
    go_wp2_with fail
    refine (CT.out _ X2.out).mono ?_
    rintro e W3 ⟨rfl, X3⟩
    have X3 := hid (X2.out.trans X3)
    clear c2 k0 k1 k2 m0 m1 m2 m3
    have c2 := cell_at (X3.out.heap G0.out fun h => h) 2
    simp only [List.getElem?_toArray, List.getElem?_cons_zero, List.getElem?_cons_succ] at c2
    have k0 := (X3.out.cell (p := ⟨b, off, none⟩) hbw fun h => h).trans M.out.k0
    have k1 := (X3.out.cell (p := ⟨b, off + 1, none⟩) hbw fun h => h).trans M.out.k1
    have k2 := (X3.out.cell (p := ⟨b, off + 2, none⟩) hbw fun h => h).trans M.out.k2
    have m0 := (X3.out.cell (p := ⟨b, off + 4, none⟩) hbw fun h => h).trans M.out.m0
    have m1 := (X3.out.cell (p := ⟨b, off + 4 + 1, none⟩) hbw fun h => h).trans M.out.m1
    have m2 := (X3.out.cell (p := ⟨b, off + 4 + 2, none⟩) hbw fun h => h).trans M.out.m2
    have m3 := (X3.out.cell (p := ⟨b, off + 4 + 3, none⟩) hbw fun h => h).trans M.out.m3
    cases yn
    case false =>
      have E : Hid (r = false) := hid (by rw [HR3.out]; simp)
      go_wp2_with fail
      go_ret
      exact ⟨by rw [E.out]; rfl, X1.out.trans X3.out⟩
    have HR4 := hid (show r = p0.kids.all (namB (soB nm) 8 [ty]) by rw [HR3.out]; simp)
    go_upto_region 3 with (fail)
  all_goals
    have hpb : p0.kids.length ≤ 20000000000 := by have := hs0.out; unfold bigD at hf; omega
    go_wp2_with fail
    clear c2 k0 k1 k2 m0 m1 m2 m3
    go_loopw [6] (fun z wr => ∃ (i : Nat), z = .int .i64 (i : Nat) ∧ i ≤ p0.kids.length ∧ Hid (Ext none' W1 wr ∧ ∀ j (h : j < p0.kids.length), j < i → namB (soB nm) 8 [ty] p0.kids[j] = true)) (fun z _ => p0.kids.length - (RowKit.intOf z).toNat)
    case atStart => exact ⟨0, rfl, by omega, hid ⟨X3.out, fun j _ h => by omega⟩⟩
    case round =>
      obtain ⟨i, rfl, hle, RR⟩ := hrel
      by_cases hi : i < p0.kids.length
      · obtain ⟨b5, off5, cs5, rfl, _, hw5, hcc5, ht5⟩ := (HX0.out.ext isNd_good RR.out.1 fun _ _ h => h).at i hi
        obtain ⟨x5, rfl, hx5⟩ := ht5.parts
        have d0 := hcc5 0 _ rfl
        have d1 := hcc5 1 _ rfl
        have d2 := hcc5 2 _ rfl
        simp only [Nat.add_zero] at d0
        have hmem := List.getElem_mem hi
        have hqs := hid (show (p0.kids[i]).size ≤ f by have := Nd.size_kid hmem; have := hs0.out; omega)
        have HAT := hid (show ∀ (h : i < p0.kids.length), p0.kids[i] = p0.kids[i] from fun _ => rfl)
        obtain ⟨p, hp⟩ : ∃ p, p0.kids[i] = p := ⟨_, rfl⟩
        have HP := hid hp
        rw [hp] at d0 d1 hx5 hqs hmem
        have HX5 := hid hx5
        obtain ⟨a6, cap6, rfl, _⟩ := hx5
        have HM := hid hmem
        have hpkl : p.kids.length ≤ 20000000000 := by have := p.kids_len; have := hqs.out; unfold bigD at hf; omega
        have NO : Hid (namB (soB nm) 8 [ty] p = false → r = false) := hid fun h => by
          rw [HR4.out, List.all_eq_false]
          exact ⟨p, HM.out, by rw [h]; simp⟩
        clear hcc5 ht5 hp hmem HAT
        obtain ⟨ek, hek⟩ : ∃ k, p.kind = k := ⟨_, rfl⟩
        obtain ⟨et, het⟩ : ∃ k, p.text = k := ⟨_, rfl⟩
        have HEK := hid hek
        have HET := hid het
        rw [hek] at d0
        rw [het] at d1
        clear hek het
        have XR := hid (X1.out.trans RR.out.1)
        by_cases h8 : ek = 8
        case neg =>
          have q : (ek != 8) = true := by simpa using h8
          have E := hid (NO.out (by
            unfold namB
            have : (p.kind == 8) = false := by rw [HEK.out]; simpa using h8
            rw [this]; rfl))
          clear h8
          go_wp2_with fail
          go_ret
          exact ⟨by rw [E.out]; rfl, XR.out⟩
        have q8 : (ek != 8) = false := by simpa using h8
        by_cases h1 : p.kids.length = 1
        case neg =>
          have q : ((p.kids.length : Int) != 1) = true := by simp only [bne_iff_ne, ne_eq]; omega
          have E := hid (NO.out (namB_len h1))
          clear h8 h1
          go_wp2_with fail
          go_ret
          exact ⟨by rw [E.out]; rfl, XR.out⟩
        have q1 : ((p.kids.length : Int) != 1) = false := by simp only [bne_eq_false_iff_eq]; omega
        have y5 : (0 : Int) < (p.kids.length : Int) := by omega
        have HN := hid (show namB (soB nm) 8 [ty] p = (soB nm et && ty (p.kid 0)) by rw [namB_one h1, HEK.out, HET.out, h8]; rfl)
        obtain ⟨b7, off7, x7, rfl, hbw7, j0, j1, j2, j3, hx7⟩ := kid_val HX5.out 0 (by omega)
        simp only [Nat.zero_mul, Nat.add_zero] at j0 j1 j2 j3
        have HX7 := hid hx7
        obtain ⟨a8, cap8, rfl, _⟩ := hx7
        have CQ := hid (HH2.out (p.kid 0) (by have := Nd.size_kid (kid_mem (t := p) (i := 0) (by omega)); have := hqs.out; omega) (.agg #[.int .i64 (p.kid 0).kind, .string ⟨(p.kid 0).text.toArray⟩, .slice a8 (p.kid 0).kids.length cap8, .int .i64 (p.kid 0).pos]) wr ⟨_, rfl, HX7.out⟩)
        obtain ⟨yq, hyq⟩ : ∃ q, ty (p.kid 0) = q := ⟨_, rfl⟩
        rw [hyq] at CQ HN
        obtain ⟨n7, hn7⟩ : ∃ n, p.kid 0 = n := ⟨_, rfl⟩
        rw [hn7] at j0 j1 j2 j3 CQ
        clear h8 h1 hyq hn7
        go_wp2_with fail
        refine CQ.out.mono ?_
        rintro e W5 ⟨rfl, X5⟩
        have X5' := hid (RR.out.1.trans X5)
        have d1' := (X5.cell (p := ⟨b5, off5 + i * 4 + 1, none⟩) hw5 fun h => h).trans d1
        have X5' := hid X5'
        have XR5 := hid (X1.out.trans X5'.out)
        clear d0 d1 d2 j0 j1 j2 j3 X5
        have YES : Hid (namB (soB nm) 8 [ty] p = true → Ext none' W1 W5 ∧ ∀ j (h : j < p0.kids.length), j < i + 1 → namB (soB nm) 8 [ty] p0.kids[j] = true) := hid fun h => ⟨X5'.out, fun j hj hji => by
          by_cases e : j = i
          · subst e; rw [HP.out]; exact h
          · exact RR.out.2 j hj (by omega)⟩
        cases yq
        case false =>
          have E := hid (NO.out (by rw [HN.out, Bool.and_false]))
          go_wp2_with fail
          go_ret
          exact ⟨by rw [E.out]; rfl, XR5.out⟩
        cases nm
        case true =>
          have CM := hid fun W => rnm_any et W
          obtain ⟨qn, hqn⟩ : ∃ q, nmB et = q := ⟨_, rfl⟩
          rw [hqn] at CM
          have HN2 := hid (show namB (soB true) 8 [ty] p = qn by rw [HN.out, ← hqn, Bool.and_true]; rfl)
          clear hqn
          go_wp2_with fail
          refine (CM.out _).mono ?_
          rintro e W6 ⟨rfl, X6⟩
          have X6 := hid X6
          clear d1'
          cases qn
          case false =>
            have E := hid (NO.out HN2.out)
            go_wp2_with fail
            go_ret
            exact ⟨by rw [E.out]; rfl, XR5.out.trans X6.out⟩
          have N := hid (YES.out HN2.out)
          have N2 : Hid (Ext none' W1 W6 ∧ ∀ j (h : j < p0.kids.length), j < i + 1 → namB (soB true) 8 [ty] p0.kids[j] = true) := hid ⟨N.out.1.trans X6.out, N.out.2⟩
          go_wp2_with fail
          go_roundw
          case rel => exact ⟨i + 1, by go_num, by omega, N2⟩
          case measure => simp [RowKit.intOf]; omega
        case false =>
          by_cases he : et = []
          case neg =>
            have q : et.isEmpty = false := by simpa using he
            have E := hid (NO.out (by rw [HN.out, Bool.and_true]; simpa [soB] using he))
            clear he
            go_wp2_with fail
            go_ret
            exact ⟨by rw [E.out]; rfl, XR5.out⟩
          have q : et.isEmpty = true := by simpa using he
          have N := hid (YES.out (by rw [HN.out, Bool.and_true]; simpa [soB] using he))
          clear he
          go_wp2_with fail
          go_roundw
          case rel => exact ⟨i + 1, by go_num, by omega, N⟩
          case measure => simp [RowKit.intOf]; omega
      · have E : Hid (r = true) := hid (by
          rw [HR4.out, List.all_eq_true]
          intro y hy
          obtain ⟨j, hj, rfl⟩ := List.mem_iff_getElem.1 hy
          exact RR.out.2 j hj (by omega))
        obtain rfl : i = p0.kids.length := by omega
        have XR := hid (X1.out.trans RR.out.1)
        go_wp2_with fail
        go_ret
        exact ⟨by rw [E.out]; rfl, XR.out⟩
end Go.Proofs.YtbhpmmofgdppdaaGreatDoor
