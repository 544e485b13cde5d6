import Derived.Test.YtbhpmmofgdppdaaGreatDoorZAo
import Derived.Test.YtbhpmmofgdppdaaGreatDoorZAf
/-
  Layer 12 (unify), plain. No Go in sight.
-/
namespace Go.Proofs.YtbhpmmofgdppdaaGreatDoor
open Go.Lib
def samesL (p : Ty → Ty → Bool) : List Ty → List Ty → Bool
  | [], [] => true
  | a :: r, b :: s => p a b && samesL p r s
  | _, _ => false
def sameP : Nat → Ty → Ty → Bool
  | 0, _, _ => false
  | f + 1, a, b => a.kind == b.kind && (a.name == b.name && samesL (sameP f) a.args b.args)
theorem samesL_len {p : Ty → Ty → Bool} : ∀ {l m : List Ty}, l.length ≠ m.length → samesL p l m = false
  | [], [], h => absurd rfl h
  | [], _ :: _, _ => rfl
  | _ :: _, [], _ => rfl
  | a :: r, b :: s, h => by
    rw [samesL, samesL_len (l := r) (m := s) (fun e => h (by simp [e])), Bool.and_false]
theorem samesL_bad {p : Ty → Ty → Bool} : ∀ {l m : List Ty} (i : Nat) (h1 : i < l.length) (h2 : i < m.length), p l[i] m[i] = false → samesL p l m = false
  | a :: r, b :: s, 0, _, _, h => by
    simp only [List.getElem_cons_zero] at h
    rw [samesL, h, Bool.false_and]
  | a :: r, b :: s, i + 1, h1, h2, h => by
    simp only [List.getElem_cons_succ] at h
    rw [samesL, samesL_bad i (by simpa using h1) (by simpa using h2) h, Bool.and_false]
theorem samesL_good {p : Ty → Ty → Bool} : ∀ {l m : List Ty}, l.length = m.length → (∀ i (h1 : i < l.length) (h2 : i < m.length), p l[i] m[i] = true) → samesL p l m = true
  | [], [], _, _ => rfl
  | a :: r, b :: s, he, h => by
    have h0 := h 0 (by simp) (by simp)
    simp only [List.getElem_cons_zero] at h0
    rw [samesL, h0, Bool.true_and]
    exact samesL_good (by simpa using he) fun i h1 h2 => by have := h (i + 1) (by simpa using h1) (by simpa using h2); simpa using this
def ownP (row : List (List UInt8)) (t : Ty) : Int := if t.kind ≠ 4 then -1 else fstI (· == t.name) row
def partsL (g : Ty → Ty → List Ty → Bool × List Ty) : List Ty → List Ty → List Ty → Bool × List Ty
  | p :: ps, t :: ts, by' => if (g p t by').1 then partsL g ps ts (g p t by').2 else (false, (g p t by').2)
  | _, _, by' => (true, by')
def partsP (g : Ty → Ty → List Ty → Bool × List Ty) (p t : Ty) (by' : List Ty) : Bool × List Ty := if p.args.length ≠ t.args.length then (false, by') else partsL g p.args t.args by'
def openP (ds : List Df) (t : Ty) : Ty := if t.kind = 3 then fullP ds (behindP ds t) else t
def fitsP (ds : List Df) (row : List (List UInt8)) : Nat → Ty → Ty → List Ty → Bool × List Ty
  | 0, _, _, by' => (false, by')
  | f + 1, p, t, by' =>
    if 0 ≤ ownP row p then
      if (by'.getD (ownP row p).toNat Ty.zero).kind = 0 then (true, by'.set (ownP row p).toNat t) else (sameP 100 (by'.getD (ownP row p).toNat Ty.zero) t, by')
    else if p.kind = 5 ∨ p.kind = 6 then
      if (openP ds t).kind = p.kind then partsP (fitsP ds row f) p (openP ds t) by' else (false, by')
    else if p.kind = 3 then
      if t.kind = 3 ∧ t.name = p.name then partsP (fitsP ds row f) p t by' else (false, by')
    else (sameP 100 p t, by')
/-- How far the parts have come. -/
def partsAt (g : Ty → Ty → List Ty → Bool × List Ty) (p t : Ty) (by' : List Ty) : Nat → Bool × List Ty
  | 0 => (true, by')
  | i + 1 => if (partsAt g p t by' i).1 then g (p.args.getD i Ty.zero) (t.args.getD i Ty.zero) (partsAt g p t by' i).2 else partsAt g p t by' i
theorem partsL_at (g : Ty → Ty → List Ty → Bool × List Ty) (p t : Ty) (by' : List Ty) (he : p.args.length = t.args.length) : ∀ (k i : Nat), i + k = p.args.length → (partsAt g p t by' i).1 = true → partsL g (p.args.drop i) (t.args.drop i) (partsAt g p t by' i).2 = partsAt g p t by' p.args.length
  | 0, i, hk, h => by
    have e : i = p.args.length := by omega
    subst e
    rw [List.drop_length]
    simp only [partsL]
    exact Prod.ext h.symm rfl
  | k + 1, i, hk, h => by
    have h1 : i < p.args.length := by omega
    have h2 : i < t.args.length := by omega
    rw [List.drop_eq_getElem_cons h1, List.drop_eq_getElem_cons h2, partsL]
    have e : partsAt g p t by' (i + 1) = g p.args[i] t.args[i] (partsAt g p t by' i).2 := by
      rw [partsAt, if_pos h, List.getD_eq_getElem?_getD, List.getElem?_eq_getElem h1, List.getD_eq_getElem?_getD, List.getElem?_eq_getElem h2]
      rfl
    rw [← e]
    by_cases hq : (partsAt g p t by' (i + 1)).1 = true
    · rw [if_pos hq]
      exact partsL_at g p t by' he k (i + 1) (by omega) hq
    · rw [if_neg hq]
      have stay : ∀ j, i + 1 ≤ j → partsAt g p t by' j = partsAt g p t by' (i + 1) := by
        intro j
        induction j with
        | zero => intro h; omega
        | succ j ih =>
          intro hj
          by_cases hj' : i + 1 ≤ j
          · have := ih hj'
            rw [partsAt, this, if_neg hq]
          · have : j = i := by omega
            subst this; rfl
      rw [stay p.args.length (by omega)]
      refine Prod.ext ?_ rfl
      simp only
      cases hx : (partsAt g p t by' (i + 1)).1 with
      | true => exact absurd hx hq
      | false => rfl
theorem partsP_at (g : Ty → Ty → List Ty → Bool × List Ty) (p t : Ty) (by' : List Ty) (he : p.args.length = t.args.length) : partsP g p t by' = partsAt g p t by' p.args.length := by
  rw [partsP, if_neg (by simpa using he)]
  have := partsL_at g p t by' he p.args.length 0 (by omega) rfl
  simpa [partsAt] using this
theorem partsAt_bad {g : Ty → Ty → List Ty → Bool × List Ty} {p t : Ty} {by' : List Ty} {i : Nat} (h : (partsAt g p t by' i).1 = false) : ∀ n, i ≤ n → partsAt g p t by' n = partsAt g p t by' i := by
  intro n
  induction n with
  | zero => intro hi; rw [Nat.le_zero.1 hi]
  | succ n ih =>
    intro hi
    by_cases e : i = n + 1
    · rw [e]
    · have := ih (by omega)
      rw [partsAt, this, h]
      rfl
theorem full_kind_basic (ds : List Df) (n : List UInt8) : fullP ds (.mk 1 n []) = .mk 1 n [] := by
  kernel_rfl
theorem full_zero (ds : List Df) : fullP ds Ty.zero = Ty.zero := by
  kernel_rfl
end Go.Proofs.YtbhpmmofgdppdaaGreatDoor
namespace Go.Proofs.YtbhpmmofgdppdaaGreatDoor
open Go.RowKit Go.Lib Go.BigFrame
structure BehRel (ds : List Df) (p : Ty) (D : Nat → Prop) (B : Nat) (w wr : World) (t : Ty) (x : Value) (i : Nat) : Prop where
  g0 : wr.heap[B]? = some (.cells #[.int .i64 t.kind, .string ⟨t.name.toArray⟩, x] 32 (0, 0))
  g1 : wr.heap[B + 1]? = some (.cells #[.int .i64 0, .string ⟨#[]⟩, .slice none 0 0] 32 (0, 0))
  hx : Ext none' w wr
  rep : IsSl 3 IsTy D wr x t.args
  sz : t.size ≤ bigD
  res : p = behP ds (100 - i) t
set_option maxRecDepth 100000 in
set_option maxHeartbeats 3200000 in
theorem Behind_any (ds : List Df) (hds : DefsFit ds) (t : Ty) (ht : t.size ≤ bigD) (A : Nat → Prop) (dv v : Value) (w : World) (hd : IsSl 6 IsDf A w dv ds) (hv : TyV A w t v) (hA : ∀ b, A b → b < w.heap.size) :
    Calls Tryz.prog 14 #[dv, v] w (TyPost none' A w (behindP ds t)) := by
  obtain ⟨p, hp⟩ : ∃ p, p = behindP ds t := ⟨_, rfl⟩
  rw [← hp]
  unfold behindP at hp
  obtain ⟨x, rfl, hx⟩ := hv
  obtain ⟨B, hB⟩ : ∃ B, B = w.heap.size := ⟨_, rfl⟩
  obtain ⟨D, hD⟩ : ∃ D, D = and1 (and1 A B) (B + 1) := ⟨_, rfl⟩
  have dn : ∀ b, b < w.heap.size → D b → A b := fun b hb h => by
    rw [hD] at h
    rcases h with (h | h) | h
    · exact h
    · omega
    · omega
  have HD := hid (hd.mono isDf_good dn)
  have hx1 := hx.mono isTy_good dn
  have HX := hid hx1
  have hDA : Hid (∀ b, and1 A (B + 1) b → D b) := hid (fun b h => by rw [hD]; exact h.elim (fun h => .inl (.inl h)) .inr)
  have hDB : Hid (D B) := hid (by rw [hD]; exact .inl (.inr rfl))
  have hDlt : Hid (∀ (W : World), B + 2 ≤ W.heap.size → ∀ b, D b → b < W.heap.size) := hid (fun W hW b h => by
    rw [hD] at h
    rcases h with (h | h) | h
    · have := hA b h; omega
    · omega
    · omega)
  obtain ⟨a0, cap0, rfl, _⟩ := hx
  obtain ⟨ad, capd, rfl, _⟩ := hd
  have R0 : Hid (∀ wr, wr = (w.alloc (.cells #[.int .i64 t.kind, .string ⟨t.name.toArray⟩, .slice a0 t.args.length cap0] 32)).alloc (.cells #[.int .i64 0, .string ⟨#[]⟩, .slice none 0 0] 32) → BehRel ds p D B w wr t (.slice a0 t.args.length cap0) 0) := hid (fun wr hwr => by
    subst hwr
    exact ⟨heap_alloc_keep (heap_alloc_at hB _) _, heap_alloc_at (by rw [hB]; simp) _, ((Ext.refl _ _).alloc _).alloc _, HX.out.ext isTy_good (((Ext.refl none' _).alloc _).alloc _) fun _ _ h => h.elim, ht, hp⟩)
  have HB := hid hB
  have HDD := hid hD
  clear hp hx1 dn hD
  go_enter Tryz.func14, Tryz.ntmps14
  go_wp2_with fail
  rw [← hB]
  clear hB
  go_loopw [6] (fun z wr => ∃ (i : Nat) (t' : Ty) (x : Value), z = .int .i64 (i : Nat) ∧ i ≤ 100 ∧ Hid (BehRel ds p D B w wr t' x i)) (fun z _ => 100 - (RowKit.intOf z).toNat)
  case atStart => exact ⟨0, t, _, rfl, by omega, hid (R0.out _ rfl)⟩
  case round =>
    obtain ⟨i, t', x, rfl, hle, R⟩ := hrel
    have hrep := R.out.rep
    obtain ⟨a3, cap3, rfl, _⟩ := hrep
    have c0 := cell_at R.out.g0 0
    have c1 := cell_at R.out.g0 1
    have c2 := cell_at R.out.g0 2
    have e0 := cell_at R.out.g1 0
    have e1 := cell_at R.out.g1 1
    have e2 := cell_at R.out.g1 2
    have f0 := free_at R.out.g1 0
    have f1 := free_at R.out.g1 1
    have f2 := free_at R.out.g1 2
    simp only [List.getElem?_toArray, List.getElem?_cons_zero, List.getElem?_cons_succ] at c0 c1 c2 e0 e1 e2
    have hsz := hid (show B + 2 ≤ wr.heap.size by have := heap_lt R.out.g1; omega)
    by_cases hi : i < 100
    · obtain ⟨g, hg⟩ : ∃ g, 100 - i = g + 1 := ⟨99 - i, by omega⟩
      have HRES : Hid (p = if t'.kind ≠ 3 then t' else match findD ds t' with
        | none => Ty.zero
        | some d => if 1000 < sizeW t' then Ty.zero else behP ds g (withT d.params t'.args d.ty)) := hid (by rw [R.out.res, hg]; rfl)
      by_cases hk : t'.kind = 3
      · have HRES2 := hid (HRES.out.trans (if_neg (fun h => h hk)))
        have HTV : Hid (∀ W, Ext none' wr W → TyV D W t' (.agg #[.int .i64 3, .string ⟨t'.name.toArray⟩, .slice a3 t'.args.length cap3])) := hid (fun W X => ⟨_, by rw [hk], R.out.rep.ext isTy_good X fun _ _ h => h.elim⟩)
        have CF := hid (find_any ds hds.len t' D (.slice ad ds.length capd) _ wr (HD.out.ext isDf_good R.out.hx fun _ _ h => h.elim) (HTV.out wr (Ext.refl _ _)))
        rw [hk] at c0
        obtain ⟨fd, hfd⟩ : ∃ fd, findD ds t' = fd := ⟨_, rfl⟩
        rw [hfd] at CF HRES2
        have HFD := hid hfd
        have HK := hid hk
        clear hfd hk
        go_wp2_with fail
        refine CF.out.mono ?_
        rintro e' W1 ⟨q, rfl, X1, hq0, hq⟩
        have X1' := hid X1
        have g0 := X1.heap R.out.g0 (fun h => h)
        have g1 := X1.heap R.out.g1 (fun h => h)
        clear c0 c1 c2 e0 e1 e2 f0 f1 f2
        have c0 := cell_at g0 0
        have c1 := cell_at g0 1
        have c2 := cell_at g0 2
        have e0 := cell_at g1 0
        have e1 := cell_at g1 1
        have e2 := cell_at g1 2
        have f0 := free_at g1 0
        have f1 := free_at g1 1
        have f2 := free_at g1 2
        have k0 := free_at g0 0
        have k1 := free_at g0 1
        have k2 := free_at g0 2
        simp only [List.getElem?_toArray, List.getElem?_cons_zero, List.getElem?_cons_succ] at c0 c1 c2 e0 e1 e2
        rw [HK.out] at c0
        have G0 := hid g0
        have G1 := hid g1
        have X1t := hid (R.out.hx.trans X1)
        cases fd with
        | none =>
          obtain rfl := hq0 rfl
          have e3 : Hid (p = Ty.zero) := hid HRES2.out
          go_wp2_with fail
          refine ret_ty rfl rfl (set3 G1.out _ _ _) rfl ?_
          rw [e3.out]
          exact ⟨_, rfl, ⟨.slice none 0 0, rfl, IsSl.nil _ _ _ _⟩, (X1t.out).set3 (b := B + 1) (.inr (by have := HB.out; omega)) _ _ _⟩
        | some d =>
          obtain ⟨b, off, cs, rfl, hAb, hbw, hcc, hdf⟩ := hq d rfl
          obtain ⟨pv, tv, rfl, hpv, htv⟩ := hdf
          have hcc := hid hcc
          have y1 := (hcc.out.ext (F := none') X1 hbw (fun h => h)) 1 _ rfl
          have y2 := (hcc.out.ext (F := none') X1 hbw (fun h => h)) 2 _ rfl
          have y3 := (hcc.out.ext (F := none') X1 hbw (fun h => h)) 3 _ rfl
          have y4 := (hcc.out.ext (F := none') X1 hbw (fun h => h)) 4 _ rfl
          have HPV := hid hpv
          have HTV2 := hid htv
          have hmem := findD_mem HFD.out
          have hdty := hid (hds.ok _ hmem)
          have hdps := hid (hds.pars _ hmem)
          obtain ⟨a1, cap1, rfl, _⟩ := hpv
          obtain ⟨a2, cap2, rfl, _⟩ := htv
          obtain ⟨dn, dp, dt, da⟩ := d
          simp only at y1 y2 y3 y4 HPV HTV2
          have CS := hid (size_any t' R.out.sz D _ W1 (HTV.out W1 X1))
          have hbs := fun h => beh_size hds.ok HFD.out h
          have hsw := sizeW_le t'
          have hsw2 := R.out.sz
          obtain ⟨sw, hsw'⟩ : ∃ sw, sizeW t' = sw := ⟨_, rfl⟩
          rw [hsw'] at CS HRES2 hbs hsw
          have hsw3 : sw ≤ 20000000000 := by unfold bigD at hsw2; omega
          have HBS := hid hbs
          have HW := hid hbw
          clear hsw' hsw hsw2 hbs hmem hq hq0 hAb hbw
          by_cases hbig : 1000 < sw
          · have e3 : Hid (p = Ty.zero) := hid (HRES2.out.trans (if_pos hbig))
            have q2 : decide (1000 < (sw : Int)) = true := by simp; omega
            go_wp2_with fail
            refine CS.out.mono ?_
            rintro e' W2 ⟨rfl, X2⟩
            have g1 := X2.heap G1.out (fun h => h)
            clear e0 e1 e2 f0 f1 f2
            have e0 := cell_at g1 0
            have e1 := cell_at g1 1
            have e2 := cell_at g1 2
            have f0 := free_at g1 0
            have f1 := free_at g1 1
            have f2 := free_at g1 2
            simp only [List.getElem?_toArray, List.getElem?_cons_zero, List.getElem?_cons_succ] at e0 e1 e2
            have G1 := hid g1
            have X1t := hid (X1t.out.trans X2)
            clear g1 X2
            go_wp2_with fail
            refine ret_ty rfl rfl (set3 G1.out _ _ _) rfl ?_
            rw [e3.out]
            exact ⟨_, rfl, ⟨.slice none 0 0, rfl, IsSl.nil _ _ _ _⟩, (X1t.out).set3 (b := B + 1) (.inr (by have := HB.out; omega)) _ _ _⟩
          · have e3 : Hid (p = behP ds g (withT dp t'.args dt)) := hid (HRES2.out.trans (if_neg hbig))
            have q2 : decide (1000 < (sw : Int)) = false := by simp; omega
            have hnew := hid (HBS.out (by omega))
            go_wp2_with fail
            refine CS.out.mono ?_
            rintro e' W2 ⟨rfl, X2⟩
            have X1w := hid (X1'.out.trans X2)
            have CW := hid fun W (X : Ext none' W2 W) => with_any dp t'.args (by have := hdps.out; exact this) dt (by have := hdty.out; omega) D (.agg #[.int .i64 dt.kind, .string ⟨dt.name.toArray⟩, .slice a2 dt.args.length cap2]) (.slice a1 dp.length cap1) (.slice a3 t'.args.length cap3) W
              ⟨_, rfl, (HTV2.out.ext isTy_good X1w.out fun _ _ h => h.elim).ext isTy_good X fun _ _ h => h.elim⟩ ((HPV.out.ext isStr_good X1w.out fun _ _ h => h.elim).ext isStr_good X fun _ _ h => h.elim) ((R.out.rep.ext isTy_good X1w.out fun _ _ h => h.elim).ext isTy_good X fun _ _ h => h.elim) (hDlt.out W (by have := hsz.out; have := X1w.out.size; have := X.size; omega))
            have r2 := fun t : LaterF none' W2 => cell_at ((X2.trans t.x).heap G0.out (fun h => h)) 2
            have r4 := fun t : LaterF none' W2 => ((X1w.out.trans t.x).cell (p := ⟨b, off + 1, none⟩) HW.out (fun h => h)).trans (hcc.out 1 _ rfl)
            have r5 := fun t : LaterF none' W2 => ((X1w.out.trans t.x).cell (p := ⟨b, off + 2, none⟩) HW.out (fun h => h)).trans (hcc.out 2 _ rfl)
            have r6 := fun t : LaterF none' W2 => ((X1w.out.trans t.x).cell (p := ⟨b, off + 3, none⟩) HW.out (fun h => h)).trans (hcc.out 3 _ rfl)
            have r7 := fun t : LaterF none' W2 => ((X1w.out.trans t.x).cell (p := ⟨b, off + 4, none⟩) HW.out (fun h => h)).trans (hcc.out 4 _ rfl)
            simp only [List.getElem?_toArray, List.getElem?_cons_zero, List.getElem?_cons_succ] at r2 r4 r5 r6 r7
            have g0 := X2.heap G0.out (fun h => h)
            have g1 := X2.heap G1.out (fun h => h)
            have G0 := hid g0
            have G1 := hid g1
            have X2t := hid (X1t.out.trans X2)
            clear c0 c1 c2 e0 e1 e2 f0 f1 f2 k0 k1 k2 y1 y2 y3 y4 g0 g1 X1 X2
            go_upto_region 8 with (fail)
            refine region_tree none' W2 [0, 1, 2, 3, 4, 5, 6, 7, 8, 9] (.one 10 false (.one 11 false .fin)) (by kernel_rfl) (by kernel_rfl) (fun dst v c a w h => by cases dst <;> exact h) (Ext.refl _ _) ?_
            simp only [sel, List.getElem?_cons_succ, List.getElem?_cons_zero]
            repeat (go_big_quiet_step (fail))
            refine wpQuiet_nil ?_
            simp only [wpTree, stepT, sel, List.getElem?_cons_succ, List.getElem?_cons_zero]
            clear r2 r4 r5 r6 r7
            go_wp2_with fail
            refine (CW.out _ (Ext.refl _ _).drew).mono ?_
            rintro e' W3 ⟨u, rfl, ⟨y, rfl, hy⟩, X3⟩
            have X3 : Ext none' W2 W3 := (Ext.refl _ _).drew.trans X3
            have HY := hid hy
            obtain ⟨a5, cap5, rfl, _⟩ := hy
            have g0 := X3.heap G0.out (fun h => h)
            have g1 := X3.heap G1.out (fun h => h)
            have c0 := cell_at g0 0
            have c1 := cell_at g0 1
            have c2 := cell_at g0 2
            have k0 := free_at g0 0
            have k1 := free_at g0 1
            have k2 := free_at g0 2
            simp only [List.getElem?_toArray, List.getElem?_cons_zero, List.getElem?_cons_succ] at c0 c1 c2
            have N : Hid (BehRel ds p D B w (((W3.setCell ⟨B, 0, none⟩ (.int .i64 (withT dp t'.args dt).kind)).setCell ⟨B, 1, none⟩ (.string ⟨(withT dp t'.args dt).name.toArray⟩)).setCell ⟨B, 2, none⟩ (.slice a5 (withT dp t'.args dt).args.length cap5)) (withT dp t'.args dt) (.slice a5 (withT dp t'.args dt).args.length cap5) (i + 1)) := hid
              ⟨set3 g0 _ _ _, heap_setCell_other (heap_setCell_other (heap_setCell_other g1 (by simp) _) (by simp) _) (by simp) _, (X2t.out.trans X3).set3 (b := B) (.inr (by have := HB.out; omega)) _ _ _,
                HY.out.ext isTy_good (Ext.self3 _ _ _ _ _) (fun b _ h => by have h' : b = B := h; rw [h']; exact hDB.out), hnew.out, by rw [e3.out]; congr 1; omega⟩
            clear g0 g1 X3
            obtain ⟨nt, hnt⟩ : ∃ nt, withT dp t'.args dt = nt := ⟨_, rfl⟩
            rw [hnt] at N ⊢
            clear hnt
            go_wp2_with fail
            go_roundw
            case rel => exact ⟨i + 1, nt, _, by go_num, by omega, N⟩
            case measure => simp [RowKit.intOf]; omega
      · have e3 : Hid (p = t') := hid (by rw [HRES.out, if_pos hk])
        have q1 : (t'.kind != 3) = true := by simp [hk]
        clear hk
        go_wp2_with fail
        refine ret_ty rfl rfl (set3 R.out.g1 _ _ _) rfl ?_
        rw [e3.out]
        refine ⟨_, rfl, TyV.stored (R.out.rep.mono isTy_good fun b _ h => hDA.out b h) _ _ _, R.out.hx.set3 (b := B + 1) (.inr (by have := HB.out; omega)) _ _ _⟩
    · obtain rfl : i = 100 := by omega
      have e3 : Hid (p = Ty.zero) := hid (by rw [R.out.res]; rfl)
      go_wp2_with fail
      refine ret_ty rfl rfl (set3 R.out.g1 _ _ _) rfl ?_
      rw [e3.out]
      exact ⟨_, rfl, ⟨.slice none 0 0, rfl, IsSl.nil _ _ _ _⟩, R.out.hx.set3 (b := B + 1) (.inr (by have := HB.out; omega)) _ _ _⟩
end Go.Proofs.YtbhpmmofgdppdaaGreatDoor
/-
  kinds.Same: are two types?
-/
namespace Go.Proofs.YtbhpmmofgdppdaaGreatDoor
open Go.RowKit Go.Lib Go.BigFrame
set_option maxRecDepth 100000 in
set_option maxHeartbeats 1600000 in
theorem equal_any (fn : Nat) (caps : Array Value) (p : Ty → Ty → Bool) (l m : List Ty) (v u : Value) (w : World) (hl : l.length ≤ 100000000000) (hv : IsSl 3 IsTy none' w v l) (hu : IsSl 3 IsTy none' w u m)
    (hst : ∀ (i : Nat) (h1 : i < l.length) (h2 : i < m.length) (w' : World) (x y : Value), Ext none' w w' → TyV none' w' l[i] x → TyV none' w' m[i] y → Calls Tryz.prog fn (#[x, y] ++ caps) w' (BoolP (p l[i] m[i]) w'))
    (hfn : ∀ args w, (callFunc fn args).run Tryz.prog w = .ok (.enter fn args) w) :
    Calls Tryz.prog 66 #[v, u, .func (.func fn) #[] caps] w (BoolP (samesL p l m) w) := by
  have HV := hid hv
  have HU := hid hu
  have HST := hid hst
  obtain ⟨a, cap, rfl, _⟩ := hv
  obtain ⟨a', cap', rfl, _⟩ := hu
  obtain ⟨r, hr⟩ : ∃ r, r = samesL p l m := ⟨_, rfl⟩
  rw [← hr]
  have HR := hid hr
  clear hst hr
  by_cases hlm : l.length = m.length
  · have q0 : ((l.length : Int) != (m.length : Int)) = false := by simp only [bne_eq_false_iff_eq]; omega
    have HLM := hid hlm
    clear hlm
    go_enter Tryz.func66, Tryz.ntmps66
    go_wp2_with fail
    go_loopw [17] (fun z wr => ∃ (i : Nat), z = .int .i64 (i : Nat) ∧ i ≤ l.length ∧ Hid (∀ j (h1 : j < l.length) (h2 : j < m.length), j < i → p l[j] m[j] = true) ∧ Hid (Ext none' w wr)) (fun z _ => l.length - (RowKit.intOf z).toNat)
    case atStart => exact ⟨0, rfl, by omega, hid (fun j _ _ h => by omega), hid (Ext.refl _ _)⟩
    case round =>
      obtain ⟨i, rfl, hle, HF, X⟩ := hrel
      by_cases hi : i < l.length
      · have him : i < m.length := by have := HLM.out; omega
        obtain ⟨b, off, cs, rfl, _, hbw, hcc, hty⟩ := (HV.out.ext isTy_good X.out fun _ _ h => h.elim).at i hi
        obtain ⟨x, rfl, hx⟩ := hty.parts
        obtain ⟨b', off', cs', rfl, _, hbw', hcc', hty'⟩ := (HU.out.ext isTy_good X.out fun _ _ h => h.elim).at i him
        obtain ⟨x', rfl, hx'⟩ := hty'.parts
        have c0 := hcc 0 _ rfl
        have c1 := hcc 1 _ rfl
        have c2 := hcc 2 _ rfl
        simp only [Nat.add_zero] at c0
        have HX := hid hx
        have HX' := hid hx'
        obtain ⟨a1, cap1, rfl, _⟩ := hx
        obtain ⟨a1', cap1', rfl, _⟩ := hx'
        have C1 := hid fun (W : World) (XW : Ext none' wr W) => HST.out i hi him W _ _ (X.out.trans XW) ⟨_, rfl, HX.out.ext isTy_good XW fun _ _ h => h.elim⟩ ⟨_, rfl, HX'.out.ext isTy_good XW fun _ _ h => h.elim⟩
        have HBAD := hid fun h => samesL_bad (p := p) (l := l) (m := m) i hi him h
        have HGOOD : Hid (p l[i] m[i] = true → ∀ (j : Nat) (h1 : j < l.length) (h2 : j < m.length), j < i + 1 → p l[j] m[j] = true) := hid fun h j h1 h2 hj => by
          by_cases e : j = i
          · subst e; exact h
          · exact HF.out j h1 h2 (by omega)
        obtain ⟨t, ht⟩ : ∃ t, l[i] = t := ⟨_, rfl⟩
        obtain ⟨t', ht'⟩ : ∃ t', m[i] = t' := ⟨_, rfl⟩
        have d0 := hcc' 0 _ rfl
        have d1 := hcc' 1 _ rfl
        have d2 := hcc' 2 _ rfl
        simp only [Nat.add_zero] at d0
        rw [ht] at c0 c1 c2 HX
        rw [ht'] at d0 d1 d2 HX'
        obtain ⟨q, hq⟩ : ∃ q, p l[i] m[i] = q := ⟨_, rfl⟩
        rw [hq] at C1 HBAD HGOOD
        rw [ht, ht'] at C1
        have k0 := (((Ext.refl none' wr).alloc (.cells #[.int .i64 t.kind, .string ⟨t.name.toArray⟩, .slice a1 t.args.length cap1] 32)).cell hbw' (fun h => h)).trans d0
        have k1 := (((Ext.refl none' wr).alloc (.cells #[.int .i64 t.kind, .string ⟨t.name.toArray⟩, .slice a1 t.args.length cap1] 32)).cell (p := ⟨b', off' + i * 3 + 1, none⟩) hbw' (fun h => h)).trans d1
        have k2 := (((Ext.refl none' wr).alloc (.cells #[.int .i64 t.kind, .string ⟨t.name.toArray⟩, .slice a1 t.args.length cap1] 32)).cell (p := ⟨b', off' + i * 3 + 2, none⟩) hbw' (fun h => h)).trans d2
        clear hcc hty hcc' hty' ht ht' hq d0 d1 d2
        go_wp2_with fail
        refine (C1.out _ (((Ext.refl none' wr).alloc _).alloc _)).mono ?_
        rintro e w2 ⟨rfl, X2⟩
        have X2 := hid (X.out.trans ((((Ext.refl none' wr).alloc _).alloc _).trans X2))
        cases q with
        | true =>
          go_wp2_with fail
          go_roundw
          case rel => exact ⟨i + 1, by go_num, by omega, hid (HGOOD.out (by trivial)), X2⟩
          case measure => simp [RowKit.intOf]; omega
        | false =>
          have e1 : Hid (r = false) := hid (by rw [HR.out]; exact HBAD.out rfl)
          go_wp2_with fail
          go_ret
          exact ⟨by rw [e1.out]; rfl, X2.out⟩
      · obtain rfl : i = l.length := by omega
        have e1 : Hid (r = true) := hid (by rw [HR.out]; exact samesL_good HLM.out fun j h1 h2 => HF.out j h1 h2 h1)
        go_wp2_with fail
        go_ret
        exact ⟨by rw [e1.out]; rfl, X.out⟩
  · have q0 : ((l.length : Int) != (m.length : Int)) = true := by simp only [bne_iff_ne, ne_eq]; omega
    have e1 : Hid (r = false) := hid (by rw [HR.out]; exact samesL_len hlm)
    clear hlm
    go_enter Tryz.func66, Tryz.ntmps66
    go_wp2_with fail
    go_ret
    exact ⟨by rw [e1.out]; rfl, Ext.refl _ _⟩
theorem enter_same1 : ∀ args w, (callFunc 67 args).run Tryz.prog w = .ok (.enter 67 args) w := Go.Proofs.enters_of Tryz.func67 (by kernel_rfl) rfl
set_option maxRecDepth 100000 in
set_option maxHeartbeats 1600000 in
theorem same1_any (f : Nat) (hf : f ≤ 100000) (a b : Ty) (v u : Value) (B : Nat) (w : World) (hb : w.heap[B]? = some (.cells #[.int .i64 ((f + 1 : Nat) : Nat)] 3 (0, 0))) (hv : TyV none' w a v) (hu : TyV none' w b u)
    (H : ∀ w' x y, Ext none' w w' → TyV none' w' a x → TyV none' w' b y → Calls Tryz.prog 38 #[x, y, .int .i64 (f : Nat)] w' (BoolP (sameP f a b) w')) :
    Calls Tryz.prog 67 #[v, u, .pointer (some ⟨B, 0, none⟩)] w (BoolP (sameP f a b) w) := by
  have HV := hid hv
  have HU := hid hu
  obtain ⟨x, rfl, hx⟩ := hv
  obtain ⟨y, rfl, hy⟩ := hu
  obtain ⟨a1, cap1, rfl, _⟩ := hx
  obtain ⟨a2, cap2, rfl, _⟩ := hy
  have HH := hid fun w' X => H w' _ _ X (HV.out.ext X fun _ _ h => h.elim) (HU.out.ext X fun _ _ h => h.elim)
  obtain ⟨r, hr⟩ : ∃ r, sameP f a b = r := ⟨_, rfl⟩
  rw [hr] at HH ⊢
  have c0 := cell_at (heap_alloc_keep (heap_alloc_keep hb (.cells #[.int .i64 a.kind, .string ⟨a.name.toArray⟩, .slice a1 a.args.length cap1] 32)) (.cells #[.int .i64 b.kind, .string ⟨b.name.toArray⟩, .slice a2 b.args.length cap2] 32)) 0
  simp only [List.getElem?_toArray, List.getElem?_cons_zero] at c0
  have hs : ((f + 1 : Nat) : Int) - 1 = (f : Int) := by omega
  obtain ⟨F, hF⟩ : ∃ F : Int, F = ((f + 1 : Nat) : Int) := ⟨_, rfl⟩
  have hFb : F ≤ 100001 ∧ 1 ≤ F := by omega
  rw [← hF] at hs c0
  clear hF H hr hb
  go_enter Tryz.func67, Tryz.ntmps67
  go_wp2_with fail
  refine (HH.out _ (((Ext.refl _ _).alloc _).alloc _)).mono ?_
  rintro e w1 ⟨rfl, X1⟩
  have X1 := hid ((((Ext.refl none' w).alloc _).alloc _).trans X1)
  go_wp2_with fail
  go_ret
  exact ⟨rfl, X1.out⟩
set_option maxRecDepth 100000 in
set_option maxHeartbeats 1600000 in
theorem same_any : ∀ (f : Nat), f ≤ 100000 → ∀ (a b : Ty), a.size ≤ bigD → b.size ≤ bigD → ∀ (v u : Value) (w : World), TyV none' w a v → TyV none' w b u → Calls Tryz.prog 38 #[v, u, .int .i64 (f : Nat)] w (BoolP (sameP f a b) w) := by
  intro f
  induction f with
  | zero =>
    intro _ a b _ _ v u w hv hu
    obtain ⟨x, rfl, hx⟩ := hv
    obtain ⟨y, rfl, hy⟩ := hu
    obtain ⟨a1, cap1, rfl, _⟩ := hx
    obtain ⟨a2, cap2, rfl, _⟩ := hy
    go_enter Tryz.func38, Tryz.ntmps38
    go_wp2_with fail
    go_ret
    exact ⟨rfl, (((Ext.refl _ _).alloc _).alloc _).alloc _⟩
  | succ f ih =>
    intro hf a b ha hb v u w hv hu
    have HV := hid hv
    have HU := hid hu
    obtain ⟨x, rfl, hx⟩ := hv
    obtain ⟨y, rfl, hy⟩ := hu
    have HX := hid hx
    have HY := hid hy
    obtain ⟨a1, cap1, rfl, _⟩ := hx
    obtain ⟨a2, cap2, rfl, _⟩ := hy
    have HIH := hid (ih (by omega))
    obtain ⟨r, hr⟩ : ∃ r, r = sameP (f + 1) a b := ⟨_, rfl⟩
    rw [← hr]
    rw [sameP] at hr
    obtain ⟨B, hB⟩ : ∃ B, B = w.heap.size := ⟨_, rfl⟩
    obtain ⟨W1, hW1⟩ : ∃ W1, W1 = ((w.alloc (.cells #[.int .i64 a.kind, .string ⟨a.name.toArray⟩, .slice a1 a.args.length cap1] 32)).alloc (.cells #[.int .i64 b.kind, .string ⟨b.name.toArray⟩, .slice a2 b.args.length cap2] 32)).alloc (.cells #[.int .i64 ((f + 1 : Nat) : Nat)] 3) := ⟨_, rfl⟩
    have X1 : Hid (Ext none' w W1) := hid (by rw [hW1]; exact (((Ext.refl _ _).alloc _).alloc _).alloc _)
    have G0 : Hid (W1.heap[B]? = some (.cells #[.int .i64 a.kind, .string ⟨a.name.toArray⟩, .slice a1 a.args.length cap1] 32 (0, 0))) := hid (by rw [hW1]; exact heap_alloc_keep (heap_alloc_keep (heap_alloc_at hB _) _) _)
    have G1 : Hid (W1.heap[B + 1]? = some (.cells #[.int .i64 b.kind, .string ⟨b.name.toArray⟩, .slice a2 b.args.length cap2] 32 (0, 0))) := hid (by rw [hW1]; exact heap_alloc_keep (heap_alloc_at (by rw [hB]; simp) _) _)
    have G2 : Hid (W1.heap[B + 1 + 1]? = some (.cells #[.int .i64 ((f + 1 : Nat) : Nat)] 3 (0, 0))) := hid (by rw [hW1]; exact heap_alloc_at (by rw [hB]; simp) _)
    have hla : a.args.length ≤ 100000000000 := by have := Ty.args_len a; unfold bigD at ha; omega
    have CE := hid (equal_any 67 #[.pointer (some ⟨B + 1 + 1, 0, none⟩)] (sameP f) a.args b.args _ _ W1 hla (HX.out.ext isTy_good X1.out fun _ _ h => h.elim) (HY.out.ext isTy_good X1.out fun _ _ h => h.elim)
      (fun i h1 h2 w' x y X hx hy => same1_any f (by omega) a.args[i] b.args[i] x y (B + 1 + 1) w' (X.heap G2.out (fun h => h)) hx hy (fun w2 x y _ hx hy => HIH.out _ _ (by have := Ty.size_arg (List.getElem_mem h1); omega) (by have := Ty.size_arg (List.getElem_mem h2); omega) x y w2 hx hy)) enter_same1)
    have c0 := cell_at G0.out 0
    have c1 := cell_at G0.out 1
    have c2 := cell_at G0.out 2
    have d0 := cell_at G1.out 0
    have d1 := cell_at G1.out 1
    have d2 := cell_at G1.out 2
    have l0 := cell_at G2.out 0
    simp only [List.getElem?_toArray, List.getElem?_cons_zero, List.getElem?_cons_succ] at c0 c1 c2 d0 d1 d2 l0
    obtain ⟨q, hq⟩ : ∃ q, samesL (sameP f) a.args b.args = q := ⟨_, rfl⟩
    rw [hq] at CE hr
    obtain ⟨q1, hq1⟩ : ∃ q, (a.kind == b.kind) = q := ⟨_, rfl⟩
    obtain ⟨q2, hq2⟩ : ∃ q, (a.name == b.name) = q := ⟨_, rfl⟩
    rw [hq1, hq2] at hr
    have HR := hid hr
    have z1 : (0 : Int) < ((f + 1 : Nat) : Int) := by omega
    obtain ⟨F, hF⟩ : ∃ F : Int, F = ((f + 1 : Nat) : Int) := ⟨_, rfl⟩
    rw [← hF] at z1 l0 hW1 ⊢
    have z3 : decide (0 < F) = true := decide_eq_true z1
    clear hr hq ha hb ih hf hF
    go_enter Tryz.func38, Tryz.ntmps38
    go_upto_region 1 with (fail)
    rw [← hB, ← hW1]
    clear hB hW1
    cases q1 with
    | false =>
      go_wp2_with fail
      go_ret
      exact ⟨by rw [HR.out]; rfl, X1.out⟩
    | true =>
      cases q2 with
      | false =>
        go_wp2_with fail
        go_ret
        exact ⟨by rw [HR.out]; rfl, X1.out⟩
      | true =>
        go_wp2_with fail
        refine CE.out.mono ?_
        rintro e w1 ⟨rfl, X2⟩
        have X2 := hid (X1.out.trans X2)
        go_wp2_with fail
        go_ret
        exact ⟨by rw [HR.out]; cases q <;> rfl, X2.out⟩
set_option maxRecDepth 100000 in
theorem Same_any (a b : Ty) (ha : a.size ≤ bigD) (hb : b.size ≤ bigD) (v u : Value) (w : World) (hv : TyV none' w a v) (hu : TyV none' w b u) : Calls Tryz.prog 22 #[v, u] w (BoolP (sameP 100 a b) w) := by
  have C := hid fun (W : World) (X : Ext none' w W) => same_any 100 (by omega) a b ha hb v u W (hv.ext X fun _ _ h => h.elim) (hu.ext X fun _ _ h => h.elim)
  obtain ⟨x, rfl, hx⟩ := hv
  obtain ⟨y, rfl, hy⟩ := hu
  obtain ⟨a1, cap1, rfl, _⟩ := hx
  obtain ⟨a2, cap2, rfl, _⟩ := hy
  obtain ⟨r, hr⟩ : ∃ r, sameP 100 a b = r := ⟨_, rfl⟩
  rw [hr] at C ⊢
  clear hr
  have k0 := cell_at (heap_alloc_keep (heap_alloc_at (w := w) rfl (.cells #[.int .i64 a.kind, .string ⟨a.name.toArray⟩, .slice a1 a.args.length cap1] 32)) (.cells #[.int .i64 b.kind, .string ⟨b.name.toArray⟩, .slice a2 b.args.length cap2] 32)) 0
  have k1 := cell_at (heap_alloc_keep (heap_alloc_at (w := w) rfl (.cells #[.int .i64 a.kind, .string ⟨a.name.toArray⟩, .slice a1 a.args.length cap1] 32)) (.cells #[.int .i64 b.kind, .string ⟨b.name.toArray⟩, .slice a2 b.args.length cap2] 32)) 1
  have k2 := cell_at (heap_alloc_keep (heap_alloc_at (w := w) rfl (.cells #[.int .i64 a.kind, .string ⟨a.name.toArray⟩, .slice a1 a.args.length cap1] 32)) (.cells #[.int .i64 b.kind, .string ⟨b.name.toArray⟩, .slice a2 b.args.length cap2] 32)) 2
  simp only [List.getElem?_toArray, List.getElem?_cons_zero, List.getElem?_cons_succ] at k0 k1 k2
  go_enter Tryz.func22, Tryz.ntmps22
  go_wp2_with fail
  refine (C.out _ (((Ext.refl _ _).alloc _).alloc _)).mono ?_
  rintro e w1 ⟨rfl, X1⟩
  have X1 := hid ((((Ext.refl none' w).alloc _).alloc _).trans X1)
  go_wp2_with fail
  go_ret
  exact ⟨rfl, X1.out⟩
end Go.Proofs.YtbhpmmofgdppdaaGreatDoor
