import Derived.Test.YthoeengfgkfchaaSeFind
namespace Go.Proofs.Ythoeengfgkfchaa
open Go.RowKit Go.Lib Go.BigFrame
theorem own_len {scope : List Bd} {n : List UInt8} (h : ∀ b ∈ scope, b.set.terms.length ≤ 1000000000) : (ownP scope n).terms.length ≤ 1000000000 := by
  unfold ownP findC
  cases hf : scope.find? (fun b => b.name == n) with
  | none => simp [cn0]
  | some b => exact h b (List.mem_of_find?_eq_some hf)
structure Lf (B O : Nat) (s own : Cn) (sv ov tv : Value) (tk : Int) (tn : List UInt8) (W : World) : Prop where
  b : W.heap[B]? = some (.cells #[.bool s.all, .bool s.cmp, sv] 45 (0, 0))
  b1 : W.heap[B + 1]? = some (.cells #[.int .i64 tk, .string ⟨tn.toArray⟩, tv] 41 (0, 0))
  o : W.heap[O]? = some (.cells #[.bool own.all, .bool own.cmp, ov] 45 (0, 0))
theorem Lf.ext {B O : Nat} {s own : Cn} {sv ov tv : Value} {tk : Int} {tn : List UInt8} {W W' : World} (h : Lf B O s own sv ov tv tk tn W) (x : Ext none' W W') : Lf B O s own sv ov tv tk tn W' :=
  ⟨x.heap h.b (fun h => h), x.heap h.b1 (fun h => h), x.heap h.o (fun h => h)⟩
theorem Lf.cells {B O : Nat} {s own : Cn} {sv ov tv : Value} {tk : Int} {tn : List UInt8} {W : World} (h : Lf B O s own sv ov tv tk tn W) :
    W.cell? ⟨B, 0, none⟩ = some (.bool s.all) ∧ W.cell? ⟨B, 1, none⟩ = some (.bool s.cmp) ∧ W.cell? ⟨B, 2, none⟩ = some sv ∧ W.cell? ⟨B + 1, 0, none⟩ = some (.int .i64 tk) ∧ W.cell? ⟨B + 1, 1, none⟩ = some (.string ⟨tn.toArray⟩) ∧ W.cell? ⟨B + 1, 2, none⟩ = some tv ∧
    W.cell? ⟨O, 0, none⟩ = some (.bool own.all) ∧ W.cell? ⟨O, 1, none⟩ = some (.bool own.cmp) ∧ W.cell? ⟨O, 2, none⟩ = some ov := by
  refine ⟨?_, ?_, ?_, ?_, ?_, ?_, ?_, ?_, ?_⟩
  · rw [cell_at h.b]; rfl
  · rw [cell_at h.b]; rfl
  · rw [cell_at h.b]; rfl
  · rw [cell_at h.b1]; rfl
  · rw [cell_at h.b1]; rfl
  · rw [cell_at h.b1]; rfl
  · rw [cell_at h.o]; rfl
  · rw [cell_at h.o]; rfl
  · rw [cell_at h.o]; rfl
set_option maxRecDepth 100000 in
set_option maxHeartbeats 3200000 in
theorem Lets_any (ds : List Df) (hds : DefsFit ds) (scope : List Bd) (hsl : scope.length ≤ 1000000000) (hst : ∀ b ∈ scope, b.set.terms.length ≤ 1000000000) (s : Cn) (hs : s.terms.length ≤ 1000000000) (t : Ty) (ht : t.size ≤ bigD) (A : Nat → Prop) (dv scv sv v : Value) (w : World)
    (hd : IsSl 6 IsDf A w dv ds) (hsc : IsSl 4 IsBd A w scv scope) (hsv : CnV A w s sv) (hv : TyV A w t v) (hA : ∀ b, A b → b < w.heap.size) :
    Calls Try.prog 13 #[dv, scv, sv, v] w (BoolP (letsP ds scope s t) w) := by
  obtain ⟨p, hp⟩ : ∃ p, p = letsP ds scope s t := ⟨_, rfl⟩
  rw [← hp]
  unfold letsP at hp
  have hfs := full_size hds.ok t
  obtain ⟨t', ht'⟩ : ∃ t', fullP ds t = t' := ⟨_, rfl⟩
  rw [ht'] at hp hfs
  obtain ⟨x, rfl, hx⟩ := hv
  obtain ⟨y, rfl, hy⟩ := hsv
  have HD := hid hd
  have HSC := hid hsc
  have HY := hid hy
  obtain ⟨B, hB⟩ : ∃ B, B = w.heap.size := ⟨_, rfl⟩
  have HB := hid hB
  have CF := hid fun (W : World) (X : Ext none' w W) (hW : B + 2 ≤ W.heap.size) => Full_any ds hds t ht (and1 A (B + 1)) dv (.agg #[.int .i64 t.kind, .string ⟨t.name.toArray⟩, x]) W ((hd.mono isDf_good (and1.down (by omega))).ext isDf_good X fun _ _ h => h.elim) ⟨_, rfl, (hx.mono isTy_good (and1.down (by omega))).ext isTy_good X fun _ _ h => h.elim⟩ (and1.lt hA X.size (by omega))
  obtain ⟨a0, cap0, rfl, _⟩ := hx
  obtain ⟨a1, cap1, rfl, _⟩ := hy
  obtain ⟨a2, cap2, rfl, _⟩ := hd
  obtain ⟨a3, cap3, rfl, _⟩ := hsc
  simp only [ht'] at CF
  have HT' := hid ht'
  obtain ⟨tk, tn, tl⟩ := t'
  simp only [Ty.kind, Ty.name] at hp
  have HP := hid hp
  have HFS := hid hfs
  have k0 := cell_at (heap_alloc_keep (heap_alloc_at (w := w) (k := w.heap.size) rfl (.cells #[.bool s.all, .bool s.cmp, .slice a1 s.terms.length cap1] 45)) (.cells #[.int .i64 t.kind, .string ⟨t.name.toArray⟩, .slice a0 t.args.length cap0] 41)) 0
  clear ht' hp hfs hB k0
  go_enter Try.func13, Try.ntmps13
  go_wp2_with fail
  obtain ⟨W0, hW0⟩ : ∃ W0, W0 = (w.alloc (.cells #[.bool s.all, .bool s.cmp, .slice a1 s.terms.length cap1] 45)).alloc (.cells #[.int .i64 t.kind, .string ⟨t.name.toArray⟩, .slice a0 t.args.length cap0] 41) := ⟨_, rfl⟩
  rw [← hW0, ← HB.out]
  have X0 : Ext none' w W0 := by rw [hW0]; exact ((Ext.refl _ _).alloc _).alloc _
  have g0 : W0.heap[B]? = some (.cells #[.bool s.all, .bool s.cmp, .slice a1 s.terms.length cap1] 45 (0, 0)) := by rw [hW0]; exact heap_alloc_keep (heap_alloc_at HB.out _) _
  have g1 : W0.heap[B + 1]? = some (.cells #[.int .i64 t.kind, .string ⟨t.name.toArray⟩, .slice a0 t.args.length cap0] 41 (0, 0)) := by rw [hW0]; exact heap_alloc_at (by rw [HB.out]; simp) _
  have hz : W0.heap.size = B + 2 := by rw [hW0, HB.out]; simp
  have hz0 := hid hz
  clear hW0
  refine (CF.out W0 X0 (by omega)).mono ?_
  rintro e W1 ⟨u, rfl, ⟨x1, rfl, hx1⟩, X1⟩
  have g0 := X1.heap g0 (fun h => h)
  have g1 := X1.heap g1 (fun h => h)
  have HX1 := hid hx1
  obtain ⟨a4, cap4, rfl, _⟩ := hx1
  have e0 := cell_at g1 0
  have e1 := cell_at g1 1
  have e2 := cell_at g1 2
  have f0 := free_at g1 0
  have f1 := free_at g1 1
  have f2 := free_at g1 2
  simp only [List.getElem?_toArray, List.getElem?_cons_zero, List.getElem?_cons_succ] at e0 e1 e2
  simp only [Ty.kind, Ty.name, Ty.args] at HX1 ⊢
  have GB := hid g0
  have GT := hid g1
  have hs1 := hid X1.size
  have XW1 := hid (X0.trans X1)
  clear X0 X1 g0 g1 hz
  go_upto_region 2 with (fail)
  obtain ⟨W2, hW2⟩ : ∃ W2, W2 = ((W1.setCell ⟨B + 1, 0, none⟩ (.int .i64 tk)).setCell ⟨B + 1, 1, none⟩ (.string ⟨tn.toArray⟩)).setCell ⟨B + 1, 2, none⟩ (.slice a4 tl.length cap4) := ⟨_, rfl⟩
  rw [← hW2]
  have XO : Ext (one (B + 1)) W1 W2 := by rw [hW2]; exact Ext.self3 _ _ _ _ _
  have XW2 : Ext none' w W2 := by rw [hW2]; exact XW1.out.set3 (b := B + 1) (.inr (by have := HB.out; omega)) _ _ _
  have gT : W2.heap[B + 1]? = some (.cells #[.int .i64 tk, .string ⟨tn.toArray⟩, .slice a4 tl.length cap4] 41 (0, 0)) := by rw [hW2]; exact set3 GT.out _ _ _
  have gB : W2.heap[B]? = some (.cells #[.bool s.all, .bool s.cmp, .slice a1 s.terms.length cap1] 45 (0, 0)) := XO.heap GB.out (by unfold one; omega)
  have HT2 : Hid (IsSl 3 IsTy A W2 (.slice a4 tl.length cap4) tl) := hid ((HX1.out.ext isTy_good XO fun _ _ h => .inr h).mono isTy_good fun _ _ h => .inl h)
  have XW2 := hid XW2
  have hz2 := hid (show B + 2 ≤ W2.heap.size by have := XO.size; have := hs1.out; have := hz0.out; omega)
  have CFI := hid (FindC_any scope tn hsl hst A (.slice a3 scope.length cap3) W2 (HSC.out.ext isBd_good XW2.out fun _ _ h => h.elim) (fun b hb => Nat.lt_of_lt_of_le (hA b hb) XW2.out.size))
  have k1 := cell_at gT 1
  simp only [List.getElem?_toArray, List.getElem?_cons_zero, List.getElem?_cons_succ] at k1
  have GB2 := hid gB
  have GT2 := hid gT
  clear e0 e1 e2 f0 f1 f2 hW2 XO gT gB
  go_wp2_with fail
  refine CFI.out.mono ?_
  rintro e W3 ⟨u, rfl, ⟨y3, rfl, hy3⟩, X3⟩
  have hol := own_len (n := tn) hst
  unfold ownP at hol
  have HP2 : Hid (p = if (!rightP s || decide (tk = 0) || (decide (tk = 4) && (!(findC scope tn).isSome || !rightP ((findC scope tn).getD cn0)))) then false
      else if s.all then true
      else if s.cmp then decide ((behindP ds (.mk tk tn tl)).kind = 1) || (decide (tk = 4) && !((findC scope tn).getD cn0).all)
      else if decide (tk = 4) then decide (((findC scope tn).getD cn0).terms.length ≠ 0) && !anyI (fun x => !withinP s x) ((findC scope tn).getD cn0).terms
      else decide ((behindP ds (.mk tk tn tl)).kind = 1) && withinP s ⟨decide (tk ≠ 1), (behindP ds (.mk tk tn tl)).name⟩) := HP
  obtain ⟨own, hown⟩ : ∃ own, (findC scope tn).getD cn0 = own := ⟨_, rfl⟩
  obtain ⟨is, his⟩ : ∃ is, (findC scope tn).isSome = is := ⟨_, rfl⟩
  rw [hown] at hy3 hol HP2
  rw [his] at HP2
  rw [hown, his]
  clear hown his HP
  have HO := hid hy3
  obtain ⟨a5, cap5, rfl, _⟩ := hy3
  go_upto_region 3 with (fail)
  obtain ⟨O, hO⟩ : ∃ O, O = W3.heap.size := ⟨_, rfl⟩
  obtain ⟨W4, hW4⟩ : ∃ W4, W4 = W3.alloc (.cells #[.bool own.all, .bool own.cmp, .slice a5 own.terms.length cap5] 45) := ⟨_, rfl⟩
  rw [← hW4, ← hO]
  have X34 : Ext none' W3 W4 := by rw [hW4]; exact (Ext.refl _ _).alloc _
  have LF : Hid (Lf B O s own (.slice a1 s.terms.length cap1) (.slice a5 own.terms.length cap5) (.slice a4 tl.length cap4) tk tn W4) := hid ⟨(X3.trans X34).heap GB2.out (fun h => h), (X3.trans X34).heap GT2.out (fun h => h), by rw [hW4]; exact heap_alloc_at hO _⟩
  have HO := hid (HO.out.ext isTm_good X34 fun _ _ h => h.elim)
  have XW4 := hid (XW2.out.trans (X3.trans X34))
  have HT4 := hid (HT2.out.ext isTy_good (X3.trans X34) fun _ _ h => h.elim)
  have HY4 := hid (HY.out.ext isTm_good XW4.out fun _ _ h => h.elim)
  have HD4 := hid (HD.out.ext isDf_good XW4.out fun _ _ h => h.elim)
  have hA4 : Hid (∀ b, A b → b < W4.heap.size) := hid (fun b hb => Nat.lt_of_lt_of_le (hA b hb) XW4.out.size)
  have hbig : (Ty.mk tk tn tl).size ≤ bigD := by have := HFS.out; unfold bigD; omega
  have CR := hid fun (W : World) (X : Ext none' W4 W) => Right_any s hs A (.agg #[.bool s.all, .bool s.cmp, .slice a1 s.terms.length cap1]) W ⟨_, rfl, HY4.out.ext isTm_good X fun _ _ h => h.elim⟩
  have CRO := hid fun (W : World) (X : Ext none' W4 W) => Right_any own hol A (.agg #[.bool own.all, .bool own.cmp, .slice a5 own.terms.length cap5]) W ⟨_, rfl, HO.out.ext isTm_good X fun _ _ h => h.elim⟩
  have CC := hid fun (W : World) (X : Ext none' W4 W) => Comparable_any ds hds (.mk tk tn tl) hbig A (.slice a2 ds.length cap2) (.agg #[.int .i64 tk, .string ⟨tn.toArray⟩, .slice a4 tl.length cap4]) W (HD4.out.ext isDf_good X fun _ _ h => h.elim) ⟨_, rfl, HT4.out.ext isTy_good X fun _ _ h => h.elim⟩ (fun b hb => Nat.lt_of_lt_of_le (hA4.out b hb) X.size)
  have CB := hid fun (W : World) (X : Ext none' W4 W) => Behind_any ds hds (.mk tk tn tl) hbig A (.slice a2 ds.length cap2) (.agg #[.int .i64 tk, .string ⟨tn.toArray⟩, .slice a4 tl.length cap4]) W (HD4.out.ext isDf_good X fun _ _ h => h.elim) ⟨_, rfl, HT4.out.ext isTy_good X fun _ _ h => h.elim⟩ (fun b hb => Nat.lt_of_lt_of_le (hA4.out b hb) X.size)
  have CT := hid fun (W : World) (X : Ext none' W4 W) => cterm_any 27 #[.pointer (some ⟨B, 0, none⟩)] (fun x => !withinP s x) A own.terms (.slice a5 own.terms.length cap5) W hol (HO.out.ext isTm_good X fun _ _ h => h.elim) (fun i hi w' x' => lets1_any s own.terms[i] hs A a1 cap1 B w' (HY4.out.ext isTm_good (X.trans x') fun _ _ h => h.elim) ((X.trans x').heap LF.out.b (fun h => h))) enter_lets1
  have CW := hid fun (t : Tm) (W : World) (X : Ext none' W4 W) => within_any s t hs A (.agg #[.bool s.all, .bool s.cmp, .slice a1 s.terms.length cap1]) W ⟨_, rfl, HY4.out.ext isTm_good X fun _ _ h => h.elim⟩
  have hmf : ∀ (fn : Fn) (first cap : Array Value) (w : World), (Instr.makeFunc fn first cap).run Try.prog w = .ok (.func fn first cap) w := fun _ _ _ _ => rfl
  obtain ⟨r, hr⟩ : ∃ r, rightP s = r := ⟨_, rfl⟩
  obtain ⟨ro, hro⟩ : ∃ ro, rightP own = ro := ⟨_, rfl⟩
  obtain ⟨bh, hbh⟩ : ∃ bh, behindP ds (.mk tk tn tl) = bh := ⟨_, rfl⟩
  simp only [hr] at CR HP2
  simp only [hro] at CRO HP2
  simp only [hbh] at CC CB HP2
  have XR := hid (Ext.refl none' W4)
  clear hr hro hbh hW4 hO X34 X3 CFI k1
  have cc := LF.out.cells
  obtain ⟨c0, c1, c2, c3, c4, c5, c6, c7, c8⟩ := cc
  cases r with
  | false =>
    have e0 : Hid (p = false) := hid (by rw [HP2.out]; rfl)
    go_wp2_with fail
    refine (CR.out _ XR.out).mono ?_
    rintro e' W5 ⟨rfl, Y⟩
    have X5 := hid (XR.out.trans Y)
    clear Y
    have LFn := hid (LF.out.ext X5.out)
    clear c0 c1 c2 c3 c4 c5 c6 c7 c8
    have cc := LFn.out.cells
    obtain ⟨c0, c1, c2, c3, c4, c5, c6, c7, c8⟩ := cc
    clear LFn
    go_wp2_with fail
    go_ret
    exact ⟨by rw [e0.out]; rfl, XW4.out.trans X5.out⟩
  | true =>
    by_cases h0 : tk = 0
    · have e0 : Hid (p = false) := hid (by rw [HP2.out, h0]; rfl)
      have q0 : (tk == 0) = true := by simp [h0]
      have q4 : (tk == 4) = false := by simp [h0]
      clear h0
      go_wp2_with fail
      refine (CR.out _ XR.out).mono ?_
      rintro e' W5 ⟨rfl, Y⟩
      have X5 := hid (XR.out.trans Y)
      clear Y
      have LFn := hid (LF.out.ext X5.out)
      clear c0 c1 c2 c3 c4 c5 c6 c7 c8
      have cc := LFn.out.cells
      obtain ⟨c0, c1, c2, c3, c4, c5, c6, c7, c8⟩ := cc
      clear LFn
      go_wp2_with fail
      go_ret
      exact ⟨by rw [e0.out]; rfl, XW4.out.trans X5.out⟩
    · have q0 : (tk == 0) = false := by simp [h0]
      have d0 : decide (tk = 0) = false := by simp [h0]
      by_cases h4 : tk = 4
      · have q4 : (tk == 4) = true := by simp [h4]
        have d4 : decide (tk = 4) = true := by simp [h4]
        have HP3 : Hid (p = if (!is || !ro) then false else if s.all then true else if s.cmp then decide (bh.kind = 1) || !own.all else decide (own.terms.length ≠ 0) && !anyI (fun x => !withinP s x) own.terms) := hid (by rw [HP2.out, d0, d4]; rfl)
        clear h0 h4 d0 d4
        cases is with
        | false =>
          have e0 : Hid (p = false) := hid (by rw [HP3.out]; rfl)
          go_wp2_with fail
          refine (CR.out _ XR.out).mono ?_
          rintro e' W5 ⟨rfl, Y⟩
          have X5 := hid (XR.out.trans Y)
          clear Y
          have LFn := hid (LF.out.ext X5.out)
          clear c0 c1 c2 c3 c4 c5 c6 c7 c8
          have cc := LFn.out.cells
          obtain ⟨c0, c1, c2, c3, c4, c5, c6, c7, c8⟩ := cc
          clear LFn
          go_wp2_with fail
          go_ret
          exact ⟨by rw [e0.out]; rfl, XW4.out.trans X5.out⟩
        | true =>
          cases ro with
          | false =>
            have e0 : Hid (p = false) := hid (by rw [HP3.out]; rfl)
            go_wp2_with fail
            refine (CR.out _ XR.out).mono ?_
            rintro e' W5 ⟨rfl, Y⟩
            have X5 := hid (XR.out.trans Y)
            clear Y
            have LFn := hid (LF.out.ext X5.out)
            clear c0 c1 c2 c3 c4 c5 c6 c7 c8
            have cc := LFn.out.cells
            obtain ⟨c0, c1, c2, c3, c4, c5, c6, c7, c8⟩ := cc
            clear LFn
            go_wp2_with fail
            refine (CRO.out _ X5.out).mono ?_
            rintro e' W6 ⟨rfl, Y⟩
            have X6 := hid (X5.out.trans Y)
            clear Y
            have LFn := hid (LF.out.ext X6.out)
            clear c0 c1 c2 c3 c4 c5 c6 c7 c8
            have cc := LFn.out.cells
            obtain ⟨c0, c1, c2, c3, c4, c5, c6, c7, c8⟩ := cc
            clear LFn
            go_wp2_with fail
            go_ret
            exact ⟨by rw [e0.out]; rfl, XW4.out.trans X6.out⟩
          | true =>
            go_wp2_with fail
            refine (CR.out _ XR.out).mono ?_
            rintro e' W5 ⟨rfl, Y⟩
            have X5 := hid (XR.out.trans Y)
            clear Y
            have LFn := hid (LF.out.ext X5.out)
            clear c0 c1 c2 c3 c4 c5 c6 c7 c8
            have cc := LFn.out.cells
            obtain ⟨c0, c1, c2, c3, c4, c5, c6, c7, c8⟩ := cc
            clear LFn
            obtain ⟨sa, sc, st⟩ := s
            cases sa with
            | true =>
              have e0 : Hid (p = true) := hid (by rw [HP3.out]; rfl)
              go_wp2_with fail
              refine (CRO.out _ X5.out).mono ?_
              rintro e' W6 ⟨rfl, Y⟩
              have X6 := hid (X5.out.trans Y)
              clear Y
              have LFn := hid (LF.out.ext X6.out)
              clear c0 c1 c2 c3 c4 c5 c6 c7 c8
              have cc := LFn.out.cells
              obtain ⟨c0, c1, c2, c3, c4, c5, c6, c7, c8⟩ := cc
              clear LFn
              go_wp2_with fail
              go_ret
              exact ⟨by rw [e0.out]; rfl, XW4.out.trans X6.out⟩
            | false =>
              cases sc with
              | true =>
                go_wp2_with fail
                refine (CRO.out _ X5.out).mono ?_
                rintro e' W6 ⟨rfl, Y⟩
                have X6 := hid (X5.out.trans Y)
                clear Y
                have LFn := hid (LF.out.ext X6.out)
                clear c0 c1 c2 c3 c4 c5 c6 c7 c8
                have cc := LFn.out.cells
                obtain ⟨c0, c1, c2, c3, c4, c5, c6, c7, c8⟩ := cc
                clear LFn
                go_wp2_with fail
                obtain ⟨cb, hcb⟩ : ∃ cb, (bh.kind == 1) = cb := ⟨_, rfl⟩
                have hcb2 : decide (bh.kind = 1) = cb := by rw [← hcb]; rfl
                rw [hcb2] at HP3
                rw [hcb] at CC
                have CC1 := hid CC
                clear hcb hcb2
                obtain ⟨oa, oc, ot⟩ := own
                cases cb with
                | true =>
                  have e0 : Hid (p = true) := hid (by rw [HP3.out]; rfl)
                  refine (CC.out _ X6.out).mono ?_
                  rintro e' W7 ⟨rfl, Y⟩
                  have X7 := hid (X6.out.trans Y)
                  clear Y
                  have LFn := hid (LF.out.ext X7.out)
                  clear c0 c1 c2 c3 c4 c5 c6 c7 c8
                  have cc := LFn.out.cells
                  obtain ⟨c0, c1, c2, c3, c4, c5, c6, c7, c8⟩ := cc
                  clear LFn
                  go_wp2_with fail
                  go_ret
                  exact ⟨by rw [e0.out]; rfl, XW4.out.trans X7.out⟩
                | false =>
                  have e0 : Hid (p = !oa) := hid (by rw [HP3.out]; rfl)
                  refine (CC.out _ X6.out).mono ?_
                  rintro e' W7 ⟨rfl, Y⟩
                  have X7 := hid (X6.out.trans Y)
                  clear Y
                  have LFn := hid (LF.out.ext X7.out)
                  clear c0 c1 c2 c3 c4 c5 c6 c7 c8
                  have cc := LFn.out.cells
                  obtain ⟨c0, c1, c2, c3, c4, c5, c6, c7, c8⟩ := cc
                  clear LFn
                  go_wp2_with fail
                  go_ret
                  exact ⟨by rw [e0.out]; rfl, XW4.out.trans X7.out⟩
              | false =>
                go_wp2_with fail
                refine (CRO.out _ X5.out).mono ?_
                rintro e' W6 ⟨rfl, Y⟩
                have X6 := hid (X5.out.trans Y)
                clear Y
                have LFn := hid (LF.out.ext X6.out)
                clear c0 c1 c2 c3 c4 c5 c6 c7 c8
                have cc := LFn.out.cells
                obtain ⟨c0, c1, c2, c3, c4, c5, c6, c7, c8⟩ := cc
                clear LFn
                obtain ⟨an, han⟩ : ∃ an, anyI (fun x => !withinP ⟨false, false, st⟩ x) own.terms = an := ⟨_, rfl⟩
                rw [han] at CT HP3
                clear han
                obtain ⟨oa, oc, ot⟩ := own
                by_cases hl0 : ot.length = 0
                · have e0 : Hid (p = false) := hid (by rw [HP3.out]; simp [hl0])
                  have q7 : decide (0 < (ot.length : Int)) = false := decide_eq_false (by omega)
                  go_wp2_with fail
                  go_ret
                  exact ⟨by rw [e0.out]; rfl, XW4.out.trans X6.out⟩
                · have e0 : Hid (p = !an) := hid (by rw [HP3.out]; simp [hl0])
                  have q7 : decide (0 < (ot.length : Int)) = true := decide_eq_true (by omega)
                  have z1 : 0 < ot.length := by omega
                  have z2 : (0 : Int) < (ot.length : Int) := by omega
                  clear hl0
                  go_wp2_with fail
                  refine (CT.out _ X6.out).mono ?_
                  rintro e' W7 ⟨rfl, Y⟩
                  have X7 := hid (X6.out.trans Y)
                  clear Y
                  have LFn := hid (LF.out.ext X7.out)
                  clear c0 c1 c2 c3 c4 c5 c6 c7 c8
                  have cc := LFn.out.cells
                  obtain ⟨c0, c1, c2, c3, c4, c5, c6, c7, c8⟩ := cc
                  clear LFn
                  go_wp2_with fail
                  go_ret
                  exact ⟨by rw [e0.out]; rfl, XW4.out.trans X7.out⟩
      · have q4 : (tk == 4) = false := by simp [h4]
        have d4 : decide (tk = 4) = false := by simp [h4]
        have HP3 : Hid (p = if s.all then true else if s.cmp then decide (bh.kind = 1) || false else decide (bh.kind = 1) && withinP s ⟨decide (tk ≠ 1), bh.name⟩) := hid (by rw [HP2.out, d0, d4]; rfl)
        clear h0 h4 d0 d4
        go_wp2_with fail
        refine (CR.out _ XR.out).mono ?_
        rintro e' W5 ⟨rfl, Y⟩
        have X5 := hid (XR.out.trans Y)
        clear Y
        have LFn := hid (LF.out.ext X5.out)
        clear c0 c1 c2 c3 c4 c5 c6 c7 c8
        have cc := LFn.out.cells
        obtain ⟨c0, c1, c2, c3, c4, c5, c6, c7, c8⟩ := cc
        clear LFn
        obtain ⟨sa, sc, st⟩ := s
        cases sa with
        | true =>
          have e0 : Hid (p = true) := hid (by rw [HP3.out]; rfl)
          go_wp2_with fail
          go_ret
          exact ⟨by rw [e0.out]; rfl, XW4.out.trans X5.out⟩
        | false =>
          obtain ⟨cb, hcb⟩ : ∃ cb, (bh.kind == 1) = cb := ⟨_, rfl⟩
          have hcb2 : decide (bh.kind = 1) = cb := by rw [← hcb]; rfl
          rw [hcb2] at HP3
          cases sc with
          | true =>
            have e0 : Hid (p = cb) := hid (by rw [HP3.out]; cases cb <;> rfl)
            rw [hcb] at CC
            clear hcb hcb2
            cases cb
            all_goals
              go_wp2_with fail
              refine (CC.out _ X5.out).mono ?_
              rintro e' W7 ⟨rfl, Y⟩
              have X7 := hid (X5.out.trans Y)
              clear Y
              have LFn := hid (LF.out.ext X7.out)
              clear c0 c1 c2 c3 c4 c5 c6 c7 c8
              have cc := LFn.out.cells
              obtain ⟨c0, c1, c2, c3, c4, c5, c6, c7, c8⟩ := cc
              clear LFn
              go_wp2_with fail
              go_ret
              exact ⟨by rw [e0.out]; rfl, XW4.out.trans X7.out⟩
          | false =>
            have HP4 : Hid (p = (cb && withinP ⟨false, false, st⟩ ⟨decide (tk ≠ 1), bh.name⟩)) := HP3
            clear HP3 hcb2
            go_wp2_with fail
            refine (CB.out _ X5.out).mono ?_
            rintro e' W6 ⟨u, rfl, ⟨x6, rfl, hx6⟩, Y⟩
            obtain ⟨a6, cap6, rfl, _⟩ := hx6
            have X6 := hid (X5.out.trans Y)
            have X7 := hid ((X5.out.trans Y).alloc (.cells #[.int .i64 bh.kind, .string ⟨bh.name.toArray⟩, .slice a6 bh.args.length cap6] 41))
            clear Y
            have LFn := hid (LF.out.ext X7.out)
            clear c0 c1 c2 c3 c4 c5 c6 c7 c8
            have cc := LFn.out.cells
            obtain ⟨c0, c1, c2, c3, c4, c5, c6, c7, c8⟩ := cc
            clear LFn
            obtain ⟨bk, bn, bl⟩ := bh
            simp only [Ty.kind, Ty.name, Ty.args] at hcb HP4 c0 c1 c2 c3 c4 c5 c6 c7 c8 X7 ⊢
            cases cb with
            | false =>
              have e0 : Hid (p = false) := hid (by rw [HP4.out]; rfl)
              go_wp2_with fail
              go_ret
              exact ⟨by rw [e0.out]; rfl, XW4.out.trans X7.out⟩
            | true =>
              have e0 : Hid (p = withinP ⟨false, false, st⟩ ⟨decide (tk ≠ 1), bn⟩) := hid (by rw [HP4.out]; rfl)
              by_cases hk1 : tk = 1
              · have d1 : decide (tk ≠ 1) = false := by simp [hk1]
                have m1 : (tk != 1) = false := by simp [hk1]
                rw [d1] at e0
                clear d1 hk1
                go_wp2_with fail
                refine (CW.out ⟨false, bn⟩ _ X7.out).mono ?_
                rintro e' W8 ⟨rfl, Y⟩
                have X8 := hid (X7.out.trans Y)
                go_wp2_with fail
                go_ret
                exact ⟨by rw [e0.out]; rfl, XW4.out.trans X8.out⟩
              · have d1 : decide (tk ≠ 1) = true := by simp [hk1]
                have m1 : (tk != 1) = true := by simp [hk1]
                rw [d1] at e0
                clear d1 hk1
                go_wp2_with fail
                refine (CW.out ⟨true, bn⟩ _ X7.out).mono ?_
                rintro e' W8 ⟨rfl, Y⟩
                have X8 := hid (X7.out.trans Y)
                go_wp2_with fail
                go_ret
                exact ⟨by rw [e0.out]; rfl, XW4.out.trans X8.out⟩
end Go.Proofs.Ythoeengfgkfchaa
