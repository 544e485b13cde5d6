import Derived.Test.YtbhpmmofgdppdaaGreatDoorKbOf
import Derived.Test.YtbhpmmofgdppdaaGreatDoorZAq
/-
  kinds.Of of a right tree of a type.
-/
namespace Go.Proofs.YtbhpmmofgdppdaaGreatDoor
open Go.RowKit Go.Lib Go.BigFrame
theorem contains_fst (l : List (List UInt8)) (x : List UInt8) : decide (0 ≤ fstI (· == x) l) = l.contains x := by
  rw [any_fst, List.contains_eq_any_beq]
  congr 1
  funext y
  exact BEq.comm
theorem contains_any (A : Nat → Prop) (l : List (List UInt8)) (x : List UInt8) (v : Value) (w : World) (hv : IsStrs A w v l) (hl : l.length ≤ 9223372036854775807) : Calls Tryz.prog 51 #[v, .string ⟨x.toArray⟩] w (BoolP (l.contains x) w) := by
  have C := hid (index_any A l x v w hv hl)
  obtain ⟨a, cap, rfl, _⟩ := hv
  rw [← contains_fst]
  obtain ⟨z, hz⟩ : ∃ z, fstI (· == x) l = z := ⟨_, rfl⟩
  rw [hz] at C ⊢
  clear hz
  go_enter Tryz.func51, Tryz.ntmps51
  go_wp2_with fail
  refine C.out.mono ?_
  rintro e w1 ⟨rfl, X1⟩
  have X1 := hid X1
  go_wp2_with fail
  go_ret
  exact ⟨rfl, X1.out⟩
abbrev OfH (ps : List (List UInt8)) (D : Nd → Prop) (g : Nd → Ty) : Prop := ∀ (n : Nd), D n → ∀ (A : Nat → Prop) (v pv : Value) (w : World), (∀ b, A b → b < w.heap.size) → NdV none' w n v → IsStrs none' w pv ps → Calls Tryz.prog 30 #[v, pv] w (TyPA A w (g n))
set_option maxRecDepth 100000 in
theorem of1_tell (ps : List (List UInt8)) (D : Nd → Prop) (g : Nd → Ty) (H : OfH ps D g) (w : World) (pv : Value) (C : Nat) (hc : w.heap[C]? = some (.cells #[pv] 41 (0, 0))) (hp : IsStrs none' w pv ps) :
    TyTell D g w (.func (.func 50) #[] #[.pointer (some ⟨C, 0, none⟩)]) := by
  refine ⟨_, _, rfl, Go.Proofs.enters_of Tryz.func50 (by kernel_rfl) rfl, fun t ht B W x X hB hx => ?_⟩
  show Calls Tryz.prog 50 #[_, _] _ (TyPA B W (g t))
  have CI := hid fun W' (X' : Ext none' W W') A hA => H t ht A x pv W' hA (hx.ext X' fun _ _ h => h) (hp.ext isStr_good (X.trans X') fun _ _ h => h)
  have HB := hid hB
  obtain ⟨y, rfl, hy⟩ := hx
  obtain ⟨a1, cap1, rfl, _⟩ := hy
  obtain ⟨ap, capp, rfl, _⟩ := hp
  obtain ⟨r, hr⟩ : ∃ r, g t = r := ⟨_, rfl⟩
  rw [hr] at CI ⊢
  obtain ⟨Z, hZ⟩ : ∃ Z, Z = W.heap.size := ⟨_, rfl⟩
  obtain ⟨W0, hW0⟩ : ∃ W0, W0 = (W.alloc (.cells #[.int .i64 t.kind, .string ⟨t.text.toArray⟩, .slice a1 t.kids.length cap1, .int .i64 t.pos] 49)).alloc (.cells #[.int .i64 0, .string ⟨#[]⟩, .slice none 0 0] 32) := ⟨_, rfl⟩
  have X0 := hid (show Ext none' W W0 by rw [hW0]; exact ((Ext.refl _ _).alloc _).alloc _)
  have g0 : W0.heap[Z]? = some (.cells #[.int .i64 t.kind, .string ⟨t.text.toArray⟩, .slice a1 t.kids.length cap1, .int .i64 t.pos] 49 (0, 0)) := by rw [hW0]; exact heap_alloc_keep (heap_alloc_at hZ _) _
  have G1 := hid (show W0.heap[Z + 1]? = some (.cells #[.int .i64 0, .string ⟨#[]⟩, .slice none 0 0] 32 (0, 0)) by rw [hW0]; exact heap_alloc_at (by rw [hZ]; simp) _)
  have c0 := cell_at ((X.trans X0.out).heap hc fun h => h) 0
  have k0 := cell_at g0 0
  have k1 := cell_at g0 1
  have k2 := cell_at g0 2
  have k3 := cell_at g0 3
  simp only [List.getElem?_toArray, List.getElem?_cons_zero, List.getElem?_cons_succ] at c0 k0 k1 k2 k3
  clear hr ht hB hc X g0 H
  go_enter Tryz.func50, Tryz.ntmps50
  go_upto_region 1 with (fail)
  rw [← hW0, ← hZ]
  have HZ := hid hZ
  clear hW0 hZ
  go_wp2_with fail
  refine (CI.out W0 X0.out (and1 B (Z + 1)) (and1.lt HB.out X0.out.size (heap_lt G1.out))).mono ?_
  rintro e W1 ⟨u, rfl, hu, X1⟩
  obtain ⟨y, rfl, hy⟩ := hu
  have HY := hid hy
  obtain ⟨a3, cap3, rfl, _⟩ := hy
  have G1 := hid (X1.heap G1.out fun h => h)
  have X1 := hid (X0.out.trans X1)
  have f0 := free_at G1.out 0
  have f1 := free_at G1.out 1
  have f2 := free_at G1.out 2
  have e0 := cell_at G1.out 0
  have e1 := cell_at G1.out 1
  have e2 := cell_at G1.out 2
  simp only [List.getElem?_toArray, List.getElem?_cons_zero, List.getElem?_cons_succ] at e0 e1 e2
  clear c0 k0 k1 k2 k3
  go_wp2_with fail
  refine ret_ty rfl rfl (set3 G1.out _ _ _) rfl ?_
  exact ⟨_, rfl, TyV.stored HY.out _ _ _, X1.out.set3 (b := Z + 1) (.inr (by have := HZ.out; omega)) _ _ _⟩
/-- What Of has laid before it looks at the tree. -/
structure ObBox (B : Nat) (nk : Int) (n : Nd) (a1 : Option Addr) (cap1 : Nat) (pv : Value) (w wr : World) : Prop where
  g0 : wr.heap[B]? = some (.cells #[.int .i64 nk, .string ⟨n.text.toArray⟩, .slice a1 n.kids.length cap1, .int .i64 n.pos] 49 (0, 0))
  g1 : wr.heap[B + 1]? = some (.cells #[pv] 41 (0, 0))
  g2 : wr.heap[B + 1 + 1]? = some (.cells #[.int .i64 0, .string ⟨#[]⟩, .slice none 0 0] 32 (0, 0))
  g3 : wr.heap[B + 1 + 1 + 1]? = some (.cells #[.func (.func 50) #[] #[.pointer (some ⟨B + 1, 0, none⟩)]] 78 (0, 0))
  x : Ext none' w wr
  hB : B = w.heap.size
theorem ObBox.ext {B : Nat} {nk : Int} {n : Nd} {a1 : Option Addr} {cap1 : Nat} {pv : Value} {w wr w2 : World} (h : ObBox B nk n a1 cap1 pv w wr) (x : Ext none' wr w2) : ObBox B nk n a1 cap1 pv w w2 :=
  ⟨x.heap h.g0 fun h => h, x.heap h.g1 fun h => h, x.heap h.g2 fun h => h, x.heap h.g3 fun h => h, h.x.trans x, h.hB⟩
set_option maxRecDepth 100000 in
set_option maxHeartbeats 1600000 in
theorem Of_any (ps : List (List UInt8)) (hps : ps.length ≤ 9223372036854775807) : ∀ (f : Nat), f ≤ bigD → OfH ps (TyD f) (ofK ps f) := by
  intro f
  induction f with
  | zero => intro _ n hn; have := n.size_pos; have := hn.1; omega
  | succ f ih =>
    intro hf n hn A v pv w hA hv hp
    have H := ih (by omega)
    obtain ⟨hs, ht⟩ := hn
    have hkl : n.kids.length ≤ bigD := by have := n.kids_len; omega
    have hks : ∀ x ∈ n.kids, x.size ≤ f := fun x hx => by have := Nd.size_kid hx; omega
    obtain ⟨r, hr⟩ : ∃ r, ofK ps (f + 1) n = r := ⟨_, rfl⟩
    rw [hr]
    rw [ofK] at hr
    rw [tyF] at ht
    have HV := hid hv
    have HP := hid hp
    have HA := hid hA
    have T1 := hid fun W pv C hc hp => of1_tell ps (TyD f) (ofK ps f) H W pv C hc hp
    obtain ⟨x, rfl, hx⟩ := hv
    have HX := hid hx
    obtain ⟨a1, cap1, rfl, _⟩ := hx
    obtain ⟨ap, capp, rfl, _⟩ := hp
    have hmf : ∀ (fn : Fn) (first cap : Array Value) (w : World), (Instr.makeFunc fn first cap).run Tryz.prog w = .ok (.func fn first cap) w := fun _ _ _ _ => rfl
    have rs := fun (W : World) (a : Addr) (fn : Fn) (fi ca : Array Value) (m : Mode) => run_store Tryz.prog W a (.func fn fi ca) m rfl
    obtain ⟨nk, hnk⟩ : ∃ k, n.kind = k := ⟨_, rfl⟩
    rw [hnk] at hr ht
    have CC := hid fun W (X : Ext none' w W) => contains_any none' ps n.text _ W (HP.out.ext isStr_good X fun _ _ h => h) hps
    have CB := hid fun W => basic_any n.text W
    obtain ⟨B, hB⟩ : ∃ B, B = w.heap.size := ⟨_, rfl⟩
    have HNK := hid hnk
    clear ih hA
    rw [hnk]
    have z0 : Hid (n.kids = [] ∨ 0 < n.kids.length) := hid (by cases n.kids <;> simp)
    go_enter Tryz.func30, Tryz.ntmps30
    go_upto_region 2 with (fail)
    obtain ⟨W0, hW0⟩ : ∃ W0, W0 = (((w.alloc (.cells #[.int .i64 nk, .string ⟨n.text.toArray⟩, .slice a1 n.kids.length cap1, .int .i64 n.pos] 49)).alloc (.cells #[.slice ap ps.length capp] 41)).alloc (.cells #[.int .i64 0, .string ⟨#[]⟩, .slice none 0 0] 32)).alloc (.cells #[.func (.func 50) #[] #[.pointer (some ⟨w.heap.size + 1, 0, none⟩)]] 78) := ⟨_, rfl⟩
    rw [← hW0]
    have BX := hid (show ObBox B nk n a1 cap1 (.slice ap ps.length capp) w W0 from ⟨by rw [hW0]; exact heap_alloc_keep (heap_alloc_keep (heap_alloc_keep (heap_alloc_at hB _) _) _) _, by rw [hW0]; exact heap_alloc_keep (heap_alloc_keep (heap_alloc_at (by rw [hB]; simp) _) _) _, by rw [hW0]; exact heap_alloc_keep (heap_alloc_at (by rw [hB]; simp) _) _, by rw [hW0, hB]; exact heap_alloc_at (by simp) _, by rw [hW0]; exact ((((Ext.refl _ _).alloc _).alloc _).alloc _).alloc _, hB⟩)
    rw [← hB]
    have T2 := hid fun W (X : Ext none' W0 W) => T1.out W _ (B + 1) (X.heap BX.out.g1 fun h => h) (HP.out.ext isStr_good (BX.out.x.trans X) fun _ _ h => h)
    have AL := hid (show ∀ b, and1 A (B + 1 + 1) b → b < W0.heap.size from and1.lt HA.out BX.out.x.size (heap_lt BX.out.g2))
    clear hW0 hB rs
    have c0 := cell_at BX.out.g0 0
    have c1 := cell_at BX.out.g0 1
    have c2 := cell_at BX.out.g0 2
    have c3 := cell_at BX.out.g0 3
    have d0 := cell_at BX.out.g1 0
    have d3 := cell_at BX.out.g3 0
    simp only [List.getElem?_toArray, List.getElem?_cons_zero, List.getElem?_cons_succ] at c0 c1 c2 c3 d0 d3
    by_cases h10 : nk = 10
    · rw [if_pos h10] at hr ht
      simp only [Bool.and_eq_true, List.all_eq_true] at ht
      have HT := hid ht.2
      have HR := hid hr
      have q10 : (nk == 10) = true := by simpa using h10
      clear ht hr hs hf hnk h10
      obtain ⟨b1, hb1⟩ : ∃ b, ps.contains n.text = b := ⟨_, rfl⟩
      obtain ⟨b2, hb2⟩ : ∃ b, basicK n.text = b := ⟨_, rfl⟩
      rw [hb1] at CC
      rw [hb2] at CB
      rw [hb1, hb2] at HR
      clear hb1 hb2
      rcases z0.out with hke | hke
      case' inl =>
        have qk : ((n.kids.length : Int) == 0) = true := by rw [hke]; rfl
        have hke2 : n.kids.isEmpty = true := by rw [hke]; rfl
        have HR := hid (show (if b1 = true then Ty.mk 4 n.text [] else if b2 = true then Ty.mk 1 n.text [] else Ty.mk 3 n.text (n.kids.map (ofK ps f))) = r by
          have := HR.out
          rw [hke2, Bool.true_and, Bool.true_and] at this
          exact this)
        clear hke hke2
        go_wp2_with fail
        refine (CC.out _ BX.out.x).mono ?_
        rintro e W1 ⟨rfl, X1⟩
        have BX := hid (BX.out.ext X1)
        clear c0 c1 c2 c3 d0 d3
        have c0 := cell_at BX.out.g0 0
        have c1 := cell_at BX.out.g0 1
        have c2 := cell_at BX.out.g0 2
        have c3 := cell_at BX.out.g0 3
        have d0 := cell_at BX.out.g1 0
        have d3 := cell_at BX.out.g3 0
        simp only [List.getElem?_toArray, List.getElem?_cons_zero, List.getElem?_cons_succ] at c0 c1 c2 c3 d0 d3
        cases b1 with
        | true =>
          obtain rfl : r = .mk 4 n.text [] := by rw [← HR.out, if_pos rfl]
          have f0 := free_at BX.out.g2 0
          have f1 := free_at BX.out.g2 1
          have f2 := free_at BX.out.g2 2
          have e0 := cell_at BX.out.g2 0
          have e1 := cell_at BX.out.g2 1
          have e2 := cell_at BX.out.g2 2
          simp only [List.getElem?_toArray, List.getElem?_cons_zero, List.getElem?_cons_succ] at e0 e1 e2
          clear X1
          go_wp2_with fail
          refine ret_ty rfl rfl (set3 BX.out.g2 _ _ _) rfl ?_
          exact ⟨_, rfl, TyV.stored (t := .mk 4 n.text []) (IsSl.nil _ _ _ _) _ _ _, BX.out.x.set3 (b := B + 1 + 1) (.inr (by have := BX.out.hB; omega)) _ _ _⟩
        | false => ?_
        go_wp2_with fail
        refine (CB.out _).mono ?_
        rintro e W2 ⟨rfl, X2⟩
        have BX := hid (BX.out.ext X2)
        clear c0 c1 c2 c3 d0 d3
        have c0 := cell_at BX.out.g0 0
        have c1 := cell_at BX.out.g0 1
        have c2 := cell_at BX.out.g0 2
        have c3 := cell_at BX.out.g0 3
        have d0 := cell_at BX.out.g1 0
        have d3 := cell_at BX.out.g3 0
        simp only [List.getElem?_toArray, List.getElem?_cons_zero, List.getElem?_cons_succ] at c0 c1 c2 c3 d0 d3
        cases b2 with
        | true =>
          obtain rfl : r = .mk 1 n.text [] := by rw [← HR.out, if_neg (by simp), if_pos rfl]
          have f0 := free_at BX.out.g2 0
          have f1 := free_at BX.out.g2 1
          have f2 := free_at BX.out.g2 2
          have e0 := cell_at BX.out.g2 0
          have e1 := cell_at BX.out.g2 1
          have e2 := cell_at BX.out.g2 2
          simp only [List.getElem?_toArray, List.getElem?_cons_zero, List.getElem?_cons_succ] at e0 e1 e2
          clear X1 X2
          go_wp2_with fail
          refine ret_ty rfl rfl (set3 BX.out.g2 _ _ _) rfl ?_
          exact ⟨_, rfl, TyV.stored (t := .mk 1 n.text []) (IsSl.nil _ _ _ _) _ _ _, BX.out.x.set3 (b := B + 1 + 1) (.inr (by have := BX.out.hB; omega)) _ _ _⟩
        | false => ?_
        have HRR : Hid (r = .mk 3 n.text (n.kids.map (ofK ps f))) := hid (by rw [← HR.out, if_neg (by simp), if_neg (by simp)])
        have XX := hid (X1.trans X2)
        clear X1 X2
        go_upto_region 8 with (fail)
      case' inr =>
        have qk : ((n.kids.length : Int) == 0) = false := by simp only [beq_eq_false_iff_ne]; omega
        have hke2 : n.kids.isEmpty = false := by
          cases h : n.kids with
          | nil => rw [h] at hke; simp at hke
          | cons a l => rfl
        have HRR : Hid (r = .mk 3 n.text (n.kids.map (ofK ps f))) := hid (by rw [← HR.out, hke2]; rfl)
        obtain ⟨W2, hW2⟩ : ∃ W2, W2 = W0 := ⟨_, rfl⟩
        have XX := hid (show Ext none' W0 W2 by rw [hW2]; exact Ext.refl _ _)
        rw [← hW2] at BX c0 c1 c2 c3 d0 d3
        clear hke hke2
        rw [← hW2]
        clear hW2
        go_upto_region 8 with (fail)
      all_goals
        clear c0 c1 c2 c3 d0 d3
        have c1 := fun t' : LaterF none' W2 => cell_at (t'.x.heap BX.out.g0 fun h => h) 1
        have c2 := fun t' : LaterF none' W2 => cell_at (t'.x.heap BX.out.g0 fun h => h) 2
        have d3 := fun t' : LaterF none' W2 => cell_at (t'.x.heap BX.out.g3 fun h => h) 0
        simp only [List.getElem?_toArray, List.getElem?_cons_zero, List.getElem?_cons_succ] at c1 c2 d3
        refine region_q none' W2 (.qs [0, 1, 2, 3, 4] (.one 5 true (.one 6 false (.one 7 false (.one 8 false .fin))))) (by kernel_rfl) (by kernel_rfl) (fun dst v c a w h => by cases dst <;> exact h) ?_
        refine ⟨In.of (Ext.refl _ _).drew, ?_⟩
        change wpQuiet _ _ (fun w' => ∃ t : LaterF none' W2, w' = t.w) _ _ _
        simp only [sel, List.getElem?_cons_succ, List.getElem?_cons_zero]
        repeat (go_big_quiet_step (fail))
        refine wpQuiet_nil ?_
        simp only [wpTreeQ, stepT, sel, List.getElem?_cons_succ, List.getElem?_cons_zero]
        have D1 := hid (Ext.refl none' W2).drew
        clear c1 c2 d3
        go_wp2_with fail
        have TT := fun u u0 W hA hu hD h0 => turnedT_any (TyD f) (ofK ps f) (and1 A (B + 1 + 1)) n.kids u u0 W hkl hA hu hD h0
        obtain ⟨ts, hts⟩ : ∃ ts, n.kids.map (ofK ps f) = ts := ⟨_, rfl⟩
        rw [hts] at TT HRR
        have HTS := hid (show ts.length = n.kids.length by rw [← hts, List.length_map])
        have HTN := hid (show ∀ x ∈ ts, x.kind ≠ 0 by
          intro x hx
          rw [← hts] at hx
          obtain ⟨y, hy, rfl⟩ := List.mem_map.1 hx
          exact (ofK_kind (HT.out y hy)).1)
        clear hts
        refine (TT _ _ _ (fun b hb => Nat.lt_of_lt_of_le (AL.out b hb) (XX.out.trans D1.out).size) (HX.out.ext isNd_good (BX.out.x.trans D1.out) fun _ _ h => h) (fun x hx => ⟨hks x hx, HT.out x hx⟩) (T2.out _ (XX.out.trans D1.out))).mono ?_
        rintro e W3 ⟨u, rfl, hu, X3⟩
        have SL := hu.sl isTy_good fun b hb h => by
          have h1 := AL.out b h
          have h2 := (XX.out.trans D1.out).size
          omega
        have SLL := hid SL
        obtain ⟨a5, cap5, rfl, _⟩ := SL
        have X3 := hid (D1.out.trans X3)
        have BX := hid (BX.out.ext X3.out)
        have CW := hid (whole_any (.mk 3 n.text ts) (by simp only [Ty.args]; rw [HTS.out]; unfold bigD at hkl; omega) HTN.out (and1 A (B + 1 + 1)) _ W3 ⟨_, rfl, SLL.out⟩)
        clear hu
        go_wp2_with fail
        refine ⟨In.of X3.out, ?_⟩
        go_wp2_with fail
        refine CW.out.mono ?_
        rintro e W4 ⟨u, rfl, hu, X4⟩
        obtain ⟨y4, rfl, hy4⟩ := hu
        have HY4 := hid hy4
        obtain ⟨a7, cap7, rfl, _⟩ := hy4
        have BX := hid (BX.out.ext X4)
        have f0 := free_at BX.out.g2 0
        have f1 := free_at BX.out.g2 1
        have f2 := free_at BX.out.g2 2
        have e0 := cell_at BX.out.g2 0
        have e1 := cell_at BX.out.g2 1
        have e2 := cell_at BX.out.g2 2
        simp only [List.getElem?_toArray, List.getElem?_cons_zero, List.getElem?_cons_succ] at e0 e1 e2
        clear X4
        go_wp2_with fail
        obtain rfl := HRR.out
        refine ret_ty rfl rfl (set3 BX.out.g2 _ _ _) rfl ?_
        exact ⟨_, rfl, TyV.stored (t := .mk 3 n.text ts) HY4.out _ _ _, BX.out.x.set3 (b := B + 1 + 1) (.inr (by have := BX.out.hB; omega)) _ _ _⟩
    · rw [if_neg h10] at hr ht
      have q10 : (nk == 10) = false := by simpa using h10
      by_cases h11 : nk = 11
      · rw [if_pos h11] at hr ht
        have q11 : (nk == 11) = true := by simpa using h11
        obtain ⟨y, hy, hty⟩ := one_kid (ofB_parts ht).2.2
        have HT : Hid (∀ x ∈ n.kids, tyF nmB f x = true) := hid (by rw [hy]; intro x hx; simp only [List.mem_singleton] at hx; subst hx; exact hty)
        have HR := hid hr
        clear ht hr hs hf hnk h10 h11 hy hty
        go_wp2_with fail
        have TT := fun u u0 W hA hu hD h0 => turnedT_any (TyD f) (ofK ps f) (and1 A (B + 1 + 1)) n.kids u u0 W hkl hA hu hD h0
        obtain ⟨ts, hts⟩ : ∃ ts, n.kids.map (ofK ps f) = ts := ⟨_, rfl⟩
        rw [hts] at TT HR
        have HTS := hid (show ts.length = n.kids.length by rw [← hts, List.length_map])
        have HTN := hid (show ∀ x ∈ ts, x.kind ≠ 0 by
          intro x hx
          rw [← hts] at hx
          obtain ⟨y, hy, rfl⟩ := List.mem_map.1 hx
          exact (ofK_kind (HT.out y hy)).1)
        clear hts
        refine (TT _ _ _ AL.out (HX.out.ext isNd_good BX.out.x fun _ _ h => h) (fun x hx => ⟨hks x hx, HT.out x hx⟩) (T2.out _ (Ext.refl _ _))).mono ?_
        rintro e W3 ⟨u, rfl, hu, X3⟩
        have SL := hu.sl isTy_good fun b hb h => by
          have h1 := AL.out b h
          have h2 := (Ext.refl none' W0).size
          omega
        have SLL := hid SL
        obtain ⟨a5, cap5, rfl, _⟩ := SL
        have X3 := hid (X3)
        have BX := hid (BX.out.ext X3.out)
        have CW := hid (whole_any (.mk 5 [] ts) (by simp only [Ty.args]; rw [HTS.out]; unfold bigD at hkl; omega) HTN.out (and1 A (B + 1 + 1)) _ W3 ⟨_, rfl, SLL.out⟩)
        clear hu
        clear c0 c1 c2 c3 d0 d3
        go_wp2_with fail
        refine CW.out.mono ?_
        rintro e W4 ⟨u, rfl, hu, X4⟩
        obtain ⟨y4, rfl, hy4⟩ := hu
        have HY4 := hid hy4
        obtain ⟨a7, cap7, rfl, _⟩ := hy4
        have BX := hid (BX.out.ext X4)
        have f0 := free_at BX.out.g2 0
        have f1 := free_at BX.out.g2 1
        have f2 := free_at BX.out.g2 2
        have e0 := cell_at BX.out.g2 0
        have e1 := cell_at BX.out.g2 1
        have e2 := cell_at BX.out.g2 2
        simp only [List.getElem?_toArray, List.getElem?_cons_zero, List.getElem?_cons_succ] at e0 e1 e2
        clear X4
        go_wp2_with fail
        obtain rfl := HR.out
        refine ret_ty rfl rfl (set3 BX.out.g2 _ _ _) rfl ?_
        exact ⟨_, rfl, TyV.stored (t := .mk 5 [] ts) HY4.out _ _ _, BX.out.x.set3 (b := B + 1 + 1) (.inr (by have := BX.out.hB; omega)) _ _ _⟩
      · rw [if_neg h11] at hr ht
        have q11 : (nk == 11) = false := by simpa using h11
        by_cases h12 : nk = 12
        · rw [if_pos h12] at ht
          have q12 : (nk == 12) = true := by simpa using h12
          have HR := hid hr
          obtain ⟨hj1, hj2, l0, r0, hk, hlk, hlt, hps0, hr0⟩ := sigB_parts ht
          clear hj1 hj2
          have hsl := Nd.size_kid (t := n) (x := l0) (by rw [hk]; simp)
          have hsr := Nd.size_kid (t := n) (x := r0) (by rw [hk]; simp)
          have hll := l0.kids_len
          have ek0 : n.kid 0 = l0 := by unfold Nd.kid; rw [hk]; rfl
          have ek1 : n.kid 1 = r0 := by unfold Nd.kid; rw [hk]; rfl
          have CF := hid fun W fv (hv' : NdV none' W n (.agg #[.int .i64 nk, .string ⟨n.text.toArray⟩, .slice a1 n.kids.length cap1, .int .i64 n.pos])) A hA (hf' : TyTell (TyD f) (ofK ps f) W fv) => function_any (TyD f) (ofK ps f) n (by rw [hk]; rfl) (by rw [ek0]; omega) (fun p hp => by
              rw [ek0] at hp
              obtain ⟨_, _, y, hy, hty⟩ := hps0 p hp
              have e : p.kid 0 = y := by unfold Nd.kid; rw [hy]; rfl
              have s1 := Nd.size_kid hp
              have s2 : y.size < p.size := Nd.size_kid (by rw [hy]; simp)
              rw [e, hy]
              exact ⟨by simp, by omega, hty⟩) (fun p hp => by
              rw [ek0] at hp
              obtain ⟨_, _, y, hy, hty⟩ := hps0 p hp
              have e : p.kid 0 = y := by unfold Nd.kid; rw [hy]; rfl
              rw [e]
              exact (ofK_kind hty).1) (by
              rw [ek1]
              rcases hr0 with h | h
              · exact .inl (emptyB_kind h)
              · exact .inr ⟨⟨by omega, h⟩, (ofK_kind h).1⟩) A _ fv W hA hv' hf'
          have HF : Hid (funG (ofK ps f) n = r) := hid hr
          rw [HF.out] at CF
          have HV2 := hid (show NdV none' W0 n (.agg #[.int .i64 nk, .string ⟨n.text.toArray⟩, .slice a1 n.kids.length cap1, .int .i64 n.pos]) from by
            have := HV.out.ext BX.out.x fun _ _ h => h
            rw [HNK.out] at this
            exact this)
          clear ht hr hs hf hnk h10 h11 h12 hk hlk hlt hps0 hr0 hsl hsr hll ek0 ek1 hps
          have C2 := hid (CF.out W0 (.func (.func 50) #[] #[.pointer (some ⟨B + 1, 0, none⟩)]) HV2.out (and1 A (B + 1 + 1)) AL.out (T2.out W0 (Ext.refl _ _)))
          go_wp2_with fail
          refine C2.out.mono ?_
          rintro e W4 ⟨u, rfl, hu, X4⟩
          obtain ⟨y4, rfl, hy4⟩ := hu
          have HY4 := hid hy4
          obtain ⟨a7, cap7, rfl, _⟩ := hy4
          have BX := hid (BX.out.ext X4)
          have f0 := free_at BX.out.g2 0
          have f1 := free_at BX.out.g2 1
          have f2 := free_at BX.out.g2 2
          have e0 := cell_at BX.out.g2 0
          have e1 := cell_at BX.out.g2 1
          have e2 := cell_at BX.out.g2 2
          simp only [List.getElem?_toArray, List.getElem?_cons_zero, List.getElem?_cons_succ] at e0 e1 e2
          clear X4 c0 c1 c2 c3 d0 d3
          go_wp2_with fail
          refine ret_ty rfl rfl (set3 BX.out.g2 _ _ _) rfl ?_
          exact ⟨_, rfl, TyV.stored (t := r) HY4.out _ _ _, BX.out.x.set3 (b := B + 1 + 1) (.inr (by have := BX.out.hB; omega)) _ _ _⟩
        · rw [if_neg h12] at ht
          cases ht
end Go.Proofs.YtbhpmmofgdppdaaGreatDoor
