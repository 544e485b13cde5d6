import Derived.Test.YtbhpmmofgdppdaaGreatDoorZAf
import Derived.Test.YtbhpmmofgdppdaaGreatDoorZAd
/-
  tree: empty, or, named, of, list.
-/
namespace Go.Proofs.YtbhpmmofgdppdaaGreatDoor
open Go.RowKit Go.Lib Go.BigFrame
theorem ret_nd {fn : Func} {p : Tmp} (h : fn.results = #[.cell p 49]) {R : Ending → World → Prop} {a : Act} {w : World} {g : Nat} {y0 y1 y2 y3 : Value} {t : TypeId} {fr : Nat × Nat} (hp : a.tmps.getD p undef = .pointer (some ⟨g, 0, none⟩)) (hg : w.heap[g]? = some (.cells #[y0, y1, y2, y3] t fr))
    (hd : a.defers = []) (hR : R (.returned (.agg #[y0, y1, y2, y3])) w) : bodyPost Tryz.prog fn R .ret a w :=
  bodyPost_ret (results_cell_row h _ w g t _ fr _ hp hg Tryz.underlying49 rfl (by kernel_rfl)) hd hR
theorem set4n {w : World} {b : Nat} {x0 x1 x2 x3 : Value} {t : TypeId} {fz : Nat × Nat} (h : w.heap[b]? = some (.cells #[x0, x1, x2, x3] t fz)) (y0 y1 y2 y3 : Value) :
    ((((w.setCell ⟨b, 0, none⟩ y0).setCell ⟨b, 1, none⟩ y1).setCell ⟨b, 2, none⟩ y2).setCell ⟨b, 3, none⟩ y3).heap[b]? = some (.cells #[y0, y1, y2, y3] t fz) :=
  heap_setCell_same (heap_setCell_same (heap_setCell_same (heap_setCell_same h 0 y0) 1 y1) 2 y2) 3 y3
theorem Ext.set4 {F : Nat → Prop} {a w : World} (h : Ext F a w) {b : Nat} (hb : F b ∨ a.heap.size ≤ b) (y0 y1 y2 y3 : Value) : Ext F a ((((w.setCell ⟨b, 0, none⟩ y0).setCell ⟨b, 1, none⟩ y1).setCell ⟨b, 2, none⟩ y2).setCell ⟨b, 3, none⟩ y3) :=
  (((h.setCell (p := ⟨b, 0, none⟩) hb y0).setCell (p := ⟨b, 1, none⟩) hb y1).setCell (p := ⟨b, 2, none⟩) hb y2).setCell (p := ⟨b, 3, none⟩) hb y3
set_option maxRecDepth 100000 in
theorem empty_any (t : Nd) (v : Value) (w : World) (hv : NdV none' w t v) : Calls Tryz.prog 172 #[v] w (BoolP (emptyB t) w) := by
  obtain ⟨x, rfl, hx⟩ := hv
  obtain ⟨a1, cap1, rfl, _⟩ := hx
  cases t with
  | mk k n l ps =>
  simp only [Nd.kind, Nd.text, Nd.kids, Nd.pos]
  by_cases hk : k = 0
  · have q1 : (k == 0) = true := by simpa using hk
    by_cases hn : n = []
    · have q2 : (n == []) = true := by simpa using hn
      by_cases hl : l = []
      · have e : emptyB (.mk k n l ps) = true := by subst hk hn hl; rfl
        rw [e]
        have q3 : ((l.length : Int) == 0) = true := by subst hl; rfl
        have q4 : l.length = 0 := by subst hl; rfl
        clear hk hn hl e
        go_enter Tryz.func172, Tryz.ntmps172
        go_wp2_with fail
        go_ret
        exact ⟨by simp_all, (Ext.refl _ _).alloc _⟩
      · have e : emptyB (.mk k n l ps) = false := by
          have : l.isEmpty = false := by simpa using hl
          simp [emptyB, Nd.kids, this]
        rw [e]
        have hz : 0 < l.length := List.length_pos_iff.2 hl
        have q3 : ((l.length : Int) == 0) = false := by simp only [beq_eq_false_iff_ne]; omega
        clear hk hn hl e
        go_enter Tryz.func172, Tryz.ntmps172
        go_wp2_with fail
        go_ret
        exact ⟨by simp_all, (Ext.refl _ _).alloc _⟩
    · have q2 : (n == []) = false := by simpa using hn
      have e : emptyB (.mk k n l ps) = false := by simp [emptyB, Nd.text, q2]
      rw [e]
      clear hk hn e
      go_enter Tryz.func172, Tryz.ntmps172
      go_wp2_with fail
      go_ret
      exact ⟨by simp_all, (Ext.refl _ _).alloc _⟩
  · have q1 : (k == 0) = false := by simpa using hk
    have e : emptyB (.mk k n l ps) = false := by simp [emptyB, Nd.kind, q1]
    rw [e]
    clear hk e
    go_enter Tryz.func172, Tryz.ntmps172
    go_wp2_with fail
    go_ret
    exact ⟨by simp_all, (Ext.refl _ _).alloc _⟩
theorem empty_ask (f : Nat) (w : World) : AskV f emptyB w (.func (.func 172) #[] #[]) :=
  ⟨_, _, rfl, Go.Proofs.enters_of Tryz.func172 (by kernel_rfl) rfl, fun t _ W x _ hx => empty_any t x W hx⟩
set_option maxRecDepth 100000 in
theorem or1_ask (f : Nat) (p q : Nd → Bool) (w : World) (u v : Value) (B C : Nat) (hb : w.heap[B]? = some (.cells #[u] 55 (0, 0))) (hc : w.heap[C]? = some (.cells #[v] 55 (0, 0))) (hu : AskV f p w u) (hv : AskV f q w v) :
    AskV f (fun t => p t || q t) w (.func (.func 190) #[] #[.pointer (some ⟨B, 0, none⟩), .pointer (some ⟨C, 0, none⟩)]) := by
  refine ⟨_, _, rfl, Go.Proofs.enters_of Tryz.func190 (by kernel_rfl) rfl, fun t ht W x X hx => ?_⟩
  obtain ⟨fn, caps, rfl, hfn, hst⟩ := hu
  obtain ⟨fn2, caps2, rfl, hfn2, hst2⟩ := hv
  have CC := hid fun W' (X' : Ext none' W W') => hst t ht W' x (X.trans X') (hx.ext X' fun _ _ h => h)
  have CD := hid fun W' (X' : Ext none' W W') => hst2 t ht W' x (X.trans X') (hx.ext X' fun _ _ h => h)
  obtain ⟨y, rfl, hy⟩ := hx
  obtain ⟨a1, cap1, rfl, _⟩ := hy
  have HC := hid (heap_alloc_keep (X.heap hc fun h => h) (.cells #[.int .i64 t.kind, .string ⟨t.text.toArray⟩, .slice a1 t.kids.length cap1, .int .i64 t.pos] 49))
  have HN := hid (heap_alloc_at (w := W) rfl (.cells #[.int .i64 t.kind, .string ⟨t.text.toArray⟩, .slice a1 t.kids.length cap1, .int .i64 t.pos] 49))
  have c0 := cell_at (heap_alloc_keep (X.heap hb fun h => h) (.cells #[.int .i64 t.kind, .string ⟨t.text.toArray⟩, .slice a1 t.kids.length cap1, .int .i64 t.pos] 49)) 0
  simp only [List.getElem?_toArray, List.getElem?_cons_zero] at c0
  show Calls Tryz.prog 190 #[_, _, _] _ (BoolP (p t || q t) W)
  obtain ⟨b1, hb1⟩ : ∃ b, p t = b := ⟨_, rfl⟩
  obtain ⟨b2, hb2⟩ : ∃ b, q t = b := ⟨_, rfl⟩
  rw [hb1] at CC ⊢
  rw [hb2] at CD ⊢
  clear hb1 hb2 hst hst2 hb hc X
  go_enter Tryz.func190, Tryz.ntmps190
  go_wp2_with fail
  refine (CC.out _ ((Ext.refl _ _).alloc _)).mono ?_
  rintro e w1 ⟨rfl, X1⟩
  have d0 := cell_at (X1.heap HC.out fun h => h) 0
  have e0 := cell_at (X1.heap HN.out fun h => h) 0
  have e1 := cell_at (X1.heap HN.out fun h => h) 1
  have e2 := cell_at (X1.heap HN.out fun h => h) 2
  have e3 := cell_at (X1.heap HN.out fun h => h) 3
  simp only [List.getElem?_toArray, List.getElem?_cons_zero, List.getElem?_cons_succ] at d0 e0 e1 e2 e3
  have X1 := hid (((Ext.refl none' W).alloc _).trans X1)
  cases b1 with
  | true =>
    go_wp2_with fail
    go_ret
    exact ⟨rfl, X1.out⟩
  | false =>
    go_wp2_with fail
    refine (CD.out _ X1.out).mono ?_
    rintro e w2 ⟨rfl, X2⟩
    have X2 := hid (X1.out.trans X2)
    go_wp2_with fail
    go_ret
    exact ⟨by cases b2 <;> rfl, X2.out⟩
def AskPost (f : Nat) (p : Nd → Bool) (w : World) (e : Ending) (w' : World) : Prop := ∃ u, e = .returned u ∧ AskV f p w' u ∧ Ext none' w w'
set_option maxRecDepth 100000 in
theorem or_any (f : Nat) (p q : Nd → Bool) (w : World) (u v : Value) (hu : AskV f p w u) (hv : AskV f q w v) : Calls Tryz.prog 156 #[u, v] w (AskPost f (fun t => p t || q t) w) := by
  have HU := hid hu
  have HV := hid hv
  obtain ⟨fn, caps, rfl, _⟩ := hu
  obtain ⟨fn2, caps2, rfl, _⟩ := hv
  go_enter Tryz.func156, Tryz.ntmps156
  go_wp2_with fail
  go_ret
  have X : Ext none' w ((w.alloc (.cells #[.func (.func fn) #[] caps] 55)).alloc (.cells #[.func (.func fn2) #[] caps2] 55)) := ((Ext.refl _ _).alloc _).alloc _
  exact ⟨_, rfl, or1_ask f p q _ _ _ w.heap.size (w.heap.size + 1) (heap_alloc_keep (heap_alloc_at rfl _) _) (heap_alloc_at (by simp) _) (HU.out.ext X) (HV.out.ext X), X⟩
/-- A node without its text, if that is so. -/
def namedP (so : List UInt8 → Bool) (t : Nd) : Nd := if so t.text then .mk t.kind [] t.kids t.pos else .mk 37 [] [] 0
def NdPost (w : World) (t : Nd) (e : Ending) (w' : World) : Prop := ∃ u, e = .returned u ∧ NdV none' w' t u ∧ Ext none' w w'
set_option maxRecDepth 100000 in
theorem named_any (so : List UInt8 → Bool) (t : Nd) (v u : Value) (w : World) (hv : NdV none' w t v) (hu : SoV so w u) : Calls Tryz.prog 153 #[v, u] w (NdPost w (namedP so t)) := by
  have HV := hid hv
  obtain ⟨x, rfl, hx⟩ := hv
  have HX := hid hx
  obtain ⟨a1, cap1, rfl, _⟩ := hx
  obtain ⟨fn, caps, rfl, hfn, hst⟩ := hu
  have CC := hid fun W (X : Ext none' w W) => hst t.text W X
  obtain ⟨r, hr⟩ : ∃ r, r = namedP so t := ⟨_, rfl⟩
  rw [← hr]
  unfold namedP at hr
  obtain ⟨b, hb⟩ : ∃ b, so t.text = b := ⟨_, rfl⟩
  rw [hb] at CC hr
  have HR := hid hr
  clear hb hst hr
  go_enter Tryz.func153, Tryz.ntmps153
  go_wp2_with fail
  obtain ⟨B, hB⟩ : ∃ B, B = w.heap.size := ⟨_, rfl⟩
  obtain ⟨W0, hW0⟩ : ∃ W0, W0 = (w.alloc (.cells #[.int .i64 t.kind, .string ⟨t.text.toArray⟩, .slice a1 t.kids.length cap1, .int .i64 t.pos] 49)).alloc (.cells #[.int .i64 0, .string ⟨#[]⟩, .slice none 0 0, .int .i64 0] 49) := ⟨_, rfl⟩
  rw [← hW0, ← hB]
  have X0 : Ext none' w W0 := by rw [hW0]; exact ((Ext.refl _ _).alloc _).alloc _
  have g0 : W0.heap[B]? = some (.cells #[.int .i64 t.kind, .string ⟨t.text.toArray⟩, .slice a1 t.kids.length cap1, .int .i64 t.pos] 49 (0, 0)) := by rw [hW0]; exact heap_alloc_keep (heap_alloc_at hB _) _
  have g1 : W0.heap[B + 1]? = some (.cells #[.int .i64 0, .string ⟨#[]⟩, .slice none 0 0, .int .i64 0] 49 (0, 0)) := by rw [hW0]; exact heap_alloc_at (by rw [hB]; simp) _
  refine (CC.out W0 X0).mono ?_
  rintro e W1 ⟨rfl, X1⟩
  have g0 := X1.heap g0 fun h => h
  have g1 := X1.heap g1 fun h => h
  have G0 := hid g0
  have G1 := hid g1
  have f0 := free_at g0 1
  have c0 := cell_at g0 0
  have c1 := cell_at g0 1
  have c2 := cell_at g0 2
  have c3 := cell_at g0 3
  have k0 := free_at g1 0
  have k1 := free_at g1 1
  have k2 := free_at g1 2
  have k3 := free_at g1 3
  have e0 := cell_at g1 0
  have e1 := cell_at g1 1
  have e2 := cell_at g1 2
  have e3 := cell_at g1 3
  simp only [List.getElem?_toArray, List.getElem?_cons_zero, List.getElem?_cons_succ] at c0 c1 c2 c3 e0 e1 e2 e3
  have X1 := hid (X0.trans X1)
  have hlt := heap_lt g1
  have HBe := hid hB
  clear g0 g1 hW0 hB X0
  cases b with
  | false =>
    go_wp2_with fail
    refine ret_nd rfl rfl (set4n G1.out _ _ _ _) rfl ?_
    have e : r = Nd.mk 37 [] [] 0 := HR.out
    rw [e]
    exact ⟨_, rfl, ⟨_, rfl, IsSl.nil _ _ _ _⟩, X1.out.set4 (b := B + 1) (.inr (by rw [HBe.out]; omega)) _ _ _ _⟩
  | true =>
    go_wp2_with fail
    refine ret_nd rfl rfl (set4n (heap_setCell_other G1.out (p := ⟨B, 1, none⟩) (by simp) _) _ _ _ _) rfl ?_
    have e : r = Nd.mk t.kind [] t.kids t.pos := HR.out
    rw [e]
    have XX : Ext none' w (((((W1.setCell ⟨B, 1, none⟩ (.string ⟨#[]⟩)).setCell ⟨B + 1, 0, none⟩ (.int .i64 t.kind)).setCell ⟨B + 1, 1, none⟩ (.string ⟨#[]⟩)).setCell ⟨B + 1, 2, none⟩ (.slice a1 t.kids.length cap1)).setCell ⟨B + 1, 3, none⟩ (.int .i64 t.pos)) :=
      (X1.out.setCell (p := ⟨B, 1, none⟩) (.inr (by simp only; rw [HBe.out]; exact Nat.le_refl _)) _).set4 (b := B + 1) (.inr (by rw [HBe.out]; omega)) _ _ _ _
    exact ⟨_, rfl, ⟨_, rfl, HX.out.ext isNd_good XX fun _ _ h => h⟩, XX⟩
end Go.Proofs.YtbhpmmofgdppdaaGreatDoor
/-
  tree: of, list.
-/
namespace Go.Proofs.YtbhpmmofgdppdaaGreatDoor
open Go.RowKit Go.Lib Go.BigFrame
/-- What 'of' keeps. -/
structure OfRel (ps : List (Nd → Bool)) (ts : List Nd) (B : Nat) (cs : Array Value) (w wr : World) (i : Nat) : Prop where
  x : Ext none' w wr
  g : wr.heap[B]? = some (.cells cs 49 (0, 0))
  yes : ∀ (j : Nat) (h1 : j < ps.length) (h2 : j < ts.length), j < i → ps[j] ts[j] = true
set_option maxRecDepth 100000 in
set_option maxHeartbeats 1600000 in
theorem of_any (f : Nat) (k : Int) (ps : List (Nd → Bool)) (t : Nd) (v u : Value) (w : World) (hl : t.kids.length ≤ bigD) (hps : ps.length ≤ 1000) (hf : ∀ (i : Nat) (hi : i < t.kids.length), t.kids[i].size ≤ f) (hv : NdV none' w t v) (hu : AsksV f ps w u) :
    Calls Tryz.prog 152 #[v, .int .i64 k, u] w (BoolP (ofB k ps t) w) := by
  have HU := hid hu
  obtain ⟨x, rfl, hx⟩ := hv
  have HX := hid hx
  obtain ⟨a1, cap1, rfl, _⟩ := hx
  obtain ⟨a2, cap2, rfl, _⟩ := hu
  obtain ⟨r, hr⟩ : ∃ r, r = ofB k ps t := ⟨_, rfl⟩
  rw [← hr]
  unfold ofB at hr
  have HF := hid hf
  unfold bigD at hl
  cases t with
  | mk tk tn l tp =>
  simp only [Nd.kind, Nd.text, Nd.kids, Nd.pos] at hr HX HF hl ⊢
  clear hf
  by_cases hk : tk = k
  · have q1 : (tk != k) = false := by simpa using hk
    have q1' : (tk == k) = true := by simpa using hk
    rw [q1'] at hr
    by_cases hn : tn = []
    · have q2 : (tn == []) = true := by simpa using hn
      rw [q2] at hr
      by_cases hlen : l.length = ps.length
      · have q3 : ((l.length : Int) != (ps.length : Int)) = false := by simp only [bne_eq_false_iff_eq]; omega
        have HR := hid hr
        have HL := hid hlen
        have X1 : Ext none' w (w.alloc (.cells #[.int .i64 tk, .string ⟨tn.toArray⟩, .slice a1 l.length cap1, .int .i64 tp] 49)) := (Ext.refl _ _).alloc _
        have GA := hid (heap_alloc_at (w := w) rfl (.cells #[.int .i64 tk, .string ⟨tn.toArray⟩, .slice a1 l.length cap1, .int .i64 tp] 49))
        have HX1 := hid X1
        have hpl : ps.length ≤ 1000 := hps
        clear hk hr hlen X1 q1'
        have q2' : (tn != []) = false := by simpa using hn
        clear hn
        go_enter Tryz.func152, Tryz.ntmps152
        go_wp2_with fail
        go_loopw [7, 8, 28] (fun _ _ z wr => ∃ (i : Nat), z = .int .i64 (i : Nat) ∧ i ≤ ps.length ∧ Hid (OfRel ps l w.heap.size #[.int .i64 tk, .string ⟨tn.toArray⟩, .slice a1 l.length cap1, .int .i64 tp] w wr i)) (fun _ _ z _ => ps.length - (RowKit.intOf z).toNat)
        case atStart => exact ⟨0, rfl, by omega, hid ⟨HX1.out, GA.out, fun j _ _ h => by omega⟩⟩
        case round =>
          obtain ⟨i, rfl, hle, R⟩ := hrel
          by_cases hi : i < ps.length
          · have hi2 : i < l.length := by have := HL.out; omega
            have hz : (i : Int) < (l.length : Int) := by omega
            obtain ⟨a2', cap2', e2, hu2⟩ := HU.out.ext R.out.x
            injection e2 with e2 _ e3
            subst e2 e3
            obtain ⟨b, off, u, rfl, _, hcu, hask⟩ := hu2 i hi
            obtain ⟨fn, caps, rfl, hfn, hst⟩ := hask
            have HN := HX.out.ext isNd_good R.out.x fun _ _ h => h
            obtain ⟨b3, off3, cs, rfl, _, _, hcc, hty⟩ := HN.at i hi2
            obtain ⟨y, rfl, hy⟩ := hty.parts
            have k0 := hcc 0 _ rfl
            have k1 := hcc 1 _ rfl
            have k2 := hcc 2 _ rfl
            have k3 := hcc 3 _ rfl
            simp only [Nat.add_zero] at k0
            have HY := hid hy
            obtain ⟨a4, cap4, rfl, _⟩ := hy
            have c2 := cell_at R.out.g 2
            simp only [List.getElem?_toArray, List.getElem?_cons_zero, List.getElem?_cons_succ] at c2
            obtain ⟨q, hq⟩ : ∃ q, ps[i] l[i] = q := ⟨_, rfl⟩
            have C2 : Hid (Calls Tryz.prog fn (#[.agg #[.int .i64 l[i].kind, .string ⟨l[i].text.toArray⟩, .slice a4 l[i].kids.length cap4, .int .i64 l[i].pos]] ++ caps) wr (BoolP q wr)) := hid (by rw [← hq]; exact hst _ (HF.out i hi2) wr _ (Ext.refl _ _) ⟨_, rfl, HY.out⟩)
            have HQ := hid hq
            clear hst hcc hty hq HN hu2
            go_wp2_with fail
            refine C2.out.mono ?_
            rintro e w2 ⟨rfl, X2⟩
            have HX2 := hid X2
            clear X2
            cases q with
            | true =>
              have N : Hid (OfRel ps l w.heap.size #[.int .i64 tk, .string ⟨tn.toArray⟩, .slice (some ⟨b3, off3, none⟩) l.length cap1, .int .i64 tp] w w2 (i + 1)) := hid ⟨R.out.x.trans HX2.out, HX2.out.heap R.out.g fun h => h, fun j h1 h2 hj => by
                by_cases e : j = i
                · subst e; exact HQ.out
                · exact R.out.yes j h1 h2 (by omega)⟩
              go_wp2_with fail
              go_roundw
              case rel => exact ⟨i + 1, by go_num, by omega, N⟩
              case measure => simp [RowKit.intOf]; omega
            | false =>
              have E : Hid (r = false) := hid (by rw [HR.out, kidsB_at hi hi2 HQ.out]; rfl)
              go_wp2_with fail
              go_ret
              exact ⟨by rw [E.out]; rfl, R.out.x.trans HX2.out⟩
          · have E : Hid (r = true) := hid (by rw [HR.out, kidsB_all HL.out fun j h1 h2 => R.out.yes j h1 h2 (by omega)]; rfl)
            obtain rfl : i = ps.length := by omega
            go_wp2_with fail
            go_ret
            exact ⟨by rw [E.out]; rfl, R.out.x⟩
      · have q3 : ((l.length : Int) != (ps.length : Int)) = true := by simp only [bne_iff_ne, ne_eq]; omega
        rw [kidsB_no hlen] at hr
        have HR := hid hr
        have q2' : (tn != []) = false := by simpa using hn
        clear hr hlen hk q1' q2 hn
        go_enter Tryz.func152, Tryz.ntmps152
        go_wp2_with fail
        all_goals
          go_ret
          exact ⟨by rw [HR.out]; rfl, (Ext.refl _ _).alloc _⟩
    · have q2 : (tn == []) = false := by simpa using hn
      rw [q2] at hr
      have HR := hid hr
      have q2' : (tn != []) = true := by simpa using hn
      have q2i : tn.isEmpty = false := by simpa using hn
      clear hr hk q1' hn
      go_enter Tryz.func152, Tryz.ntmps152
      go_wp2_with fail
      all_goals
        go_ret
        exact ⟨by rw [HR.out]; rfl, (Ext.refl _ _).alloc _⟩
  · have q1 : (tk != k) = true := by simpa using hk
    have q1' : (tk == k) = false := by simpa using hk
    rw [q1'] at hr
    have HR := hid hr
    clear hr hk
    go_enter Tryz.func152, Tryz.ntmps152
    go_wp2_with fail
    go_ret
    exact ⟨by rw [HR.out]; rfl, (Ext.refl _ _).alloc _⟩
set_option maxRecDepth 100000 in
theorem list_any (f : Nat) (p : Nd → Bool) (t : Nd) (v u : Value) (w : World) (hl : t.kids.length ≤ bigD) (hf : ∀ (i : Nat) (hi : i < t.kids.length), t.kids[i].size ≤ f) (hv : NdV none' w t v) (hu : AskV f p w u) :
    Calls Tryz.prog 188 #[v, u] w (BoolP (listB p t) w) := by
  obtain ⟨x, rfl, hx⟩ := hv
  have CA := hid fun W (X : Ext none' w W) => all_any p t.kids f x u W hl (hx.ext isNd_good X fun _ _ h => h) hf (hu.ext X)
  obtain ⟨a1, cap1, rfl, _⟩ := hx
  obtain ⟨fn, caps, rfl, _⟩ := hu
  obtain ⟨r, hr⟩ : ∃ r, r = listB p t := ⟨_, rfl⟩
  rw [← hr]
  unfold listB at hr
  obtain ⟨q, hq⟩ : ∃ q, t.kids.all p = q := ⟨_, rfl⟩
  rw [hq] at CA hr
  obtain ⟨q1, hq1⟩ : ∃ q, (t.kind == 6) = q := ⟨_, rfl⟩
  obtain ⟨q2, hq2⟩ : ∃ q, (t.text == []) = q := ⟨_, rfl⟩
  rw [hq1, hq2] at hr
  have HR := hid hr
  clear hr hq hf hl
  cases q1 with
  | false =>
    go_enter Tryz.func188, Tryz.ntmps188
    go_wp2_with fail
    go_ret
    exact ⟨by rw [HR.out]; rfl, (Ext.refl _ _).alloc _⟩
  | true =>
    cases q2 with
    | false =>
      go_enter Tryz.func188, Tryz.ntmps188
      go_wp2_with fail
      go_ret
      exact ⟨by rw [HR.out]; rfl, (Ext.refl _ _).alloc _⟩
    | true =>
      go_enter Tryz.func188, Tryz.ntmps188
      go_wp2_with fail
      refine (CA.out _ ((Ext.refl _ _).alloc _)).mono ?_
      rintro e w1 ⟨rfl, X1⟩
      have X1 := hid (((Ext.refl none' w).alloc _).trans X1)
      go_wp2_with fail
      go_ret
      exact ⟨by rw [HR.out]; cases q <;> rfl, X1.out⟩
end Go.Proofs.YtbhpmmofgdppdaaGreatDoor
/-
  kinds.turned from types to nodes.
-/
namespace Go.Proofs.YtbhpmmofgdppdaaGreatDoor
open Go.RowKit Go.Lib Go.BigFrame
theorem infoNd : (Tryz.prog.info? 49).map (fun i => (i.zero, i.size, i.bytes)) = some (some (.agg #[.int .i64 0, .string ⟨#[]⟩, .slice none 0 0, .int .i64 0]), 4, 56) := by kernel_rfl
/-- One element of four cells, laid in a block of its own. -/
theorem four_src {P : Program} {tx e' : TypeId} (hk : P.underlying tx = some (.slice e')) (w : World) (u0 u1 u2 u3 : Value) (t : TypeId) (h0 : u0.oneCell' = true) (h1 : u1.oneCell' = true) (h2 : u2.oneCell' = true) (h3 : u3.oneCell' = true) :
    Src P 4 tx (.slice (some ⟨w.heap.size, 0, none⟩) 1 1) 1 [u0, u1, u2, u3] (w.alloc (.cells #[u0, u1, u2, u3] t)) :=
  Src.ofSlice _ hk _ 1 1 [u0, u1, u2, u3] rfl (fun j u hj => by
    have e : (⟨w.heap.size, 0, none⟩ : Addr).add j = ⟨w.heap.size, j, none⟩ := by unfold Addr.add; split <;> simp_all
    rw [e, cell_at (heap_alloc_at rfl _)]
    exact (List.getElem?_toArray ..).trans hj) (fun u hu => by
      simp at hu
      rcases hu with rfl | rfl | rfl | rfl
      · exact h0
      · exact h1
      · exact h2
      · exact h3)
/-- A node is returned, all of it in memory that is not of A. -/
def NdPA (A : Nat → Prop) (w : World) (t : Nd) (e : Ending) (w' : World) : Prop := ∃ u, e = .returned u ∧ NdV A w' t u ∧ Ext none' w w'
def NsPA (A : Nat → Prop) (w : World) (l : List Nd) (e : Ending) (w' : World) : Prop := ∃ u, e = .returned u ∧ IsSl 4 IsNd A w' u l ∧ Ext none' w w'
structure TnRel (A : Nat → Prop) (w wr : World) (rs : List Nd) (o : Value) (i : Nat) : Prop where
  row : RowOf 4 49 IsNd A wr w.heap.size o (rs.take i)
  hx : Ext none' w wr
set_option maxRecDepth 100000 in
set_option maxHeartbeats 1600000 in
theorem turnedN_any (fn : Nat) (A : Nat → Prop) (l : List Ty) (rs : List Nd) (v : Value) (w : World) (hrs : rs.length = l.length) (hl : l.length ≤ bigD) (hA : ∀ b, A b → b < w.heap.size) (hv : IsSl 3 IsTy none' w v l)
    (hst : ∀ (i : Nat) (h1 : i < l.length) (h2 : i < rs.length) (B : Nat → Prop) (W : World) (x : Value), (∀ b, B b → b < W.heap.size) → TyV none' W l[i] x → Calls Tryz.prog fn #[x] W (NdPA B W rs[i])) (hfn : ∀ args w, (callFunc fn args).run Tryz.prog w = .ok (.enter fn args) w) :
    Calls Tryz.prog 47 #[v, .func (.func fn) #[] #[]] w (NsPA A w rs) := by
  have HV := hid hv
  have HST := hid hst
  have HA := hid hA
  obtain ⟨a, cap, rfl, hc, hn, _⟩ := hv
  obtain ⟨i0, hi0, hz0, hz1, hz2⟩ := info_parts infoNd
  have I0 := hid hi0
  have I1 := hid hz0
  have I2 := hid hz1
  have I3 := hid hz2
  unfold bigD at hl
  clear hn hst hi0 hz0 hz1 hz2 hA
  go_enter Tryz.func47, Tryz.ntmps47
  go_wp2_with fail
  go_loopw [5, 7, 10] (fun o _ z wr => ∃ (i : Nat), z = .int .i64 (i : Nat) ∧ i ≤ l.length ∧ Hid (TnRel A w wr rs o i)) (fun _ _ z _ => l.length - (RowKit.intOf z).toNat)
  case atStart => exact ⟨0, rfl, by omega, hid ⟨RowOf.nil _ _ _ _ _ _, Ext.refl _ _⟩⟩
  case round =>
    obtain ⟨i, rfl, hle, R⟩ := hrel
    have hsh := R.out.row.shape
    obtain ⟨a1, cap1, e1⟩ := hsh
    have hlen : (rs.take i).length = i := by rw [List.length_take]; omega
    rw [hlen] at e1
    subst e1
    by_cases hi : i < l.length
    · have hri : i < rs.length := by omega
      obtain ⟨b, off, cs, rfl, _, hbw, hcc, hty⟩ := (HV.out.ext isTy_good R.out.hx fun _ _ h => h.elim).at i hi
      obtain ⟨x, rfl, hx⟩ := hty.parts
      have c0 := hcc 0 _ rfl
      have c1 := hcc 1 _ rfl
      have c2 := hcc 2 _ rfl
      simp only [Nat.add_zero] at c0
      have HX := hid hx
      obtain ⟨a', cap', rfl, _⟩ := hx
      have C1 := hid fun W (X : Ext none' wr W) => HST.out i hi hri (plus A (.slice a1 i cap1)) W (.agg #[.int .i64 l[i].kind, .string ⟨l[i].name.toArray⟩, .slice a' l[i].args.length cap']) (fun b h => by
        have := X.size
        have := R.out.hx.size
        rcases h with h | h
        · have := HA.out b h; omega
        · have := (R.out.row.lt b h).2; omega) ⟨_, rfl, HX.out.ext isTy_good X fun _ _ h => h⟩
      obtain ⟨t, ht⟩ : ∃ t, l[i] = t := ⟨_, rfl⟩
      rw [ht] at c0 c1 c2 C1
      have htk : rs.take (i + 1) = rs.take i ++ [rs[i]] := by rw [List.take_add_one, List.getElem?_eq_getElem hri]; rfl
      obtain ⟨r, hr⟩ : ∃ r, rs[i] = r := ⟨_, rfl⟩
      rw [hr] at htk C1
      have HTK := hid htk
      have HLEN := hid hlen
      clear hcc hty htk hr ht hlen HX
      go_wp2_with fail
      refine (C1.out _ ((Ext.refl _ _).alloc _)).mono ?_
      rintro e w2 ⟨u, rfl, ⟨y, rfl, hy⟩, X2⟩
      have X2' := ((Ext.refl none' wr).alloc _).trans X2
      have R2 := R.out.row.ext isNd_good X2' (fun b _ h => h.elim) (fun g hg h => h.elim)
      obtain ⟨cells, ho, hr⟩ := R2
      rw [HLEN.out] at ho
      have HY := hid hy
      obtain ⟨a2, cap2, rfl, _⟩ := hy
      have O2 := hid (ownsRow_ext ho ((Ext.refl none' w2).alloc (.cells #[.int .i64 r.kind, .string ⟨r.text.toArray⟩, .slice a2 r.kids.length cap2, .int .i64 r.pos] 49)) (fun _ _ h => h))
      have S2' := hid (four_src (P := Tryz.prog) Tryz.underlying47 w2 (.int .i64 r.kind) (.string ⟨r.text.toArray⟩) (.slice a2 r.kids.length cap2) (.int .i64 r.pos) 49 rfl rfl rfl rfl)
      have HR := hid hr
      have HX2 := hid (R.out.hx.trans X2')
      have HSZ := hid (show w.heap.size ≤ w2.heap.size from (R.out.hx.trans X2').size)
      clear ho hr X2 X2' R C1
      go_wp2_with (at_builtin; refine wpList_app _ rfl (.tmp 14) (.tmp 18) 47 47 rfl w.heap.size 49 i0 _ 4 56 Tryz.underlying47 I0.out I1.out I2.out I3.out rfl _ i cells rfl O2.out _ 1 _ rfl S2'.out ?_ ?_ ?_ ?_)
      · unfold maxLen; omega
      · omega
      · have := HSZ.out; rw [World.size_alloc]; omega
      intro v3 w3 own3 grow3 blk3 _
      have N : Hid (TnRel A w w3 rs v3 (i + 1)) := hid (by
        have X3 : Ext none' w2 (w2.alloc (.cells #[.int .i64 r.kind, .string ⟨r.text.toArray⟩, .slice a2 r.kids.length cap2, .int .i64 r.pos] 49)) := (Ext.refl _ _).alloc _
        have hr3 : ∀ j (h : j < (rs.take i).length), IsNd (plus A (.slice a1 i cap1)) (w2.alloc (.cells #[.int .i64 r.kind, .string ⟨r.text.toArray⟩, .slice a2 r.kids.length cap2, .int .i64 r.pos] 49)) (rs.take i)[j] ((cells.drop (j * 4)).take 4) := fun j h => isNd_good.ext (HR.out j h) X3 fun _ _ q => q.elim
        refine ⟨?_, ?_⟩
        · rw [HTK.out]
          exact RowOf.snoc isNd_good (by rw [HLEN.out]; exact O2.out) hr3 (isNd_good.ext (NdV.nd HY.out) X3 fun _ _ q => q.elim) (by rw [HLEN.out]; exact own3) grow3 (by rw [World.size_alloc]; exact blk3)
        · exact (HX2.out.alloc _).grown grow3 (fun g hg => .inr (O2.out.lt g hg).1))
      clear own3 grow3 blk3
      go_wp2_with fail
      go_roundw
      case rel => exact ⟨i + 1, by go_num, by omega, N⟩
      case measure => simp [RowKit.intOf]; omega
    · obtain rfl : i = l.length := by omega
      have e : rs.take l.length = rs := by rw [← hrs, List.take_length]
      have R1 := R.out.row
      rw [e] at R1
      have R2 := hid (R1.sl isNd_good fun b hb h => by have := HA.out b h; omega)
      have HX := hid R.out.hx
      clear R1 R e
      go_wp2_with fail
      go_ret
      exact ⟨_, rfl, R2.out, HX.out⟩
end Go.Proofs.YtbhpmmofgdppdaaGreatDoor
