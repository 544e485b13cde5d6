import Derived.Test.YthoeengfgkfchaaSeRi
namespace Go.Proofs.Ythoeengfgkfchaa
open Go.RowKit Go.Lib Go.BigFrame
def tmVals (l : List Tm) : List Value := l.flatMap fun t => [.bool t.tilde, .string ⟨t.name.toArray⟩]
theorem tmVals_len : ∀ l : List Tm, (tmVals l).length = l.length * 2
  | [] => rfl
  | t :: r => by have := tmVals_len r; unfold tmVals at this ⊢; rw [List.flatMap_cons, List.length_append, this, List.length_cons]; simp; omega
theorem tmVals_at : ∀ (l : List Tm) (i : Nat) (h : i < l.length), ((tmVals l).drop (i * 2)).take 2 = [.bool l[i].tilde, .string ⟨(l[i]).name.toArray⟩]
  | t :: r, 0, _ => rfl
  | t :: r, i + 1, h => by
    have ih := tmVals_at r i (by simpa using h)
    have e : tmVals (t :: r) = .bool t.tilde :: .string ⟨t.name.toArray⟩ :: tmVals r := rfl
    rw [e, show (i + 1) * 2 = i * 2 + 1 + 1 by omega, List.drop_succ_cons, List.drop_succ_cons]
    exact ih
theorem tmVals_get (l : List Tm) (j : Nat) (u : Value) (h : (tmVals l)[j]? = some u) : ∃ i, ∃ hi : i < l.length, (j = i * 2 ∧ u = .bool l[i].tilde) ∨ (j = i * 2 + 1 ∧ u = .string ⟨(l[i]).name.toArray⟩) := by
  have hj : j < l.length * 2 := by have := (List.getElem?_eq_some_iff.1 h).1; rw [tmVals_len] at this; exact this
  have hi : j / 2 < l.length := by omega
  have key := tmVals_at l (j / 2) hi
  refine ⟨j / 2, hi, ?_⟩
  by_cases hm : j % 2 = 0
  · left
    have h0 : (((tmVals l).drop (j / 2 * 2)).take 2)[0]? = (tmVals l)[j]? := by
      rw [List.getElem?_take_of_lt (by omega), List.getElem?_drop]; congr 1; omega
    rw [key, h] at h0
    simp at h0
    exact ⟨by omega, h0.symm⟩
  · right
    have h0 : (((tmVals l).drop (j / 2 * 2)).take 2)[1]? = (tmVals l)[j]? := by
      rw [List.getElem?_take_of_lt (by omega), List.getElem?_drop]; congr 1; omega
    rw [key, h] at h0
    simp at h0
    exact ⟨by omega, h0.symm⟩
theorem tm_src {P : Program} {tx e' : TypeId} (hk : P.underlying tx = some (.slice e')) {A : Nat → Prop} {w : World} {a : Option Addr} {cap : Nat} {l : List Tm} (h : IsSl 2 IsTm A w (.slice a l.length cap) l) : Src P 2 tx (.slice a l.length cap) l.length (tmVals l) w := by
  by_cases hl : l = []
  · subst hl
    obtain ⟨a', cap', e, _⟩ := h
    cases a with
    | none => exact Src.ofNil w hk cap
    | some a => exact Src.ofSlice w hk a 0 cap [] (by simp) (fun j u hj => by simp at hj) (fun u hu => by cases hu)
  · have h0 := h.at 0 (List.length_pos_iff.2 hl)
    obtain ⟨b, off, _, rfl, _⟩ := h0
    refine Src.ofSlice w hk _ _ cap _ (tmVals_len l) (fun j u hj => ?_) (fun u hu => ?_)
    · obtain ⟨i, hi, hh⟩ := tmVals_get l j u hj
      obtain ⟨b', off', cs, e, _, _, hc, rfl⟩ := h.at i hi
      injection e with e
      injection e with e1 e2
      subst e1 e2
      have ea : ∀ o, (⟨b, off, none⟩ : Addr).add o = ⟨b, off + o, none⟩ := fun o => by unfold Addr.add; split <;> simp_all
      rw [ea]
      rcases hh with ⟨rfl, rfl⟩ | ⟨rfl, rfl⟩
      · simpa using hc 0 _ rfl
      · have := hc 1 _ rfl; rw [Nat.add_assoc] at this; exact this
    · obtain ⟨t, _, ht⟩ := List.mem_flatMap.1 hu
      simp at ht
      rcases ht with rfl | rfl <;> rfl
theorem tm_row {A : Nat → Prop} {w : World} {base : Nat} {v : Value} {l : List Tm} (h : w.ownsRow base 50 2 v l.length (tmVals l)) : RowOf 2 50 IsTm A w base v l :=
  ⟨_, h, fun i hi => tmVals_at l i hi⟩
theorem infoTm : (Try.prog.info? 50).map (fun i => (i.zero, i.size, i.bytes)) = some (some (.agg #[.bool false, .string ⟨#[]⟩]), 2, 24) := by kernel_rfl
theorem slNil (W : World) : (binOp .eql 43 (.slice none 0 0) (.slice none 0 0)).run Try.prog W = .ok (.bool true) W := by kernel_rfl
theorem slSome (a : Addr) (n c : Nat) (W : World) : (binOp .eql 43 (.slice (some a) n c) (.slice none 0 0)).run Try.prog W = .ok (.bool false) W := by kernel_rfl
def TmsPost (A : Nat → Prop) (w : World) (l : List Tm) (e : Ending) (w' : World) : Prop := ∃ u, e = .returned u ∧ IsSl 2 IsTm A w' u l ∧ Ext none' w w'
set_option maxRecDepth 100000 in
set_option maxHeartbeats 1600000 in
theorem clone_any (l : List Tm) (hl : l.length ≤ 1000000000) (A : Nat → Prop) (v : Value) (w : World) (hv : IsSl 2 IsTm A w v l) (hA : ∀ b, A b → b < w.heap.size) : Calls Try.prog 36 #[v] w (TmsPost A w l) := by
  have HV := hid hv
  obtain ⟨a, cap, rfl, hc, hn, h4⟩ := hv
  clear h4
  obtain ⟨i0, hi0, hz0, hz1, hz2⟩ := info_parts infoTm
  have I0 := hid hi0
  have I1 := hid hz0
  have I2 := hid hz1
  have I3 := hid hz2
  have HN := hid hn
  clear hi0 hz0 hz1 hz2 hn
  cases a with
  | none =>
    have hc0 : cap = 0 := HN.out rfl
    have hl0 : l = [] := List.eq_nil_of_length_eq_zero (by omega)
    subst hl0
    subst hc0
    have hq := slNil
    go_enter Try.func36, Try.ntmps36
    go_wp2_with fail
    go_ret
    exact ⟨_, rfl, IsSl.nil _ _ _ _, Ext.refl _ _⟩
  | some a =>
    have hq := slSome
    have O1 : Hid ((w.alloc (.cells #[] 50)).ownsRow w.heap.size 50 2 (.slice (some ⟨w.heap.size, 0, none⟩) 0 0) 0 []) := hid ⟨rfl, .inr ⟨w.heap.size, 0, #[], rfl, Nat.le_refl _, heap_alloc_at rfl _, Nat.le_refl _, by unfold maxLen; omega, rfl, rfl⟩⟩
    have S1 := hid (tm_src (P := Try.prog) Try.underlying43 (HV.out.ext isTm_good ((Ext.refl none' w).alloc (.cells #[] 50)) fun _ _ h => h.elim))
    go_enter Try.func36, Try.ntmps36
    go_wp2_with (at_builtin; refine wpList_app _ rfl (.tmp 5) (.tmp 6) 43 43 rfl w.heap.size 50 i0 _ 2 24 Try.underlying43 I0.out I1.out I2.out I3.out rfl _ 0 [] rfl O1.out _ l.length _ rfl S1.out ?_ ?_ ?_ ?_)
    · unfold maxLen; omega
    · omega
    · rw [World.size_alloc]; omega
    intro v3 w3 own3 grow3 blk3 _
    have N : Hid (IsSl 2 IsTm A w3 v3 l) := hid ((tm_row own3).sl isTm_good fun b hb h => by have := hA b h; omega)
    have X : Hid (Ext none' w w3) := hid (((Ext.refl _ _).alloc _).grown grow3 (fun g hg => .inr (O1.out.lt g hg).1))
    clear own3 grow3 blk3
    go_wp2_with fail
    go_ret
    exact ⟨_, rfl, N.out, X.out⟩
theorem ret_cn2 {fn : Func} {p u : Tmp} (h : fn.results = #[.cell p 45, .tmp u]) {R : Ending → World → Prop} {a : Act} {w : World} {g : Nat} {y0 y1 y2 z : Value} {t : TypeId} {fr : Nat × Nat} (hp : a.tmps.getD p undef = .pointer (some ⟨g, 0, none⟩)) (hg : w.heap[g]? = some (.cells #[y0, y1, y2] t fr)) (hz : a.tmps.getD u undef = z)
    (hd : a.defers = []) (hR : R (.returned (.tuple #[.agg #[y0, y1, y2], z])) w) : bodyPost Try.prog fn R .ret a w := by
  have hp' : a.tmps[p]?.getD undef = .pointer (some ⟨g, 0, none⟩) := by simpa using hp
  have hl := run_loadVar_row (P := Try.prog) w g t 45 #[y0, y1, y2] fr _ hg Try.underlying45 rfl (by kernel_rfl)
  refine bodyPost_ret (v := .tuple #[.agg #[y0, y1, y2], z]) ?_ hd hR
  rw [results_cell_tmp h, hp, hz]
  simp [asAddr, hl, Result.andThen]
def FindCPost (A : Nat → Prop) (w : World) (o : Option Cn) (e : Ending) (w' : World) : Prop := ∃ u, e = .returned (.tuple #[u, .bool o.isSome]) ∧ CnV A w' (o.getD cn0) u ∧ Ext none' w w'
set_option maxRecDepth 100000 in
set_option maxHeartbeats 1600000 in
theorem FindC_any (scope : List Bd) (n : List UInt8) (hl : scope.length ≤ 1000000000) (hts : ∀ b ∈ scope, b.set.terms.length ≤ 1000000000) (A : Nat → Prop) (v : Value) (w : World) (hv : IsSl 4 IsBd A w v scope) (hA : ∀ b, A b → b < w.heap.size) : Calls Try.prog 20 #[v, .string ⟨n.toArray⟩] w (FindCPost A w (findC scope n)) := by
  obtain ⟨p, hp⟩ : ∃ p, p = findC scope n := ⟨_, rfl⟩
  rw [← hp]
  have HP := hid hp
  have HV := hid hv
  obtain ⟨a, cap, rfl, _⟩ := hv
  have hmf : ∀ (fn : Fn) (first cap : Array Value) (w : World), (Instr.makeFunc fn first cap).run Try.prog w = .ok (.func fn first cap) w := fun _ _ _ _ => rfl
  have CI := hid fun (W : World) (X : Ext none' w W) (h : W.heap[w.heap.size]? = some (.cells #[.string ⟨n.toArray⟩] 9 (0, 0))) => ibound_any 35 #[.pointer (some ⟨w.heap.size, 0, none⟩)] (fun b => b.name == n) A scope _ W hl (HV.out.ext isBd_good X fun _ _ h => h.elim) (fun i hi w' a c x' => bfind1_any scope[i].name _ _ a _ c n w.heap.size w' (x'.heap h (fun h => h))) enter_find1b
  have hzc := fstI_cases (fun b : Bd => b.name == n) scope
  have hzn := hid fun h => findC_none (l := scope) (n := n) h
  have hza := hid fun (i : Nat) (hi : i < scope.length) h => findC_at (l := scope) (n := n) (i := i) hi h
  obtain ⟨z, hz⟩ : ∃ z, fstI (fun b : Bd => b.name == n) scope = z := ⟨_, rfl⟩
  rw [hz] at CI hzc hzn hza
  clear hp hz
  go_enter Try.func20, Try.ntmps20
  go_wp2_with fail
  refine (CI.out _ (((Ext.refl _ _).alloc _).alloc _) (heap_alloc_keep (heap_alloc_at rfl _) _)).mono ?_
  rintro e W1 ⟨rfl, X1⟩
  obtain ⟨B, hB⟩ : ∃ B, B = w.heap.size := ⟨_, rfl⟩
  rw [← hB]
  have g1 := X1.heap (heap_alloc_at (w := w.alloc (.cells #[.string ⟨n.toArray⟩] 9)) (k := B + 1) (by rw [hB]; simp) (.cells #[.bool false, .bool false, .slice none 0 0] 45)) (fun h => h)
  have X1 := hid ((((Ext.refl none' w).alloc _).alloc _).trans X1)
  have HB := hid hB
  have G1 := hid g1
  have hz1 := hid (heap_lt g1)
  have f0 := free_at g1 0
  have f1 := free_at g1 1
  have f2 := free_at g1 2
  have e0 := cell_at g1 0
  have e1 := cell_at g1 1
  have e2 := cell_at g1 2
  simp only [List.getElem?_toArray, List.getElem?_cons_zero, List.getElem?_cons_succ] at e0 e1 e2
  clear hB CI g1
  rcases hzc with ⟨rfl, _⟩ | ⟨i, hi, rfl, _⟩
  · have e3 : Hid (p = none) := hid (by rw [HP.out, hzn.out rfl])
    go_wp2_with fail
    refine ret_cn2 rfl rfl (set3 G1.out _ _ _) rfl rfl ?_
    rw [e3.out]
    exact ⟨_, rfl, ⟨.slice none 0 0, rfl, IsSl.nil _ _ _ _⟩, X1.out.set3 (b := B + 1) (.inr (by have := HB.out; omega)) _ _ _⟩
  · have e3 : Hid (p = some scope[i].set) := hid (by rw [HP.out, hza.out i hi rfl])
    obtain ⟨b, off, cs, rfl, hAb, hbw, hcc, hbd⟩ := ((HV.out.mono (B := and1 A (B + 1)) isBd_good (and1.down (by have := HB.out; omega))).ext isBd_good X1.out fun _ _ h => h.elim).at i hi
    obtain ⟨x, rfl, hx⟩ := hbd
    have hlen := hid (hts _ (List.getElem_mem hi))
    obtain ⟨s, hs⟩ : ∃ s, scope[i].set = s := ⟨_, rfl⟩
    rw [hs] at hx hcc
    have e3 : Hid (p = some s) := hid (by rw [e3.out, hs])
    have hlen : Hid (s.terms.length ≤ 1000000000) := hid (by rw [← hs]; exact hlen.out)
    clear hs
    have HX := hid hx
    obtain ⟨a1, cap1, rfl, _⟩ := hx
    obtain ⟨sa, sc, st⟩ := s
    have hcc := hid hcc
    have y1 := fun t : LaterF none' W1 => (t.x.cell (p := ⟨b, off + i * 4 + 1, none⟩) hbw (fun h => h)).trans (hcc.out 1 _ rfl)
    have y2 := fun t : LaterF none' W1 => (t.x.cell (p := ⟨b, off + i * 4 + 2, none⟩) hbw (fun h => h)).trans (hcc.out 2 _ rfl)
    have y3 := fun t : LaterF none' W1 => (t.x.cell (p := ⟨b, off + i * 4 + 3, none⟩) hbw (fun h => h)).trans (hcc.out 3 _ rfl)
    simp only at y1 y2 y3 HX hlen
    have CC := hid fun W (X : Ext none' W1 W) => clone_any st hlen.out (and1 A (B + 1)) _ W (HX.out.ext isTm_good X fun _ _ h => h.elim) (and1.lt hA (Nat.le_trans X1.out.size X.size) (by have := hz1.out; have := X.size; omega))
    have q1 : decide ((i : Int) < 0) = false := by simp
    clear hzn hza e0 e1 e2 f0 f1 f2
    go_upto_region 4 with (fail)
    refine region_tree none' W1 [0, 1, 2, 3, 4, 5, 6, 7, 8, 9, 10, 11, 12, 13, 14, 15, 16, 17] (.one 18 true (.one 19 false (.one 20 false (.one 21 false .fin)))) (by kernel_rfl) (by kernel_rfl) (fun dst v c a w h => by cases dst <;> exact h) (Ext.refl _ _) ?_
    simp only [sel, List.getElem?_cons_succ, List.getElem?_cons_zero]
    repeat (go_big_quiet_step (fail))
    refine wpQuiet_nil ?_
    simp only [wpTree, stepT, sel, List.getElem?_cons_succ, List.getElem?_cons_zero]
    clear y1 y2 y3
    go_wp2_with fail
    refine (CC.out _ (Ext.refl _ _).drew).mono ?_
    rintro e W2 ⟨u, rfl, hu, X2⟩
    have X2 := (Ext.refl none' W1).drew.trans X2
    have HU := hid hu
    obtain ⟨a3, cap3, rfl, _⟩ := hu
    have g1 := X2.heap G1.out (fun h => h)
    have f0 := free_at g1 0
    have f1 := free_at g1 1
    have f2 := free_at g1 2
    have e0 := cell_at g1 0
    have e1 := cell_at g1 1
    have e2 := cell_at g1 2
    simp only [List.getElem?_toArray, List.getElem?_cons_zero, List.getElem?_cons_succ] at e0 e1 e2
    have G2 := hid g1
    have X12 := hid X2
    have X2 := hid (X1.out.trans X2)
    clear g1
    go_wp2_with fail
    refine ⟨In.of X12.out, ?_⟩
    go_wp2_with fail
    refine ret_cn2 rfl rfl (set3 G2.out _ _ _) rfl rfl ?_
    rw [e3.out]
    exact ⟨_, rfl, ⟨_, rfl, (HU.out.ext isTm_good (Ext.self3 _ _ _ _ _) fun _ _ h => .inr h).mono isTm_good fun _ _ h => .inl h⟩, X2.out.set3 (b := B + 1) (.inr (by have := HB.out; omega)) _ _ _⟩
end Go.Proofs.Ythoeengfgkfchaa
