import Derived.Test.YthbmjamgidfneaaGreatDoorVAb
import Derived.Test.YthbmjamgidfneaaGreatDoorVAa
import Derived.Shelf.Abstract
set_option maxRecDepth 100000
set_option maxHeartbeats 6400000
namespace Go.Proofs.YthbmjamgidfneaaGreatDoor
open Go.RowKit Go.Lib
inductive Br where
 | fin
 | one (i : Nat) (b : Bool) (r : Br)
 | two (i : Nat) (b : Bool) (r : Br) (j : Nat) (c : Bool) (q : Br)
def Br.depth : Br → Nat
 | .fin => 0
 | .one _ _ r => r.depth + 1
 | .two _ _ r _ _ _ => r.depth + 1
def Br.early : Br → List Nat
 | .fin => []
 | .one i b r => (if b then [] else [i]) ++ r.early
 | .two i b r j c q => (if b then [] else [i]) ++ (r.early ++ ((if c then [] else [j]) ++ q.early))
section
variable {P : Program} {ops : Array Oper} {Q : Exit → Act → World → Prop} {md : Region.Mode} {S : World → Prop} {E : Nat → Bool}
def stepT (P : Program) (l : List Oper) (Q : Exit → Act → World → Prop) (S : World → Prop) (i : Nat) (b : Bool) (K : Act → World → Prop) (a : Act) (w : World) : Prop :=
 wpList P l.toArray (Exit.then (fun a' w' => match b with | true => S w' ∧ K a' w' | false => K a' w') Q) (sel l [i]) a w
theorem stepT_op (l : List Oper) (hl : l.toArray = ops) {listed : Array Bool} {a : Act} {w : World} {i : Nat} {b : Bool} {K : Act → World → Prop} {fuel : Nat} (hm : i ∈ Region.ready md ops listed) (he : b = false → E i = false)
  (hK : ∀ a' w', K a' w' → wpAnyE P md ops Q S E fuel (listed.setIfInBounds i true) a' w') (h : stepT P l Q S i b K a w) : wpOp P ops Q i (fun a' w' => (E i = true → S w') ∧ wpAnyE P md ops Q S E fuel (listed.setIfInBounds i true) a' w') a w := by
 obtain ⟨_, oi, hoi, _⟩ := mem_ready.1 hm
 have hli : l[i]? = some oi := by rw [← hl] at hoi; simpa using hoi
 simp only [stepT, sel, hli, hl, wpList] at h
 have hnext : ∀ a' w', (match b with | true => S w' ∧ K a' w' | false => K a' w') → (E i = true → S w') ∧ wpAnyE P md ops Q S E fuel (listed.setIfInBounds i true) a' w' := by
  intro a' w' hx
  cases b with
  | true => exact ⟨fun _ => hx.1, hK _ _ hx.2⟩
  | false => exact ⟨fun hE => (by rw [he rfl] at hE; cases hE), hK _ _ hx⟩
 unfold wpOp
 simp only [hoi]
 split at h
 · rename_i hw
   rw [if_pos hw]
   refine h.imp (fun h => wp_exits (fun a' w' hx => hnext a' w' hx) (fun c a w hx => hx) (fun ⟨a, w, hx⟩ => ⟨a, w, hx⟩) h) (fun ⟨h1, a, w, hx⟩ => ⟨h1, a, w, hx⟩)
 · rename_i hw
   rw [if_neg hw]
   exact hnext _ _ h
end
inductive Bq where
 | fin
 | one (i : Nat) (b : Bool) (r : Bq)
 | two (i : Nat) (b : Bool) (r : Bq) (j : Nat) (c : Bool) (q : Bq)
 | qs (l : List Nat) (r : Bq)
def Bq.depth : Bq → Nat
 | .fin => 0
 | .one _ _ r => r.depth + 1
 | .two _ _ r _ _ _ => r.depth + 1
 | .qs l r => l.length + r.depth
def Bq.early : Bq → List Nat
 | .fin => []
 | .one i b r => (if b then [] else [i]) ++ r.early
 | .two i b r j c q => (if b then [] else [i]) ++ (r.early ++ ((if c then [] else [j]) ++ q.early))
 | .qs _ r => r.early
section
variable {P : Program} {ops : Array Oper} {Q : Exit → Act → World → Prop} {md : Region.Mode} {S : World → Prop} {E : Nat → Bool}
def wpTreeQ (P : Program) (l : List Oper) (Q : Exit → Act → World → Prop) (S : World → Prop) : Bq → Act → World → Prop
 | .fin, a, w => Q .normal a w
 | .one i b r, a, w => stepT P l Q S i b (wpTreeQ P l Q S r) a w
 | .two i b r j c q, a, w => stepT P l Q S i b (wpTreeQ P l Q S r) a w ∧ stepT P l Q S j c (wpTreeQ P l Q S q) a w
 | .qs lq r, a, w => S w ∧ wpQuiet P l.toArray S (fun a' => wpTreeQ P l Q S r a' w) (sel l lq) a
def treeQB (md : Region.Mode) (ops : Array Oper) (E : Nat → Bool) : Bq → Array Bool → Bool
 | .fin, listed => (Region.ready md ops listed).isEmpty
 | .one i _ r, listed => (Region.ready md ops listed) == [i] && treeQB md ops E r (listed.setIfInBounds i true)
 | .two i _ r j _ q, listed => (Region.ready md ops listed) == [i, j] && treeQB md ops E r (listed.setIfInBounds i true) && treeQB md ops E q (listed.setIfInBounds j true) && r.depth == q.depth
 | .qs lq r, listed => readyA md ops lq listed && (lq.all fun i => (List.range ops.size).all fun j => E j || waitsB md ops ops.size j i) && treeQB md ops E r (listedA lq listed)
theorem down_listed : ∀ (lA : List Nat) (listed : Array Bool), readyA md ops lA listed = true → Down md ops listed → Down md ops (listedA lA listed)
 | [], _, _, h => h
 | i :: r, listed, hr, h => by
  simp only [readyA, Bool.and_eq_true, List.contains_eq_mem, decide_eq_true_eq] at hr
  exact down_listed r _ hr.2 (h.step hr.1.1.1)
theorem phaseQ (l : List Oper) (hl : l.toArray = ops) (hs : Region.noSelect ops = true) (hQ : ∀ (dst : Option Tmp) v c a w, Q (.panic c) (a.put dst v) w → Q (.panic c) a w) : ∀ (t : Bq) (listed : Array Bool) (a : Act) (w : World), treeQB md ops E t listed = true → (∀ j ∈ t.early, E j = false) → Down md ops listed → wpTreeQ P l Q S t a w → wpAnyE P md ops Q S E t.depth listed a w
 | .fin, listed, a, w, hc, _, _, h => ⟨by simpa [treeQB] using hc, h⟩
 | .one i b r, listed, a, w, hc, he, hd, h => by
  simp only [treeQB, Bool.and_eq_true, beq_iff_eq] at hc
  refine ⟨fun h0 => (by rw [hc.1] at h0; cases h0), fun k hk => ?_⟩
  have hk' := hk
  rw [hc.1, List.mem_singleton] at hk'
  subst hk'
  exact stepT_op l hl hk (fun hb => he _ (by simp [Bq.early, hb])) (fun a' w' h' => phaseQ l hl hs hQ r _ a' w' hc.2 (fun j hj => he j (by simp [Bq.early, hj])) (hd.step hk) h') h
 | .two i b r j c q, listed, a, w, hc, he, hd, h => by
  simp only [treeQB, Bool.and_eq_true, beq_iff_eq] at hc
  obtain ⟨⟨⟨h1, h2⟩, h3⟩, h4⟩ := hc
  refine ⟨fun h0 => (by rw [h1] at h0; cases h0), fun k hk => ?_⟩
  have hk' := hk
  rw [h1] at hk'
  simp only [List.mem_cons, List.mem_nil_iff, or_false] at hk'
  rcases hk' with rfl | rfl
  · exact stepT_op l hl hk (fun hb => he _ (by simp [Bq.early, hb])) (fun a' w' h' => phaseQ l hl hs hQ r _ a' w' h2 (fun j hj => he j (by simp [Bq.early, hj])) (hd.step hk) h') h.1
  · refine stepT_op l hl hk (fun hb => he _ (by simp [Bq.early, hb])) (fun a' w' h' => ?_) h.2
    have := phaseQ l hl hs hQ q _ a' w' h3 (fun j hj => he j (by simp [Bq.early, hj])) (hd.step hk) h'
    rw [← h4] at this
    exact this
 | .qs lq r, listed, a, w, hc, he, hd, h => by
  simp only [treeQB, Bool.and_eq_true] at hc
  obtain ⟨⟨h1, h2⟩, h3⟩ := hc
  simp only [wpTreeQ] at h
  refine phaseA l hl hs hQ h.1 _ r.depth lq _ a h1 h2 hd (by rw [hl] at h; exact h.2) ?_
  intro a' h'
  exact phaseQ l hl hs hQ r _ a' w h3 (fun j hj => he j (by simpa [Bq.early] using hj)) (down_listed lq _ h1 hd) h'
def mixedQB (ops : Array Oper) (t : Bq) : Bool :=
 Region.noSelect ops && treeQB .any ops (fun j => !t.early.contains j) t (Array.replicate ops.size false) && t.depth == ops.size
theorem region_q {id : Nat} {a : Act} {w : World} {l : List Oper} (F : Nat → Prop) (w0 : World) (t : Bq) (hm : P.follows .mixedOrders = true) (hB : mixedQB l.toArray t = true)
  (hQ : ∀ (dst : Option Tmp) v c a w, Q (.panic c) (a.put dst v) w → Q (.panic c) a w)
  (h : wpTreeQ P l Q (In F w0) t a w.drew) : (Code.region id l.toArray true).wp P Q a w := by
 simp only [mixedQB, Bool.and_eq_true, beq_iff_eq] at hB
 obtain ⟨⟨h1, h2⟩, h3⟩ := hB
 refine wp_region_any hm (wpAny_of_E (S := In F w0) (E := fun j => !t.early.contains j) _ _ _ _ ?_)
 rw [← h3] at h2 ⊢
 refine phaseQ l rfl h1 hQ t _ a _ h2 (fun j hj => by simp [hj]) ?_ h
 intro k ok hk hl
 rw [getD_replicate] at hl
 cases hl
end
end Go.Proofs.YthbmjamgidfneaaGreatDoor
namespace Go.Proofs.YthbmjamgidfneaaGreatDoor
open Go.RowKit Go.Lib Go.BigFrame
def AskV (f : Nat) (p : Nd → Bool) (w : World) (v : Value) : Prop :=
 ∃ fn caps, v = .func (.func fn) #[] caps ∧ (∀ args w, (callFunc fn args).run Tryz.prog w = .ok (.enter fn args) w) ∧
  ∀ (t : Nd), t.size ≤ f → ∀ (W : World) (x : Value), Ext none' w W → NdV none' W t x → Calls Tryz.prog fn (#[x] ++ caps) W (BoolP (p t) W)
theorem AskV.ext {f : Nat} {p : Nd → Bool} {w w' : World} {v : Value} (h : AskV f p w v) (x : Ext none' w w') : AskV f p w' v := by
 obtain ⟨fn, caps, rfl, hfn, h⟩ := h
 exact ⟨fn, caps, rfl, hfn, fun t ht W y X hy => h t ht W y (x.trans X) hy⟩
def SoV (so : List UInt8 → Bool) (w : World) (v : Value) : Prop :=
 ∃ fn caps, v = .func (.func fn) #[] caps ∧ (∀ args w, (callFunc fn args).run Tryz.prog w = .ok (.enter fn args) w) ∧
  ∀ (s : List UInt8) (W : World), s.length ≤ bigD → Ext none' w W → Calls Tryz.prog fn (#[.string ⟨s.toArray⟩] ++ caps) W (BoolP (so s) W)
theorem SoV.ext {so : List UInt8 → Bool} {w w' : World} {v : Value} (h : SoV so w v) (x : Ext none' w w') : SoV so w' v := by
 obtain ⟨fn, caps, rfl, hfn, h⟩ := h
 exact ⟨fn, caps, rfl, hfn, fun s W hs X => h s W hs (x.trans X)⟩
def AsksV (f : Nat) (ps : List (Nd → Bool)) (w : World) (v : Value) : Prop :=
 ∃ a cap, v = .slice a ps.length cap ∧ ∀ (i : Nat) (h : i < ps.length), ∃ b off u, a = some ⟨b, off, none⟩ ∧ b < w.heap.size ∧ w.cell? ⟨b, off + i, none⟩ = some u ∧ AskV f ps[i] w u
theorem AsksV.ext {f : Nat} {ps : List (Nd → Bool)} {w w' : World} {v : Value} (h : AsksV f ps w v) (x : Ext none' w w') : AsksV f ps w' v := by
 obtain ⟨a, cap, rfl, h⟩ := h
 refine ⟨a, cap, rfl, fun i hi => ?_⟩
 obtain ⟨b, off, u, rfl, hb, hc, hu⟩ := h i hi
 exact ⟨b, off, u, rfl, Nat.lt_of_lt_of_le hb x.size, (x.cell (p := ⟨b, off + i, none⟩) hb fun h => h).trans hc, hu.ext x⟩
theorem AsksV.none {f : Nat} {w : World} : AsksV f [] w (.slice none 0 0) := ⟨.none, 0, rfl, fun i h => by simp at h⟩
theorem AsksV.lit1 {f : Nat} {p : Nd → Bool} {w : World} {B : Nat} {u : Value} {t : TypeId} {fz : Nat × Nat} (h : w.heap[B]? = some (.cells #[u] t fz)) (hu : AskV f p w u) : AsksV f [p] w (.slice (some ⟨B, 0, Option.none⟩) 1 1) :=
 ⟨_, 1, rfl, fun i hi => by
  have : i < 1 := hi
  obtain rfl : i = 0 := by omega
  exact ⟨B, 0, u, rfl, heap_lt h, cell_at h 0, hu⟩⟩
theorem AsksV.lit2 {f : Nat} {p q : Nd → Bool} {w : World} {B : Nat} {u v : Value} {t : TypeId} {fz : Nat × Nat} (h : w.heap[B]? = some (.cells #[u, v] t fz)) (hu : AskV f p w u) (hv : AskV f q w v) : AsksV f [p, q] w (.slice (some ⟨B, 0, Option.none⟩) 2 2) :=
 ⟨_, 2, rfl, fun i hi => by
  have : i < 2 := hi
  have hi : i = 0 ∨ i = 1 := by omega
  rcases hi with rfl | rfl
  · exact ⟨B, 0, u, rfl, heap_lt h, cell_at h 0, hu⟩
  · exact ⟨B, 0, v, rfl, heap_lt h, cell_at h 1, hv⟩⟩
theorem NdV.kids {t : Nd} {w : World} {i : Nat} {a : Option Addr} {n cap : Nat} (h : IsSl 4 IsNd none' w (.slice a n cap) t.kids) (hi : i < t.kids.length) :
  ∃ b off x, a = some ⟨b, off, none⟩ ∧ w.cell? ⟨b, off + i * 4, none⟩ = some (.int .i64 t.kids[i].kind) ∧ w.cell? ⟨b, off + i * 4 + 1, none⟩ = some (.string ⟨t.kids[i].text.toArray⟩) ∧ w.cell? ⟨b, off + i * 4 + 2, none⟩ = some x ∧ w.cell? ⟨b, off + i * 4 + 3, none⟩ = some (.int .i64 t.kids[i].pos) ∧ IsSl 4 IsNd none' w x t.kids[i].kids := by
 obtain ⟨b, off, cs, rfl, _, _, hcc, hty⟩ := h.at i hi
 obtain ⟨x, rfl, hx⟩ := hty.parts
 exact ⟨b, off, x, rfl, by simpa using hcc 0 _ rfl, by simpa using hcc 1 _ rfl, by simpa using hcc 2 _ rfl, by simpa using hcc 3 _ rfl, hx⟩
theorem any_fst {α : Type} (p : α → Bool) (l : List α) : decide (0 ≤ fstI p l) = l.any p := by
 rcases fstI_cases p l with ⟨e, h⟩ | ⟨i, hi, e, h⟩
 · rw [e]
   have : l.any p = false := by rw [List.any_eq_false]; intro x hx; rw [h x hx]; simp
   rw [this]; rfl
 · rw [e]
   have : l.any p = true := List.any_eq_true.2 ⟨_, List.getElem_mem hi, h⟩
   rw [this]; simp
theorem ind_any (p : Nd → Bool) (l : List Nd) (f : Nat) (v u : Value) (w : World) (hl : l.length ≤ bigD) (hv : IsSl 4 IsNd none' w v l) (hf : ∀ (i : Nat) (hi : i < l.length), l[i].size ≤ f) (hu : AskV f p w u) :
  Calls Tryz.prog 175 #[v, u] w (IntP (fstI p l) w) := by
 obtain ⟨q, hq⟩ : ∃ q, q = fstI p l := ⟨_, rfl⟩
 rw [← hq]
 have HQ := hid hq
 have HV := hid hv
 obtain ⟨fn, caps, rfl, hfn, hst⟩ := hu
 have HST := hid hst
 have HF := hid hf
 obtain ⟨a, cap, rfl, hc, hn, _⟩ := hv
 unfold bigD at hl
 clear hn hst hq hf
 go_enter Tryz.func175, Tryz.ntmps175
 go_wp2_with fail
 go_loopw [5, 8] (fun _ z wr => ∃ (i : Nat), z = .int .i64 (i : Nat) ∧ i ≤ l.length ∧ Hid (Ext none' w wr ∧ ∀ j (h : j < l.length), j < i → p l[j] = false)) (fun _ z _ => l.length - (RowKit.intOf z).toNat)
 case atStart => exact ⟨0, rfl, by omega, hid ⟨Ext.refl _ _, fun j _ h => by omega⟩⟩
 case round =>
  obtain ⟨i, rfl, hle, R⟩ := hrel
  by_cases hi : i < l.length
  · obtain ⟨b, off, cs, rfl, hAb, hbw, hcc, hty⟩ := (HV.out.ext isNd_good R.out.1 fun _ _ h => h.elim).at i hi
    obtain ⟨x, rfl, hx⟩ := hty.parts
    have c0 := hcc 0 _ rfl
    have c1 := hcc 1 _ rfl
    have c2 := hcc 2 _ rfl
    have c3 := hcc 3 _ rfl
    simp only [Nat.add_zero] at c0
    have HX := hid hx
    obtain ⟨a1, cap1, rfl, _⟩ := hx
    have HR := hid R.out
    obtain ⟨bb, hbb⟩ : ∃ bb, p l[i] = bb := ⟨_, rfl⟩
    have HBB := hid hbb
    have C2 : Hid (Calls Tryz.prog fn (#[.agg #[.int .i64 l[i].kind, .string ⟨l[i].text.toArray⟩, .slice a1 l[i].kids.length cap1, .int .i64 l[i].pos]] ++ caps) wr (BoolP bb wr)) := hid (by rw [← hbb]; exact HST.out _ (HF.out i hi) wr _ R.out.1 ⟨_, rfl, HX.out⟩)
    clear hbb R hcc hty
    go_wp2_with fail
    refine C2.out.mono ?_
    rintro e w2 ⟨rfl, X2⟩
    have HX2 := hid (HR.out.1.trans X2)
    clear X2
    cases bb with
    | true =>
     have E : Hid (q = (i : Nat)) := hid (by rw [HQ.out]; exact fstI_at hi HBB.out HR.out.2)
     go_wp2_with fail
     go_ret
     exact ⟨by rw [E.out]; rfl, HX2.out⟩
    | false =>
     go_wp2_with fail
     go_roundw
     case rel => exact ⟨i + 1, by go_num, by omega, hid ⟨HX2.out, fun j hj hji => by
       by_cases q : j = i
       · subst q; exact HBB.out
       · exact HR.out.2 j hj (by omega)⟩⟩
     case measure => simp [RowKit.intOf]; omega
  · obtain rfl : i = l.length := by omega
    have E : Hid (q = -1) := hid (by rw [HQ.out]; exact fstI_none fun j hj => R.out.2 j hj hj)
    have HX := hid R.out.1
    clear R
    go_wp2_with fail
    go_ret
    exact ⟨by rw [E.out]; rfl, HX.out⟩
theorem con_any (p : Nd → Bool) (l : List Nd) (f : Nat) (v u : Value) (w : World) (hl : l.length ≤ bigD) (hv : IsSl 4 IsNd none' w v l) (hf : ∀ (i : Nat) (hi : i < l.length), l[i].size ≤ f) (hu : AskV f p w u) :
  Calls Tryz.prog 134 #[v, u] w (BoolP (l.any p) w) := by
 have C := hid (ind_any p l f v u w hl hv hf hu)
 obtain ⟨a, cap, rfl, _⟩ := hv
 obtain ⟨fn, caps, rfl, _⟩ := hu
 rw [← any_fst]
 obtain ⟨z, hz⟩ : ∃ z, fstI p l = z := ⟨_, rfl⟩
 rw [hz] at C ⊢
 clear hz
 go_enter Tryz.func134, Tryz.ntmps134
 go_wp2_with fail
 refine C.out.mono ?_
 rintro e w1 ⟨rfl, X1⟩
 have X1 := hid X1
 go_wp2_with fail
 go_ret
 exact ⟨rfl, X1.out⟩
theorem all1_ask (f : Nat) (p : Nd → Bool) (w : World) (u : Value) (B : Nat) (hb : w.heap[B]? = some (.cells #[u] 41 (0, 0))) (hu : AskV f p w u) : AskV f (fun t => !p t) w (.func (.func 135) #[] #[.pointer (some ⟨B, 0, none⟩)]) := by
 refine ⟨_, _, rfl, Go.Proofs.enters_of Tryz.func135 (by kernel_rfl) rfl, fun t ht W x X hx => ?_⟩
 obtain ⟨fn, caps, rfl, hfn, hst⟩ := hu
 have CC := hid fun W' (X' : Ext none' W W') => hst t ht W' x (X.trans X') (hx.ext X' fun _ _ h => h)
 obtain ⟨y, rfl, hy⟩ := hx
 obtain ⟨a1, cap1, rfl, _⟩ := hy
 have c0 := cell_at (heap_alloc_keep (X.heap hb fun h => h) (.cells #[.int .i64 t.kind, .string ⟨t.text.toArray⟩, .slice a1 t.kids.length cap1, .int .i64 t.pos] 24)) 0
 simp only [List.getElem?_toArray, List.getElem?_cons_zero] at c0
 show Calls Tryz.prog 135 #[_, _] _ (BoolP (!p t) W)
 obtain ⟨q, hq⟩ : ∃ q, p t = q := ⟨_, rfl⟩
 rw [hq] at CC ⊢
 clear hq hst hb X
 go_enter Tryz.func135, Tryz.ntmps135
 go_wp2_with fail
 refine (CC.out _ ((Ext.refl _ _).alloc _)).mono ?_
 rintro e w1 ⟨rfl, X1⟩
 have X1 := hid (((Ext.refl none' W).alloc _).trans X1)
 go_wp2_with fail
 go_ret
 exact ⟨by cases q <;> rfl, X1.out⟩
theorem all_not_any {α : Type} (p : α → Bool) (l : List α) : l.all p = !(l.any fun t => !p t) := by
 induction l with
 | nil => rfl
 | cons a r ih => simp [ih]
theorem all_any (p : Nd → Bool) (l : List Nd) (f : Nat) (v u : Value) (w : World) (hl : l.length ≤ bigD) (hv : IsSl 4 IsNd none' w v l) (hf : ∀ (i : Nat) (hi : i < l.length), l[i].size ≤ f) (hu : AskV f p w u) :
  Calls Tryz.prog 100 #[v, u] w (BoolP (l.all p) w) := by
 rw [all_not_any]
 have C := hid (con_any (fun t => !p t) l f v (.func (.func 135) #[] #[.pointer (some ⟨w.heap.size, 0, none⟩)]) (w.alloc (.cells #[u] 41)) hl (hv.ext isNd_good ((Ext.refl none' w).alloc _) fun _ _ h => h) hf (all1_ask f p _ u w.heap.size (heap_alloc_at rfl _) (hu.ext ((Ext.refl _ _).alloc _))))
 obtain ⟨a, cap, rfl, _⟩ := hv
 obtain ⟨fn, caps, rfl, _⟩ := hu
 obtain ⟨z, hz⟩ : ∃ z, (l.any fun t => !p t) = z := ⟨_, rfl⟩
 rw [hz] at C ⊢
 clear hz
 go_enter Tryz.func100, Tryz.ntmps100
 go_wp2_with fail
 refine C.out.mono ?_
 rintro e w1 ⟨rfl, X1⟩
 have X1 := hid (((Ext.refl none' w).alloc _).trans X1)
 go_wp2_with fail
 go_ret
 exact ⟨by cases z <;> rfl, X1.out⟩
theorem ret_nd {fn : Func} {p : Tmp} (h : fn.results = #[.cell p 24]) {R : Ending → World → Prop} {a : Act} {w : World} {g : Nat} {y0 y1 y2 y3 : Value} {t : TypeId} {fr : Nat × Nat} (hp : a.tmps.getD p undef = .pointer (some ⟨g, 0, none⟩)) (hg : w.heap[g]? = some (.cells #[y0, y1, y2, y3] t fr))
  (hd : a.defers = []) (hR : R (.returned (.agg #[y0, y1, y2, y3])) w) : bodyPost Tryz.prog fn R .ret a w :=
 bodyPost_ret (results_cell_row h _ w g t _ fr _ hp hg Tryz.underlying24 rfl (by kernel_rfl)) hd hR
theorem set4n {w : World} {b : Nat} {x0 x1 x2 x3 : Value} {t : TypeId} {fz : Nat × Nat} (h : w.heap[b]? = some (.cells #[x0, x1, x2, x3] t fz)) (y0 y1 y2 y3 : Value) :
  ((((w.setCell ⟨b, 0, none⟩ y0).setCell ⟨b, 1, none⟩ y1).setCell ⟨b, 2, none⟩ y2).setCell ⟨b, 3, none⟩ y3).heap[b]? = some (.cells #[y0, y1, y2, y3] t fz) :=
 heap_setCell_same (heap_setCell_same (heap_setCell_same (heap_setCell_same h 0 y0) 1 y1) 2 y2) 3 y3
theorem Ext.set4 {F : Nat → Prop} {a w : World} (h : Ext F a w) {b : Nat} (hb : F b ∨ a.heap.size ≤ b) (y0 y1 y2 y3 : Value) : Ext F a ((((w.setCell ⟨b, 0, none⟩ y0).setCell ⟨b, 1, none⟩ y1).setCell ⟨b, 2, none⟩ y2).setCell ⟨b, 3, none⟩ y3) :=
 (((h.setCell (p := ⟨b, 0, none⟩) hb y0).setCell (p := ⟨b, 1, none⟩) hb y1).setCell (p := ⟨b, 2, none⟩) hb y2).setCell (p := ⟨b, 3, none⟩) hb y3
theorem empty_any (t : Nd) (v : Value) (w : World) (hv : NdV none' w t v) : Calls Tryz.prog 156 #[v] w (BoolP (emptyB t) w) := by
 obtain ⟨x, rfl, hx⟩ := hv
 obtain ⟨a1, cap1, rfl, _⟩ := hx
 cases t with
 | mk k n l ps =>
 simp only [Nd.kind, Nd.text, Nd.kids, Nd.pos]
 by_cases hk : k = 0
 · have q1 : (k == 0) = true := by simpa using hk
   by_cases hn : n = []
   · have q2 : (n == []) = true := by simpa using hn
     by_cases hl : l = []
     · have e : emptyB (.mk k n l ps) = true := by subst hk hn hl; rfl
       rw [e]
       have q3 : ((l.length : Int) == 0) = true := by subst hl; rfl
       have q4 : l.length = 0 := by subst hl; rfl
       clear hk hn hl e
       go_enter Tryz.func156, Tryz.ntmps156
       go_wp2_with fail
       go_ret
       exact ⟨by simp_all, (Ext.refl _ _).alloc _⟩
     · have e : emptyB (.mk k n l ps) = false := by
        have : l.isEmpty = false := by simpa using hl
        simp [emptyB, Nd.kids, this]
       rw [e]
       have hz : 0 < l.length := List.length_pos_iff.2 hl
       have q3 : ((l.length : Int) == 0) = false := by simp only [beq_eq_false_iff_ne]; omega
       clear hk hn hl e
       go_enter Tryz.func156, Tryz.ntmps156
       go_wp2_with fail
       go_ret
       exact ⟨by simp_all, (Ext.refl _ _).alloc _⟩
   · have q2 : (n == []) = false := by simpa using hn
     have e : emptyB (.mk k n l ps) = false := by simp [emptyB, Nd.text, q2]
     rw [e]
     clear hk hn e
     go_enter Tryz.func156, Tryz.ntmps156
     go_wp2_with fail
     go_ret
     exact ⟨by simp_all, (Ext.refl _ _).alloc _⟩
 · have q1 : (k == 0) = false := by simpa using hk
   have e : emptyB (.mk k n l ps) = false := by simp [emptyB, Nd.kind, q1]
   rw [e]
   clear hk e
   go_enter Tryz.func156, Tryz.ntmps156
   go_wp2_with fail
   go_ret
   exact ⟨by simp_all, (Ext.refl _ _).alloc _⟩
theorem empty_ask (f : Nat) (w : World) : AskV f emptyB w (.func (.func 156) #[] #[]) :=
 ⟨_, _, rfl, Go.Proofs.enters_of Tryz.func156 (by kernel_rfl) rfl, fun t _ W x _ hx => empty_any t x W hx⟩
theorem or1_ask (f : Nat) (p q : Nd → Bool) (w : World) (u v : Value) (B C : Nat) (hb : w.heap[B]? = some (.cells #[u] 41 (0, 0))) (hc : w.heap[C]? = some (.cells #[v] 41 (0, 0))) (hu : AskV f p w u) (hv : AskV f q w v) :
  AskV f (fun t => p t || q t) w (.func (.func 179) #[] #[.pointer (some ⟨B, 0, none⟩), .pointer (some ⟨C, 0, none⟩)]) := by
 refine ⟨_, _, rfl, Go.Proofs.enters_of Tryz.func179 (by kernel_rfl) rfl, fun t ht W x X hx => ?_⟩
 obtain ⟨fn, caps, rfl, hfn, hst⟩ := hu
 obtain ⟨fn2, caps2, rfl, hfn2, hst2⟩ := hv
 have CC := hid fun W' (X' : Ext none' W W') => hst t ht W' x (X.trans X') (hx.ext X' fun _ _ h => h)
 have CD := hid fun W' (X' : Ext none' W W') => hst2 t ht W' x (X.trans X') (hx.ext X' fun _ _ h => h)
 obtain ⟨y, rfl, hy⟩ := hx
 obtain ⟨a1, cap1, rfl, _⟩ := hy
 have HC := hid (heap_alloc_keep (X.heap hc fun h => h) (.cells #[.int .i64 t.kind, .string ⟨t.text.toArray⟩, .slice a1 t.kids.length cap1, .int .i64 t.pos] 24))
 have HN := hid (heap_alloc_at (w := W) rfl (.cells #[.int .i64 t.kind, .string ⟨t.text.toArray⟩, .slice a1 t.kids.length cap1, .int .i64 t.pos] 24))
 have c0 := cell_at (heap_alloc_keep (X.heap hb fun h => h) (.cells #[.int .i64 t.kind, .string ⟨t.text.toArray⟩, .slice a1 t.kids.length cap1, .int .i64 t.pos] 24)) 0
 simp only [List.getElem?_toArray, List.getElem?_cons_zero] at c0
 show Calls Tryz.prog 179 #[_, _, _] _ (BoolP (p t || q t) W)
 obtain ⟨b1, hb1⟩ : ∃ b, p t = b := ⟨_, rfl⟩
 obtain ⟨b2, hb2⟩ : ∃ b, q t = b := ⟨_, rfl⟩
 rw [hb1] at CC ⊢
 rw [hb2] at CD ⊢
 clear hb1 hb2 hst hst2 hb hc X
 go_enter Tryz.func179, Tryz.ntmps179
 go_wp2_with fail
 refine (CC.out _ ((Ext.refl _ _).alloc _)).mono ?_
 rintro e w1 ⟨rfl, X1⟩
 have d0 := cell_at (X1.heap HC.out fun h => h) 0
 have e0 := cell_at (X1.heap HN.out fun h => h) 0
 have e1 := cell_at (X1.heap HN.out fun h => h) 1
 have e2 := cell_at (X1.heap HN.out fun h => h) 2
 have e3 := cell_at (X1.heap HN.out fun h => h) 3
 simp only [List.getElem?_toArray, List.getElem?_cons_zero, List.getElem?_cons_succ] at d0 e0 e1 e2 e3
 have X1 := hid (((Ext.refl none' W).alloc _).trans X1)
 cases b1 with
 | true =>
  go_wp2_with fail
  go_ret
  exact ⟨rfl, X1.out⟩
 | false =>
  go_wp2_with fail
  refine (CD.out _ X1.out).mono ?_
  rintro e w2 ⟨rfl, X2⟩
  have X2 := hid (X1.out.trans X2)
  go_wp2_with fail
  go_ret
  exact ⟨by cases b2 <;> rfl, X2.out⟩
def AskPost (f : Nat) (p : Nd → Bool) (w : World) (e : Ending) (w' : World) : Prop := ∃ u, e = .returned u ∧ AskV f p w' u ∧ Ext none' w w'
theorem or_any (f : Nat) (p q : Nd → Bool) (w : World) (u v : Value) (hu : AskV f p w u) (hv : AskV f q w v) : Calls Tryz.prog 140 #[u, v] w (AskPost f (fun t => p t || q t) w) := by
 have HU := hid hu
 have HV := hid hv
 obtain ⟨fn, caps, rfl, _⟩ := hu
 obtain ⟨fn2, caps2, rfl, _⟩ := hv
 go_enter Tryz.func140, Tryz.ntmps140
 go_wp2_with fail
 go_ret
 have X : Ext none' w ((w.alloc (.cells #[.func (.func fn) #[] caps] 41)).alloc (.cells #[.func (.func fn2) #[] caps2] 41)) := ((Ext.refl _ _).alloc _).alloc _
 exact ⟨_, rfl, or1_ask f p q _ _ _ w.heap.size (w.heap.size + 1) (heap_alloc_keep (heap_alloc_at rfl _) _) (heap_alloc_at (by simp) _) (HU.out.ext X) (HV.out.ext X), X⟩
def namedP (so : List UInt8 → Bool) (t : Nd) : Nd := if so t.text then .mk t.kind [] t.kids t.pos else .mk 37 [] [] 0
def NdPost (w : World) (t : Nd) (e : Ending) (w' : World) : Prop := ∃ u, e = .returned u ∧ NdV none' w' t u ∧ Ext none' w w'
theorem named_any (so : List UInt8 → Bool) (t : Nd) (v u : Value) (w : World) (ht : t.text.length ≤ bigD) (hv : NdV none' w t v) (hu : SoV so w u) : Calls Tryz.prog 137 #[v, u] w (NdPost w (namedP so t)) := by
 have HV := hid hv
 obtain ⟨x, rfl, hx⟩ := hv
 have HX := hid hx
 obtain ⟨a1, cap1, rfl, _⟩ := hx
 obtain ⟨fn, caps, rfl, hfn, hst⟩ := hu
 have CC := hid fun W (X : Ext none' w W) => hst t.text W ht X
 obtain ⟨r, hr⟩ : ∃ r, r = namedP so t := ⟨_, rfl⟩
 rw [← hr]
 unfold namedP at hr
 obtain ⟨b, hb⟩ : ∃ b, so t.text = b := ⟨_, rfl⟩
 rw [hb] at CC hr
 have HR := hid hr
 clear hb hst hr
 go_enter Tryz.func137, Tryz.ntmps137
 go_wp2_with fail
 obtain ⟨B, hB⟩ : ∃ B, B = w.heap.size := ⟨_, rfl⟩
 obtain ⟨W0, hW0⟩ : ∃ W0, W0 = (w.alloc (.cells #[.int .i64 t.kind, .string ⟨t.text.toArray⟩, .slice a1 t.kids.length cap1, .int .i64 t.pos] 24)).alloc (.cells #[.int .i64 0, .string ⟨#[]⟩, .slice none 0 0, .int .i64 0] 24) := ⟨_, rfl⟩
 rw [← hW0, ← hB]
 have X0 : Ext none' w W0 := by rw [hW0]; exact ((Ext.refl _ _).alloc _).alloc _
 have g0 : W0.heap[B]? = some (.cells #[.int .i64 t.kind, .string ⟨t.text.toArray⟩, .slice a1 t.kids.length cap1, .int .i64 t.pos] 24 (0, 0)) := by rw [hW0]; exact heap_alloc_keep (heap_alloc_at hB _) _
 have g1 : W0.heap[B + 1]? = some (.cells #[.int .i64 0, .string ⟨#[]⟩, .slice none 0 0, .int .i64 0] 24 (0, 0)) := by rw [hW0]; exact heap_alloc_at (by rw [hB]; simp) _
 refine (CC.out W0 X0).mono ?_
 rintro e W1 ⟨rfl, X1⟩
 have g0 := X1.heap g0 fun h => h
 have g1 := X1.heap g1 fun h => h
 have G0 := hid g0
 have G1 := hid g1
 have f0 := free_at g0 1
 have c0 := cell_at g0 0
 have c1 := cell_at g0 1
 have c2 := cell_at g0 2
 have c3 := cell_at g0 3
 have k0 := free_at g1 0
 have k1 := free_at g1 1
 have k2 := free_at g1 2
 have k3 := free_at g1 3
 have e0 := cell_at g1 0
 have e1 := cell_at g1 1
 have e2 := cell_at g1 2
 have e3 := cell_at g1 3
 simp only [List.getElem?_toArray, List.getElem?_cons_zero, List.getElem?_cons_succ] at c0 c1 c2 c3 e0 e1 e2 e3
 have X1 := hid (X0.trans X1)
 have hlt := heap_lt g1
 have HBe := hid hB
 clear g0 g1 hW0 hB X0
 cases b with
 | false =>
  go_wp2_with fail
  refine ret_nd rfl rfl (set4n G1.out _ _ _ _) rfl ?_
  have e : r = Nd.mk 37 [] [] 0 := HR.out
  rw [e]
  exact ⟨_, rfl, ⟨_, rfl, IsSl.nil _ _ _ _⟩, X1.out.set4 (b := B + 1) (.inr (by rw [HBe.out]; omega)) _ _ _ _⟩
 | true =>
  go_wp2_with fail
  refine ret_nd rfl rfl (set4n (heap_setCell_other G1.out (p := ⟨B, 1, none⟩) (by simp) _) _ _ _ _) rfl ?_
  have e : r = Nd.mk t.kind [] t.kids t.pos := HR.out
  rw [e]
  have XX : Ext none' w (((((W1.setCell ⟨B, 1, none⟩ (.string ⟨#[]⟩)).setCell ⟨B + 1, 0, none⟩ (.int .i64 t.kind)).setCell ⟨B + 1, 1, none⟩ (.string ⟨#[]⟩)).setCell ⟨B + 1, 2, none⟩ (.slice a1 t.kids.length cap1)).setCell ⟨B + 1, 3, none⟩ (.int .i64 t.pos)) :=
   (X1.out.setCell (p := ⟨B, 1, none⟩) (.inr (by simp only; rw [HBe.out]; exact Nat.le_refl _)) _).set4 (b := B + 1) (.inr (by rw [HBe.out]; omega)) _ _ _ _
  exact ⟨_, rfl, ⟨_, rfl, HX.out.ext isNd_good XX fun _ _ h => h⟩, XX⟩
structure OfRel (ps : List (Nd → Bool)) (ts : List Nd) (B : Nat) (cs : Array Value) (w wr : World) (i : Nat) : Prop where
 x : Ext none' w wr
 g : wr.heap[B]? = some (.cells cs 24 (0, 0))
 yes : ∀ (j : Nat) (h1 : j < ps.length) (h2 : j < ts.length), j < i → ps[j] ts[j] = true
theorem of_any (f : Nat) (k : Int) (ps : List (Nd → Bool)) (t : Nd) (v u : Value) (w : World) (hl : t.kids.length ≤ bigD) (hps : ps.length ≤ 1000) (hf : ∀ (i : Nat) (hi : i < t.kids.length), t.kids[i].size ≤ f) (hv : NdV none' w t v) (hu : AsksV f ps w u) :
  Calls Tryz.prog 136 #[v, .int .i64 k, u] w (BoolP (ofB k ps t) w) := by
 have HU := hid hu
 obtain ⟨x, rfl, hx⟩ := hv
 have HX := hid hx
 obtain ⟨a1, cap1, rfl, _⟩ := hx
 obtain ⟨a2, cap2, rfl, _⟩ := hu
 obtain ⟨r, hr⟩ : ∃ r, r = ofB k ps t := ⟨_, rfl⟩
 rw [← hr]
 unfold ofB at hr
 have HF := hid hf
 unfold bigD at hl
 cases t with
 | mk tk tn l tp =>
 simp only [Nd.kind, Nd.text, Nd.kids, Nd.pos] at hr HX HF hl ⊢
 clear hf
 by_cases hk : tk = k
 · have q1 : (tk != k) = false := by simpa using hk
   have q1' : (tk == k) = true := by simpa using hk
   rw [q1'] at hr
   by_cases hn : tn = []
   · have q2 : (tn == []) = true := by simpa using hn
     rw [q2] at hr
     by_cases hlen : l.length = ps.length
     · have q3 : ((l.length : Int) != (ps.length : Int)) = false := by simp only [bne_eq_false_iff_eq]; omega
       have HR := hid hr
       have HL := hid hlen
       have X1 : Ext none' w (w.alloc (.cells #[.int .i64 tk, .string ⟨tn.toArray⟩, .slice a1 l.length cap1, .int .i64 tp] 24)) := (Ext.refl _ _).alloc _
       have GA := hid (heap_alloc_at (w := w) rfl (.cells #[.int .i64 tk, .string ⟨tn.toArray⟩, .slice a1 l.length cap1, .int .i64 tp] 24))
       have HX1 := hid X1
       have hpl : ps.length ≤ 1000 := hps
       clear hk hr hlen X1 q1'
       have q2' : (tn != []) = false := by simpa using hn
       clear hn
       go_enter Tryz.func136, Tryz.ntmps136
       go_wp2_with fail
       go_loopw [7, 8, 28] (fun _ _ z wr => ∃ (i : Nat), z = .int .i64 (i : Nat) ∧ i ≤ ps.length ∧ Hid (OfRel ps l w.heap.size #[.int .i64 tk, .string ⟨tn.toArray⟩, .slice a1 l.length cap1, .int .i64 tp] w wr i)) (fun _ _ z _ => ps.length - (RowKit.intOf z).toNat)
       case atStart => exact ⟨0, rfl, by omega, hid ⟨HX1.out, GA.out, fun j _ _ h => by omega⟩⟩
       case round =>
        obtain ⟨i, rfl, hle, R⟩ := hrel
        by_cases hi : i < ps.length
        · have hi2 : i < l.length := by have := HL.out; omega
          have hz : (i : Int) < (l.length : Int) := by omega
          obtain ⟨a2', cap2', e2, hu2⟩ := HU.out.ext R.out.x
          injection e2 with e2 _ e3
          subst e2 e3
          obtain ⟨b, off, u, rfl, _, hcu, hask⟩ := hu2 i hi
          obtain ⟨fn, caps, rfl, hfn, hst⟩ := hask
          have HN := HX.out.ext isNd_good R.out.x fun _ _ h => h
          obtain ⟨b3, off3, cs, rfl, _, _, hcc, hty⟩ := HN.at i hi2
          obtain ⟨y, rfl, hy⟩ := hty.parts
          have k0 := hcc 0 _ rfl
          have k1 := hcc 1 _ rfl
          have k2 := hcc 2 _ rfl
          have k3 := hcc 3 _ rfl
          simp only [Nat.add_zero] at k0
          have HY := hid hy
          obtain ⟨a4, cap4, rfl, _⟩ := hy
          have c2 := cell_at R.out.g 2
          simp only [List.getElem?_toArray, List.getElem?_cons_zero, List.getElem?_cons_succ] at c2
          obtain ⟨q, hq⟩ : ∃ q, ps[i] l[i] = q := ⟨_, rfl⟩
          have C2 : Hid (Calls Tryz.prog fn (#[.agg #[.int .i64 l[i].kind, .string ⟨l[i].text.toArray⟩, .slice a4 l[i].kids.length cap4, .int .i64 l[i].pos]] ++ caps) wr (BoolP q wr)) := hid (by rw [← hq]; exact hst _ (HF.out i hi2) wr _ (Ext.refl _ _) ⟨_, rfl, HY.out⟩)
          have HQ := hid hq
          clear hst hcc hty hq HN hu2
          go_wp2_with fail
          refine C2.out.mono ?_
          rintro e w2 ⟨rfl, X2⟩
          have HX2 := hid X2
          clear X2
          cases q with
          | true =>
           have N : Hid (OfRel ps l w.heap.size #[.int .i64 tk, .string ⟨tn.toArray⟩, .slice (some ⟨b3, off3, none⟩) l.length cap1, .int .i64 tp] w w2 (i + 1)) := hid ⟨R.out.x.trans HX2.out, HX2.out.heap R.out.g fun h => h, fun j h1 h2 hj => by
            by_cases e : j = i
            · subst e; exact HQ.out
            · exact R.out.yes j h1 h2 (by omega)⟩
           go_wp2_with fail
           go_roundw
           case rel => exact ⟨i + 1, by go_num, by omega, N⟩
           case measure => simp [RowKit.intOf]; omega
          | false =>
           have E : Hid (r = false) := hid (by rw [HR.out, kidsB_at hi hi2 HQ.out]; rfl)
           go_wp2_with fail
           go_ret
           exact ⟨by rw [E.out]; rfl, R.out.x.trans HX2.out⟩
        · have E : Hid (r = true) := hid (by rw [HR.out, kidsB_all HL.out fun j h1 h2 => R.out.yes j h1 h2 (by omega)]; rfl)
          obtain rfl : i = ps.length := by omega
          go_wp2_with fail
          go_ret
          exact ⟨by rw [E.out]; rfl, R.out.x⟩
     · have q3 : ((l.length : Int) != (ps.length : Int)) = true := by simp only [bne_iff_ne, ne_eq]; omega
       rw [kidsB_no hlen] at hr
       have HR := hid hr
       have q2' : (tn != []) = false := by simpa using hn
       clear hr hlen hk q1' q2 hn
       go_enter Tryz.func136, Tryz.ntmps136
       go_wp2_with fail
       all_goals
        go_ret
        exact ⟨by rw [HR.out]; rfl, (Ext.refl _ _).alloc _⟩
   · have q2 : (tn == []) = false := by simpa using hn
     rw [q2] at hr
     have HR := hid hr
     have q2' : (tn != []) = true := by simpa using hn
     have q2i : tn.isEmpty = false := by simpa using hn
     clear hr hk q1' hn
     go_enter Tryz.func136, Tryz.ntmps136
     go_wp2_with fail
     all_goals
      go_ret
      exact ⟨by rw [HR.out]; rfl, (Ext.refl _ _).alloc _⟩
 · have q1 : (tk != k) = true := by simpa using hk
   have q1' : (tk == k) = false := by simpa using hk
   rw [q1'] at hr
   have HR := hid hr
   clear hr hk
   go_enter Tryz.func136, Tryz.ntmps136
   go_wp2_with fail
   go_ret
   exact ⟨by rw [HR.out]; rfl, (Ext.refl _ _).alloc _⟩
theorem list_any (f : Nat) (p : Nd → Bool) (t : Nd) (v u : Value) (w : World) (hl : t.kids.length ≤ bigD) (hf : ∀ (i : Nat) (hi : i < t.kids.length), t.kids[i].size ≤ f) (hv : NdV none' w t v) (hu : AskV f p w u) :
  Calls Tryz.prog 177 #[v, u] w (BoolP (listB p t) w) := by
 obtain ⟨x, rfl, hx⟩ := hv
 have CA := hid fun W (X : Ext none' w W) => all_any p t.kids f x u W hl (hx.ext isNd_good X fun _ _ h => h) hf (hu.ext X)
 obtain ⟨a1, cap1, rfl, _⟩ := hx
 obtain ⟨fn, caps, rfl, _⟩ := hu
 obtain ⟨r, hr⟩ : ∃ r, r = listB p t := ⟨_, rfl⟩
 rw [← hr]
 unfold listB at hr
 obtain ⟨q, hq⟩ : ∃ q, t.kids.all p = q := ⟨_, rfl⟩
 rw [hq] at CA hr
 obtain ⟨q1, hq1⟩ : ∃ q, (t.kind == 6) = q := ⟨_, rfl⟩
 obtain ⟨q2, hq2⟩ : ∃ q, (t.text == []) = q := ⟨_, rfl⟩
 rw [hq1, hq2] at hr
 have HR := hid hr
 clear hr hq hf hl
 cases q1 with
 | false =>
  go_enter Tryz.func177, Tryz.ntmps177
  go_wp2_with fail
  go_ret
  exact ⟨by rw [HR.out]; rfl, (Ext.refl _ _).alloc _⟩
 | true =>
  cases q2 with
  | false =>
   go_enter Tryz.func177, Tryz.ntmps177
   go_wp2_with fail
   go_ret
   exact ⟨by rw [HR.out]; rfl, (Ext.refl _ _).alloc _⟩
  | true =>
   go_enter Tryz.func177, Tryz.ntmps177
   go_wp2_with fail
   refine (CA.out _ ((Ext.refl _ _).alloc _)).mono ?_
   rintro e w1 ⟨rfl, X1⟩
   have X1 := hid (((Ext.refl none' w).alloc _).trans X1)
   go_wp2_with fail
   go_ret
   exact ⟨by rw [HR.out]; cases q <;> rfl, X1.out⟩
end Go.Proofs.YthbmjamgidfneaaGreatDoor
