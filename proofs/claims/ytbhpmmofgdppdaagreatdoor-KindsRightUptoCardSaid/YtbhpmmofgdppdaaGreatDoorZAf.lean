import Derived.Test.YtbhpmmofgdppdaaGreatDoorZAb
import Derived.Test.YtbhpmmofgdppdaaGreatDoorZAc
import Derived.Test.YtbhpmmofgdppdaaGreatDoorZAe
import Derived.Test.YtbhpmmofgdppdaaGreatDoorZAd
/-
  A region that draws its order: plain operations first in the text's order, then the others in each order that their edges leave (a tree of at most two ways at a time).
-/
namespace Go.Proofs.YtbhpmmofgdppdaaGreatDoor
open Go.RowKit Go.Lib
inductive Br where
  | fin
  | one (i : Nat) (b : Bool) (r : Br)
  | two (i : Nat) (b : Bool) (r : Br) (j : Nat) (c : Bool) (q : Br)
def Br.depth : Br → Nat
  | .fin => 0
  | .one _ _ r => r.depth + 1
  | .two _ _ r _ _ _ => r.depth + 1
def Br.early : Br → List Nat
  | .fin => []
  | .one i b r => (if b then [] else [i]) ++ r.early
  | .two i b r j c q => (if b then [] else [i]) ++ (r.early ++ ((if c then [] else [j]) ++ q.early))
section
variable {P : Program} {ops : Array Oper} {Q : Exit → Act → World → Prop} {md : Region.Mode} {S : World → Prop} {E : Nat → Bool}
def stepT (P : Program) (l : List Oper) (Q : Exit → Act → World → Prop) (S : World → Prop) (i : Nat) (b : Bool) (K : Act → World → Prop) (a : Act) (w : World) : Prop :=
  wpList P l.toArray (Exit.then (fun a' w' => match b with | true => S w' ∧ K a' w' | false => K a' w') Q) (sel l [i]) a w
def wpTree (P : Program) (l : List Oper) (Q : Exit → Act → World → Prop) (S : World → Prop) : Br → Act → World → Prop
  | .fin, a, w => Q .normal a w
  | .one i b r, a, w => stepT P l Q S i b (wpTree P l Q S r) a w
  | .two i b r j c q, a, w => stepT P l Q S i b (wpTree P l Q S r) a w ∧ stepT P l Q S j c (wpTree P l Q S q) a w
def treeB (md : Region.Mode) (ops : Array Oper) : Br → Array Bool → Bool
  | .fin, listed => (Region.ready md ops listed).isEmpty
  | .one i _ r, listed => (Region.ready md ops listed) == [i] && treeB md ops r (listed.setIfInBounds i true)
  | .two i _ r j _ q, listed => (Region.ready md ops listed) == [i, j] && treeB md ops r (listed.setIfInBounds i true) && treeB md ops q (listed.setIfInBounds j true) && r.depth == q.depth
theorem stepT_op (l : List Oper) (hl : l.toArray = ops) {listed : Array Bool} {a : Act} {w : World} {i : Nat} {b : Bool} {K : Act → World → Prop} {fuel : Nat} (hm : i ∈ Region.ready md ops listed) (he : b = false → E i = false)
    (hK : ∀ a' w', K a' w' → wpAnyE P md ops Q S E fuel (listed.setIfInBounds i true) a' w') (h : stepT P l Q S i b K a w) : wpOp P ops Q i (fun a' w' => (E i = true → S w') ∧ wpAnyE P md ops Q S E fuel (listed.setIfInBounds i true) a' w') a w := by
  obtain ⟨_, oi, hoi, _⟩ := mem_ready.1 hm
  have hli : l[i]? = some oi := by rw [← hl] at hoi; simpa using hoi
  simp only [stepT, sel, hli, hl, wpList] at h
  have hnext : ∀ a' w', (match b with | true => S w' ∧ K a' w' | false => K a' w') → (E i = true → S w') ∧ wpAnyE P md ops Q S E fuel (listed.setIfInBounds i true) a' w' := by
    intro a' w' hx
    cases b with
    | true => exact ⟨fun _ => hx.1, hK _ _ hx.2⟩
    | false => exact ⟨fun hE => (by rw [he rfl] at hE; cases hE), hK _ _ hx⟩
  unfold wpOp
  simp only [hoi]
  split at h
  · rename_i hw
    rw [if_pos hw]
    refine h.imp (fun h => wp_exits (fun a' w' hx => hnext a' w' hx) (fun c a w hx => hx) (fun ⟨a, w, hx⟩ => ⟨a, w, hx⟩) h) (fun ⟨h1, a, w, hx⟩ => ⟨h1, a, w, hx⟩)
  · rename_i hw
    rw [if_neg hw]
    exact hnext _ _ h
theorem phaseT (l : List Oper) (hl : l.toArray = ops) : ∀ (t : Br) (listed : Array Bool) (a : Act) (w : World), treeB md ops t listed = true → (∀ j ∈ t.early, E j = false) → wpTree P l Q S t a w → wpAnyE P md ops Q S E t.depth listed a w
  | .fin, listed, a, w, hc, _, h => ⟨by simpa [treeB] using hc, h⟩
  | .one i b r, listed, a, w, hc, he, h => by
    simp only [treeB, Bool.and_eq_true, beq_iff_eq] at hc
    refine ⟨fun h0 => (by rw [hc.1] at h0; cases h0), fun k hk => ?_⟩
    have hk' := hk
    rw [hc.1, List.mem_singleton] at hk'
    subst hk'
    exact stepT_op l hl hk (fun hb => he _ (by simp [Br.early, hb])) (fun a' w' h' => phaseT l hl r _ a' w' hc.2 (fun j hj => he j (by simp [Br.early, hj])) h') h
  | .two i b r j c q, listed, a, w, hc, he, h => by
    simp only [treeB, Bool.and_eq_true, beq_iff_eq] at hc
    obtain ⟨⟨⟨h1, h2⟩, h3⟩, h4⟩ := hc
    refine ⟨fun h0 => (by rw [h1] at h0; cases h0), fun k hk => ?_⟩
    have hk' := hk
    rw [h1] at hk'
    simp only [List.mem_cons, List.mem_nil_iff, or_false] at hk'
    rcases hk' with rfl | rfl
    · exact stepT_op l hl hk (fun hb => he _ (by simp [Br.early, hb])) (fun a' w' h' => phaseT l hl r _ a' w' h2 (fun j hj => he j (by simp [Br.early, hj])) h') h.1
    · refine stepT_op l hl hk (fun hb => he _ (by simp [Br.early, hb])) (fun a' w' h' => ?_) h.2
      have := phaseT l hl q _ a' w' h3 (fun j hj => he j (by simp [Br.early, hj])) h'
      rw [← h4] at this
      exact this
/-- All that is checked of a region by running it. -/
def mixedTB (ops : Array Oper) (lA : List Nat) (t : Br) : Bool :=
  Region.noSelect ops && readyA .any ops lA (Array.replicate ops.size false) && treeB .any ops t (listedA lA (Array.replicate ops.size false)) &&
  (lA.all fun i => (List.range ops.size).all fun j => !t.early.contains j || waitsB .any ops ops.size j i) && lA.length + t.depth == ops.size
theorem region_tree {id : Nat} {a : Act} {w : World} {l : List Oper} (F : Nat → Prop) (w0 : World) (lA : List Nat) (t : Br) (hm : P.follows .mixedOrders = true) (hB : mixedTB l.toArray lA t = true)
    (hQ : ∀ (dst : Option Tmp) v c a w, Q (.panic c) (a.put dst v) w → Q (.panic c) a w) (hC : Ext F w0 w)
    (h : wpQuiet P l.toArray (fun w' => ∃ t : LaterF F w0, w' = t.w) (fun a' => wpTree P l Q (In F w0) t a' w.drew) (sel l lA) a) : (Code.region id l.toArray true).wp P Q a w := by
  simp only [mixedTB, Bool.and_eq_true, beq_iff_eq] at hB
  obtain ⟨⟨⟨⟨h1, h2⟩, h3⟩, h4⟩, h5⟩ := hB
  refine wp_region_any hm (wpAny_of_E (S := In F w0) (E := fun j => !t.early.contains j) _ _ _ _ ?_)
  rw [← h5] at h2 h3
  rw [← h5]
  refine phaseA l rfl h1 hQ (In.of hC.drew) _ t.depth lA _ a h2 ?_ ?_ h ?_
  · exact h4
  · intro k ok hk hl
    rw [getD_replicate] at hl
    cases hl
  · intro a' h'
    exact phaseT l rfl t _ a' _ h3 (fun j hj => by simp [hj]) h'
end
end Go.Proofs.YtbhpmmofgdppdaaGreatDoor
/-
  A region that draws its order: as XRegionT, and plain operations may stand behind others (a node of the tree that runs them in the text's order).
-/
namespace Go.Proofs.YtbhpmmofgdppdaaGreatDoor
open Go.RowKit Go.Lib
inductive Bq where
  | fin
  | one (i : Nat) (b : Bool) (r : Bq)
  | two (i : Nat) (b : Bool) (r : Bq) (j : Nat) (c : Bool) (q : Bq)
  | qs (l : List Nat) (r : Bq)
def Bq.depth : Bq → Nat
  | .fin => 0
  | .one _ _ r => r.depth + 1
  | .two _ _ r _ _ _ => r.depth + 1
  | .qs l r => l.length + r.depth
def Bq.early : Bq → List Nat
  | .fin => []
  | .one i b r => (if b then [] else [i]) ++ r.early
  | .two i b r j c q => (if b then [] else [i]) ++ (r.early ++ ((if c then [] else [j]) ++ q.early))
  | .qs _ r => r.early
section
variable {P : Program} {ops : Array Oper} {Q : Exit → Act → World → Prop} {md : Region.Mode} {S : World → Prop} {E : Nat → Bool}
def wpTreeQ (P : Program) (l : List Oper) (Q : Exit → Act → World → Prop) (S : World → Prop) : Bq → Act → World → Prop
  | .fin, a, w => Q .normal a w
  | .one i b r, a, w => stepT P l Q S i b (wpTreeQ P l Q S r) a w
  | .two i b r j c q, a, w => stepT P l Q S i b (wpTreeQ P l Q S r) a w ∧ stepT P l Q S j c (wpTreeQ P l Q S q) a w
  | .qs lq r, a, w => S w ∧ wpQuiet P l.toArray S (fun a' => wpTreeQ P l Q S r a' w) (sel l lq) a
def treeQB (md : Region.Mode) (ops : Array Oper) (E : Nat → Bool) : Bq → Array Bool → Bool
  | .fin, listed => (Region.ready md ops listed).isEmpty
  | .one i _ r, listed => (Region.ready md ops listed) == [i] && treeQB md ops E r (listed.setIfInBounds i true)
  | .two i _ r j _ q, listed => (Region.ready md ops listed) == [i, j] && treeQB md ops E r (listed.setIfInBounds i true) && treeQB md ops E q (listed.setIfInBounds j true) && r.depth == q.depth
  | .qs lq r, listed => readyA md ops lq listed && (lq.all fun i => (List.range ops.size).all fun j => E j || waitsB md ops ops.size j i) && treeQB md ops E r (listedA lq listed)
theorem down_listed : ∀ (lA : List Nat) (listed : Array Bool), readyA md ops lA listed = true → Down md ops listed → Down md ops (listedA lA listed)
  | [], _, _, h => h
  | i :: r, listed, hr, h => by
    simp only [readyA, Bool.and_eq_true, List.contains_eq_mem, decide_eq_true_eq] at hr
    exact down_listed r _ hr.2 (h.step hr.1.1.1)
theorem phaseQ (l : List Oper) (hl : l.toArray = ops) (hs : Region.noSelect ops = true) (hQ : ∀ (dst : Option Tmp) v c a w, Q (.panic c) (a.put dst v) w → Q (.panic c) a w) : ∀ (t : Bq) (listed : Array Bool) (a : Act) (w : World), treeQB md ops E t listed = true → (∀ j ∈ t.early, E j = false) → Down md ops listed → wpTreeQ P l Q S t a w → wpAnyE P md ops Q S E t.depth listed a w
  | .fin, listed, a, w, hc, _, _, h => ⟨by simpa [treeQB] using hc, h⟩
  | .one i b r, listed, a, w, hc, he, hd, h => by
    simp only [treeQB, Bool.and_eq_true, beq_iff_eq] at hc
    refine ⟨fun h0 => (by rw [hc.1] at h0; cases h0), fun k hk => ?_⟩
    have hk' := hk
    rw [hc.1, List.mem_singleton] at hk'
    subst hk'
    exact stepT_op l hl hk (fun hb => he _ (by simp [Bq.early, hb])) (fun a' w' h' => phaseQ l hl hs hQ r _ a' w' hc.2 (fun j hj => he j (by simp [Bq.early, hj])) (hd.step hk) h') h
  | .two i b r j c q, listed, a, w, hc, he, hd, h => by
    simp only [treeQB, Bool.and_eq_true, beq_iff_eq] at hc
    obtain ⟨⟨⟨h1, h2⟩, h3⟩, h4⟩ := hc
    refine ⟨fun h0 => (by rw [h1] at h0; cases h0), fun k hk => ?_⟩
    have hk' := hk
    rw [h1] at hk'
    simp only [List.mem_cons, List.mem_nil_iff, or_false] at hk'
    rcases hk' with rfl | rfl
    · exact stepT_op l hl hk (fun hb => he _ (by simp [Bq.early, hb])) (fun a' w' h' => phaseQ l hl hs hQ r _ a' w' h2 (fun j hj => he j (by simp [Bq.early, hj])) (hd.step hk) h') h.1
    · refine stepT_op l hl hk (fun hb => he _ (by simp [Bq.early, hb])) (fun a' w' h' => ?_) h.2
      have := phaseQ l hl hs hQ q _ a' w' h3 (fun j hj => he j (by simp [Bq.early, hj])) (hd.step hk) h'
      rw [← h4] at this
      exact this
  | .qs lq r, listed, a, w, hc, he, hd, h => by
    simp only [treeQB, Bool.and_eq_true] at hc
    obtain ⟨⟨h1, h2⟩, h3⟩ := hc
    simp only [wpTreeQ] at h
    refine phaseA l hl hs hQ h.1 _ r.depth lq _ a h1 h2 hd (by rw [hl] at h; exact h.2) ?_
    intro a' h'
    exact phaseQ l hl hs hQ r _ a' w h3 (fun j hj => he j (by simpa [Bq.early] using hj)) (down_listed lq _ h1 hd) h'
/-- All that is checked of a region by running it. -/
def mixedQB (ops : Array Oper) (t : Bq) : Bool :=
  Region.noSelect ops && treeQB .any ops (fun j => !t.early.contains j) t (Array.replicate ops.size false) && t.depth == ops.size
theorem region_q {id : Nat} {a : Act} {w : World} {l : List Oper} (F : Nat → Prop) (w0 : World) (t : Bq) (hm : P.follows .mixedOrders = true) (hB : mixedQB l.toArray t = true)
    (hQ : ∀ (dst : Option Tmp) v c a w, Q (.panic c) (a.put dst v) w → Q (.panic c) a w)
    (h : wpTreeQ P l Q (In F w0) t a w.drew) : (Code.region id l.toArray true).wp P Q a w := by
  simp only [mixedQB, Bool.and_eq_true, beq_iff_eq] at hB
  obtain ⟨⟨h1, h2⟩, h3⟩ := hB
  refine wp_region_any hm (wpAny_of_E (S := In F w0) (E := fun j => !t.early.contains j) _ _ _ _ ?_)
  rw [← h3] at h2 ⊢
  refine phaseQ l rfl h1 hQ t _ a _ h2 (fun j hj => by simp [hj]) ?_ h
  intro k ok hk hl
  rw [getD_replicate] at hl
  cases hl
end
end Go.Proofs.YtbhpmmofgdppdaaGreatDoor
/-
  tree: questions that are handed on as function values; all, of, named, list, or, empty.
-/
namespace Go.Proofs.YtbhpmmofgdppdaaGreatDoor
open Go.RowKit Go.Lib Go.BigFrame
/-- A function value that tells of nodes up to a size whether they are so. -/
def AskV (f : Nat) (p : Nd → Bool) (w : World) (v : Value) : Prop :=
  ∃ fn caps, v = .func (.func fn) #[] caps ∧ (∀ args w, (callFunc fn args).run Tryz.prog w = .ok (.enter fn args) w) ∧
    ∀ (t : Nd), t.size ≤ f → ∀ (W : World) (x : Value), Ext none' w W → NdV none' W t x → Calls Tryz.prog fn (#[x] ++ caps) W (BoolP (p t) W)
theorem AskV.ext {f : Nat} {p : Nd → Bool} {w w' : World} {v : Value} (h : AskV f p w v) (x : Ext none' w w') : AskV f p w' v := by
  obtain ⟨fn, caps, rfl, hfn, h⟩ := h
  exact ⟨fn, caps, rfl, hfn, fun t ht W y X hy => h t ht W y (x.trans X) hy⟩
/-- A function value that tells of texts whether they are so. -/
def SoV (so : List UInt8 → Bool) (w : World) (v : Value) : Prop :=
  ∃ fn caps, v = .func (.func fn) #[] caps ∧ (∀ args w, (callFunc fn args).run Tryz.prog w = .ok (.enter fn args) w) ∧
    ∀ (s : List UInt8) (W : World), Ext none' w W → Calls Tryz.prog fn (#[.string ⟨s.toArray⟩] ++ caps) W (BoolP (so s) W)
theorem SoV.ext {so : List UInt8 → Bool} {w w' : World} {v : Value} (h : SoV so w v) (x : Ext none' w w') : SoV so w' v := by
  obtain ⟨fn, caps, rfl, hfn, h⟩ := h
  exact ⟨fn, caps, rfl, hfn, fun s W X => h s W (x.trans X)⟩
/-- A row of questions. -/
def AsksV (f : Nat) (ps : List (Nd → Bool)) (w : World) (v : Value) : Prop :=
  ∃ a cap, v = .slice a ps.length cap ∧ ∀ (i : Nat) (h : i < ps.length), ∃ b off u, a = some ⟨b, off, none⟩ ∧ b < w.heap.size ∧ w.cell? ⟨b, off + i, none⟩ = some u ∧ AskV f ps[i] w u
theorem AsksV.ext {f : Nat} {ps : List (Nd → Bool)} {w w' : World} {v : Value} (h : AsksV f ps w v) (x : Ext none' w w') : AsksV f ps w' v := by
  obtain ⟨a, cap, rfl, h⟩ := h
  refine ⟨a, cap, rfl, fun i hi => ?_⟩
  obtain ⟨b, off, u, rfl, hb, hc, hu⟩ := h i hi
  exact ⟨b, off, u, rfl, Nat.lt_of_lt_of_le hb x.size, (x.cell (p := ⟨b, off + i, none⟩) hb fun h => h).trans hc, hu.ext x⟩
theorem AsksV.none {f : Nat} {w : World} : AsksV f [] w (.slice none 0 0) := ⟨.none, 0, rfl, fun i h => by simp at h⟩
theorem AsksV.lit1 {f : Nat} {p : Nd → Bool} {w : World} {B : Nat} {u : Value} {t : TypeId} {fz : Nat × Nat} (h : w.heap[B]? = some (.cells #[u] t fz)) (hu : AskV f p w u) : AsksV f [p] w (.slice (some ⟨B, 0, Option.none⟩) 1 1) :=
  ⟨_, 1, rfl, fun i hi => by
    have : i < 1 := hi
    obtain rfl : i = 0 := by omega
    exact ⟨B, 0, u, rfl, heap_lt h, cell_at h 0, hu⟩⟩
theorem AsksV.lit2 {f : Nat} {p q : Nd → Bool} {w : World} {B : Nat} {u v : Value} {t : TypeId} {fz : Nat × Nat} (h : w.heap[B]? = some (.cells #[u, v] t fz)) (hu : AskV f p w u) (hv : AskV f q w v) : AsksV f [p, q] w (.slice (some ⟨B, 0, Option.none⟩) 2 2) :=
  ⟨_, 2, rfl, fun i hi => by
    have : i < 2 := hi
    have hi : i = 0 ∨ i = 1 := by omega
    rcases hi with rfl | rfl
    · exact ⟨B, 0, u, rfl, heap_lt h, cell_at h 0, hu⟩
    · exact ⟨B, 0, v, rfl, heap_lt h, cell_at h 1, hv⟩⟩
theorem NdV.kids {t : Nd} {w : World} {i : Nat} {a : Option Addr} {n cap : Nat} (h : IsSl 4 IsNd none' w (.slice a n cap) t.kids) (hi : i < t.kids.length) :
    ∃ b off x, a = some ⟨b, off, none⟩ ∧ w.cell? ⟨b, off + i * 4, none⟩ = some (.int .i64 t.kids[i].kind) ∧ w.cell? ⟨b, off + i * 4 + 1, none⟩ = some (.string ⟨t.kids[i].text.toArray⟩) ∧ w.cell? ⟨b, off + i * 4 + 2, none⟩ = some x ∧ w.cell? ⟨b, off + i * 4 + 3, none⟩ = some (.int .i64 t.kids[i].pos) ∧ IsSl 4 IsNd none' w x t.kids[i].kids := by
  obtain ⟨b, off, cs, rfl, _, _, hcc, hty⟩ := h.at i hi
  obtain ⟨x, rfl, hx⟩ := hty.parts
  exact ⟨b, off, x, rfl, by simpa using hcc 0 _ rfl, by simpa using hcc 1 _ rfl, by simpa using hcc 2 _ rfl, by simpa using hcc 3 _ rfl, hx⟩
theorem any_fst {α : Type} (p : α → Bool) (l : List α) : decide (0 ≤ fstI p l) = l.any p := by
  rcases fstI_cases p l with ⟨e, h⟩ | ⟨i, hi, e, h⟩
  · rw [e]
    have : l.any p = false := by rw [List.any_eq_false]; intro x hx; rw [h x hx]; simp
    rw [this]; rfl
  · rw [e]
    have : l.any p = true := List.any_eq_true.2 ⟨_, List.getElem_mem hi, h⟩
    rw [this]; simp
set_option maxRecDepth 100000 in
set_option maxHeartbeats 1600000 in
theorem ind_any (p : Nd → Bool) (l : List Nd) (f : Nat) (v u : Value) (w : World) (hl : l.length ≤ bigD) (hv : IsSl 4 IsNd none' w v l) (hf : ∀ (i : Nat) (hi : i < l.length), l[i].size ≤ f) (hu : AskV f p w u) :
    Calls Tryz.prog 80 #[v, u] w (IntP (fstI p l) w) := by
  obtain ⟨q, hq⟩ : ∃ q, q = fstI p l := ⟨_, rfl⟩
  rw [← hq]
  have HQ := hid hq
  have HV := hid hv
  obtain ⟨fn, caps, rfl, hfn, hst⟩ := hu
  have HST := hid hst
  have HF := hid hf
  obtain ⟨a, cap, rfl, hc, hn, _⟩ := hv
  unfold bigD at hl
  clear hn hst hq hf
  go_enter Tryz.func80, Tryz.ntmps80
  go_wp2_with fail
  go_loopw [5, 8] (fun _ z wr => ∃ (i : Nat), z = .int .i64 (i : Nat) ∧ i ≤ l.length ∧ Hid (Ext none' w wr ∧ ∀ j (h : j < l.length), j < i → p l[j] = false)) (fun _ z _ => l.length - (RowKit.intOf z).toNat)
  case atStart => exact ⟨0, rfl, by omega, hid ⟨Ext.refl _ _, fun j _ h => by omega⟩⟩
  case round =>
    obtain ⟨i, rfl, hle, R⟩ := hrel
    by_cases hi : i < l.length
    · obtain ⟨b, off, cs, rfl, hAb, hbw, hcc, hty⟩ := (HV.out.ext isNd_good R.out.1 fun _ _ h => h.elim).at i hi
      obtain ⟨x, rfl, hx⟩ := hty.parts
      have c0 := hcc 0 _ rfl
      have c1 := hcc 1 _ rfl
      have c2 := hcc 2 _ rfl
      have c3 := hcc 3 _ rfl
      simp only [Nat.add_zero] at c0
      have HX := hid hx
      obtain ⟨a1, cap1, rfl, _⟩ := hx
      have HR := hid R.out
      obtain ⟨bb, hbb⟩ : ∃ bb, p l[i] = bb := ⟨_, rfl⟩
      have HBB := hid hbb
      have C2 : Hid (Calls Tryz.prog fn (#[.agg #[.int .i64 l[i].kind, .string ⟨l[i].text.toArray⟩, .slice a1 l[i].kids.length cap1, .int .i64 l[i].pos]] ++ caps) wr (BoolP bb wr)) := hid (by rw [← hbb]; exact HST.out _ (HF.out i hi) wr _ R.out.1 ⟨_, rfl, HX.out⟩)
      clear hbb R hcc hty
      go_wp2_with fail
      refine C2.out.mono ?_
      rintro e w2 ⟨rfl, X2⟩
      have HX2 := hid (HR.out.1.trans X2)
      clear X2
      cases bb with
      | true =>
        have E : Hid (q = (i : Nat)) := hid (by rw [HQ.out]; exact fstI_at hi HBB.out HR.out.2)
        go_wp2_with fail
        go_ret
        exact ⟨by rw [E.out]; rfl, HX2.out⟩
      | false =>
        go_wp2_with fail
        go_roundw
        case rel => exact ⟨i + 1, by go_num, by omega, hid ⟨HX2.out, fun j hj hji => by
            by_cases q : j = i
            · subst q; exact HBB.out
            · exact HR.out.2 j hj (by omega)⟩⟩
        case measure => simp [RowKit.intOf]; omega
    · obtain rfl : i = l.length := by omega
      have E : Hid (q = -1) := hid (by rw [HQ.out]; exact fstI_none fun j hj => R.out.2 j hj hj)
      have HX := hid R.out.1
      clear R
      go_wp2_with fail
      go_ret
      exact ⟨by rw [E.out]; rfl, HX.out⟩
set_option maxRecDepth 100000 in
theorem con_any (p : Nd → Bool) (l : List Nd) (f : Nat) (v u : Value) (w : World) (hl : l.length ≤ bigD) (hv : IsSl 4 IsNd none' w v l) (hf : ∀ (i : Nat) (hi : i < l.length), l[i].size ≤ f) (hu : AskV f p w u) :
    Calls Tryz.prog 49 #[v, u] w (BoolP (l.any p) w) := by
  have C := hid (ind_any p l f v u w hl hv hf hu)
  obtain ⟨a, cap, rfl, _⟩ := hv
  obtain ⟨fn, caps, rfl, _⟩ := hu
  rw [← any_fst]
  obtain ⟨z, hz⟩ : ∃ z, fstI p l = z := ⟨_, rfl⟩
  rw [hz] at C ⊢
  clear hz
  go_enter Tryz.func49, Tryz.ntmps49
  go_wp2_with fail
  refine C.out.mono ?_
  rintro e w1 ⟨rfl, X1⟩
  have X1 := hid X1
  go_wp2_with fail
  go_ret
  exact ⟨rfl, X1.out⟩
set_option maxRecDepth 100000 in
theorem all1_ask (f : Nat) (p : Nd → Bool) (w : World) (u : Value) (B : Nat) (hb : w.heap[B]? = some (.cells #[u] 55 (0, 0))) (hu : AskV f p w u) : AskV f (fun t => !p t) w (.func (.func 151) #[] #[.pointer (some ⟨B, 0, none⟩)]) := by
  refine ⟨_, _, rfl, Go.Proofs.enters_of Tryz.func151 (by kernel_rfl) rfl, fun t ht W x X hx => ?_⟩
  obtain ⟨fn, caps, rfl, hfn, hst⟩ := hu
  have CC := hid fun W' (X' : Ext none' W W') => hst t ht W' x (X.trans X') (hx.ext X' fun _ _ h => h)
  obtain ⟨y, rfl, hy⟩ := hx
  obtain ⟨a1, cap1, rfl, _⟩ := hy
  have c0 := cell_at (heap_alloc_keep (X.heap hb fun h => h) (.cells #[.int .i64 t.kind, .string ⟨t.text.toArray⟩, .slice a1 t.kids.length cap1, .int .i64 t.pos] 49)) 0
  simp only [List.getElem?_toArray, List.getElem?_cons_zero] at c0
  show Calls Tryz.prog 151 #[_, _] _ (BoolP (!p t) W)
  obtain ⟨q, hq⟩ : ∃ q, p t = q := ⟨_, rfl⟩
  rw [hq] at CC ⊢
  clear hq hst hb X
  go_enter Tryz.func151, Tryz.ntmps151
  go_wp2_with fail
  refine (CC.out _ ((Ext.refl _ _).alloc _)).mono ?_
  rintro e w1 ⟨rfl, X1⟩
  have X1 := hid (((Ext.refl none' W).alloc _).trans X1)
  go_wp2_with fail
  go_ret
  exact ⟨by cases q <;> rfl, X1.out⟩
theorem all_not_any {α : Type} (p : α → Bool) (l : List α) : l.all p = !(l.any fun t => !p t) := by
  induction l with
  | nil => rfl
  | cons a r ih => simp [ih]
set_option maxRecDepth 100000 in
theorem all_any (p : Nd → Bool) (l : List Nd) (f : Nat) (v u : Value) (w : World) (hl : l.length ≤ bigD) (hv : IsSl 4 IsNd none' w v l) (hf : ∀ (i : Nat) (hi : i < l.length), l[i].size ≤ f) (hu : AskV f p w u) :
    Calls Tryz.prog 134 #[v, u] w (BoolP (l.all p) w) := by
  rw [all_not_any]
  have C := hid (con_any (fun t => !p t) l f v (.func (.func 151) #[] #[.pointer (some ⟨w.heap.size, 0, none⟩)]) (w.alloc (.cells #[u] 55)) hl (hv.ext isNd_good ((Ext.refl none' w).alloc _) fun _ _ h => h) hf (all1_ask f p _ u w.heap.size (heap_alloc_at rfl _) (hu.ext ((Ext.refl _ _).alloc _))))
  obtain ⟨a, cap, rfl, _⟩ := hv
  obtain ⟨fn, caps, rfl, _⟩ := hu
  obtain ⟨z, hz⟩ : ∃ z, (l.any fun t => !p t) = z := ⟨_, rfl⟩
  rw [hz] at C ⊢
  clear hz
  go_enter Tryz.func134, Tryz.ntmps134
  go_wp2_with fail
  refine C.out.mono ?_
  rintro e w1 ⟨rfl, X1⟩
  have X1 := hid (((Ext.refl none' w).alloc _).trans X1)
  go_wp2_with fail
  go_ret
  exact ⟨by cases z <;> rfl, X1.out⟩
end Go.Proofs.YtbhpmmofgdppdaaGreatDoor
