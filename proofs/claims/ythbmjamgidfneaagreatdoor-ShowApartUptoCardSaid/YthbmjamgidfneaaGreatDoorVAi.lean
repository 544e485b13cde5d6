import Derived.Test.YthbmjamgidfneaaGreatDoorVAb
import Derived.Test.YthbmjamgidfneaaGreatDoorVAf
import Derived.Test.YthbmjamgidfneaaGreatDoorVAh
import Derived.WideMake
import Derived.Test.YthbmjamgidfneaaGreatDoorProg
import Derived.Test.YthbmjamgidfneaaGreatDoorVAg
import Derived.Test.YthbmjamgidfneaaGreatDoorVAe
set_option maxRecDepth 100000
set_option maxHeartbeats 6400000
namespace Go.Proofs.YthbmjamgidfneaaGreatDoor
open Go.RowKit Go.Lib Go.Shelf
attribute [local go_sem] Oper.semAt_some
theorem cell_of_box_y {W : World} {B : Nat} {v : Value} {t : TypeId} (h : W.heap[B]? = some (.cells #[v] t (0, 0))) : W.cell? ⟨B, 0, none⟩ = some v ∧ W.frozen? ⟨B, 0, none⟩ = false := by
 constructor <;> simp [World.cell?, World.frozen?, h]
theorem nodes_in (F : Fence) (n : Nat) (hF : F.fn 106) (hro : F.round = none) (k : Int) (y0 y1 y2 y3 : Value) (w : World) :
  CallsIn F n Tryz.prog 106 #[.agg #[y0, y1, y2, y3], .int .i64 k] w fun e w' => e = .returned (.func (.func 158) #[] #[.pointer (some ⟨w.heap.size, 0, none⟩), .pointer (some ⟨w.heap.size + 1, 0, none⟩)]) ∧ w' = (w.alloc (.cells #[y0, y1, y2, y3] 24)).alloc (.cells #[.int .i64 k] 3) := by
 refine callsIn_of_wp Tryz.func106 rfl hF ?_ hro
 simp only [Tryz.ntmps106, List.size_toArray, List.length_cons, List.length_nil, Nat.reduceAdd, Nat.reduceSub, Array.replicate_succ, Array.replicate_zero, List.push_toArray, List.append_toArray, List.nil_append, List.cons_append]
 gi_wp2
 go_ret
 exact ⟨rfl, by simp⟩
theorem nodes1_in (F : Fence) (hd : F.depth = none) (hF : F.fn 158) (hF2 : F.fn 159) (hro : F.round = none) (n lp B bn bk : Nat) (w0 : World) (t : Nd) (hsz : t.size ≤ bigD) (k : Nat) (hk : k ≤ 101) (x : Value) (hv : IsSl 4 IsNd none' w0 x t.kids) (J Jx : List YA → World → Prop)
  (hJ : ∀ s a b, J s a → Ext none' a b → J s b)
  (hY : ∀ (pre : List YA) (x : YA) (W : World), J pre W → pre.length < (preL k t).length → YieldAt F (n - 1) Tryz.prog lp (encY x) W fun e W' => (e = .returned (.bool true) ∧ J (pre ++ [x]) W' ∧ KeepC B w0.heap.size W W') ∨ (e = .returned (.bool false) ∧ Jx (pre ++ [x]) W'))
  (W : World) (hb : Below w0.heap.size w0 W) (hB : B < W.heap.size) (h0 : J [] W)
  (gn : W.heap[bn]? = some (.cells #[.int .i64 t.kind, .string ⟨t.text.toArray⟩, x, .int .i64 t.pos] 24 (0, 0))) (gk : W.heap[bk]? = some (.cells #[.int .i64 (k : Nat)] 3 (0, 0))) :
  CallsIn F n Tryz.prog 158 #[.func (.yield lp) #[] #[], .pointer (some ⟨bn, 0, none⟩), .pointer (some ⟨bk, 0, none⟩)] W fun e W' => (∃ v, e = .returned v) ∧ ((∃ ys : List YA, ys.map (fun x => x.2.1) = preL k t ∧ J ys W') ∨ (∃ pre, True ∧ Jx pre W')) := by
 have hdd : ∀ k : Nat, (F.depth.isSome = true → 1 ≤ k) := fun k h => by rw [hd] at h; cases h
 have HV := hid hv
 obtain ⟨a0, cap0, rfl, _⟩ := hv
 have c0 := cell_at gn 0
 have c1 := cell_at gn 1
 have c2 := cell_at gn 2
 have c3 := cell_at gn 3
 have d0 := cell_at gk 0
 simp only [List.getElem?_toArray, List.getElem?_cons_zero, List.getElem?_cons_succ] at c0 c1 c2 c3 d0
 have CW := hid (walkIn F hd hF2 hro lp B (preL k t).length w0 J Jx hJ (fun m pre x W hj hl => YieldAt.anyY hd m (hY pre x W hj hl)) k hk t hsz (n - 1) _ [] W ⟨_, rfl, HV.out⟩ hb hB h0 (by simp))
 clear gn gk hY hJ h0 hb
 refine callsIn_of_wp Tryz.func158 rfl hF ?_ hro
 simp only [Tryz.ntmps158, List.size_toArray, List.length_cons, List.length_nil, Nat.reduceAdd, Nat.reduceSub, Array.replicate_succ, Array.replicate_zero, List.push_toArray, List.append_toArray, List.nil_append, List.cons_append]
 gi_wp2_with ((try refine ⟨hdd _, ?_⟩); gi_at_call 159; refine CW.out.mono ?_; clear CW; rintro e W3 (⟨rfl, q2, hq2, hj2, hk2⟩ | ⟨rfl, q, hx2⟩))
 · go_end0
   exact ⟨⟨_, rfl⟩, .inl ⟨q2, hq2, by simpa using hj2⟩⟩
 · go_end0
   exact ⟨⟨_, rfl⟩, .inr ⟨q, trivial, hx2⟩⟩
theorem nodes_stops (F : Fence) (hd : F.depth = none) (hF : F.fn 158) (hF2 : F.fn 159) (hro : F.round = none) (n B bn bk : Nat) (w0 w : World) (t : Nd) (hsz : t.size ≤ bigD) (k : Nat) (hk : k ≤ 101) (x : Value) (hv : IsSl 4 IsNd none' w0 x t.kids)
  (hb : Below w0.heap.size w0 w) (hB : B < w.heap.size)
  (gn : w.heap[bn]? = some (.cells #[.int .i64 t.kind, .string ⟨t.text.toArray⟩, x, .int .i64 t.pos] 24 (0, 0))) (gk : w.heap[bk]? = some (.cells #[.int .i64 (k : Nat)] 3 (0, 0))) :
  SeqStopsK F n Tryz.prog 158 #[.pointer (some ⟨bn, 0, none⟩), .pointer (some ⟨bk, 0, none⟩)] encY (KeepC B w0.heap.size) (fun ys => ys.map (fun x => x.2.1) = preL k t) (fun _ => True) (preL k t).length w := fun lp J Jx W hW hJ _ hY h0 =>
 nodes1_in F hd hF hF2 hro n lp B bn bk w0 t hsz k hk x hv J Jx (fun s a b h X => hJ s a b none h (ext_grown X) (fun r e => by cases e)) hY W (hb.trans (hW.mono hb.size)) (Nat.lt_of_lt_of_le hB hW.size) h0
  ((hW.block _ (heap_lt gn)).trans gn) ((hW.block _ (heap_lt gk)).trans gk)
def maxD (l : List YA) : Nat := l.foldl (fun a x => max a (102 - x.2.1)) 0
def maxN (l : List Nat) : Nat := l.foldl (fun a x => max a (102 - x)) 0
theorem maxD_map (l : List YA) : maxD l = maxN (l.map fun x => x.2.1) := by
 unfold maxD maxN
 rw [List.foldl_map]
theorem maxD_snoc (l : List YA) (x : YA) : maxD (l ++ [x]) = max (maxD l) (102 - x.2.1) := by simp [maxD]
theorem maxD_le : ∀ l : List YA, maxD l ≤ 102 := fun l => by
 have key : ∀ (l : List YA) (a : Nat), a ≤ 102 → l.foldl (fun a x => max a (102 - x.2.1)) a ≤ 102 := fun l => by
  induction l with
  | nil => intro a h; exact h
  | cons x r ih => intro a h; exact ih _ (by show max a (102 - x.2.1) ≤ 102; omega)
 exact key l 0 (by omega)
theorem maxN_le (l : List Nat) : maxN l ≤ 102 := by
 have key : ∀ (l : List Nat) (a : Nat), a ≤ 102 → l.foldl (fun a x => max a (102 - x)) a ≤ 102 := fun l => by
  induction l with
  | nil => intro a h; exact h
  | cons x r ih => intro a h; exact ih _ (by show max a (102 - x) ≤ 102; omega)
 exact key l 0 (by omega)
def depthN (t : Nd) : Nat := maxN (preL 101 t)
theorem preL_len : ∀ (k : Nat) (t : Nd), (preL k t).length = sizeD k t
 | 0, _ => rfl
 | k + 1, t => by
  rw [preL, sizeD, List.length_cons, List.length_flatten, List.map_map]
  have : (List.length ∘ preL k) = sizeD k := funext fun x => preL_len k x
  rw [this]
  omega
theorem keep_set {B n : Nat} {W : World} (hn : n ≤ B) (u : Value) : KeepC B n W (W.setCell ⟨B, 0, none⟩ u) :=
 ⟨(Below.refl n W).setCell (p := ⟨B, 0, none⟩) hn _, fun _ _ hp hv => (((Ext.refl (one B) W).set 0 u).cell (World.block_lt_of_cell? W _ hv) hp).trans hv⟩
theorem tsize_in (F : Fence) (hd : F.depth = none) (hF : ∀ f, F.fn f) (hro : F.round = none) (n : Nat) (hn : 3 ≤ n) (t : Nd) (hsz : t.size ≤ bigD) (v : Value) (w : World) (hv : NdV none' w t v) : CallsIn F n Tryz.prog 62 #[v] w (IntP (sizeD 100 t : Nat) w) := by
 obtain ⟨x, rfl, hx⟩ := hv
 have HX := hid hx
 obtain ⟨a0, cap0, rfl, _⟩ := hx
 have h1 : 1 ≤ n := by omega
 have hdd : ∀ k : Nat, (F.depth.isSome = true → 1 ≤ k) := fun k h => by rw [hd] at h; cases h
 have hbd : sizeD 100 t ≤ 20000000000 := by have := sizeD_le 100 t; unfold bigD at hsz; omega
 have HSZ := hid hsz
 clear hsz
 refine callsIn_of_wp_marks Tryz.func62 rfl (hF _) ?_ hro
 simp only [Tryz.ntmps62, List.size_toArray, List.length_cons, List.length_nil, Nat.reduceAdd, Nat.reduceSub, Array.replicate_succ, Array.replicate_zero, List.push_toArray, List.append_toArray, List.nil_append, List.cons_append]
 gi_wp2_with ((try refine ⟨hdd _, ?_⟩); gi_at_call 106; refine (nodes_in F (n - 1) (hF _) hro _ _ _ _ _ _).mono ?_; rintro e w' ⟨rfl, rfl⟩)
 obtain ⟨W4, hW4⟩ : ∃ W4, W4 = (((w.alloc (.cells #[.int .i64 t.kind, .string ⟨t.text.toArray⟩, .slice a0 t.kids.length cap0, .int .i64 t.pos] 24)).alloc (.cells #[.int .i64 0] 3)).alloc (.cells #[.int .i64 t.kind, .string ⟨t.text.toArray⟩, .slice a0 t.kids.length cap0, .int .i64 t.pos] 24)).alloc (.cells #[.int .i64 100] 3) := ⟨_, rfl⟩
 rw [← hW4]
 have XW : Ext none' w W4 := by rw [hW4]; exact ((((Ext.refl none' w).alloc _).alloc _).alloc _).alloc _
 have gB : W4.heap[w.heap.size + 1]? = some (.cells #[.int .i64 0] 3 (0, 0)) := by rw [hW4]; exact heap_alloc_keep (heap_alloc_keep (heap_alloc_at (by simp) _) _) _
 have gn : W4.heap[w.heap.size + 1 + 1]? = some (.cells #[.int .i64 t.kind, .string ⟨t.text.toArray⟩, .slice a0 t.kids.length cap0, .int .i64 t.pos] 24) := by rw [hW4]; exact heap_alloc_keep (heap_alloc_at (by simp) _) _
 have gk : W4.heap[w.heap.size + 1 + 1 + 1]? = some (.cells #[.int .i64 100] 3 (0, 0)) := by rw [hW4]; exact heap_alloc_at (by simp) _
 have hB0 : Below w.heap.size w W4 := XW.below (Nat.le_refl _) fun _ _ h => h
 have hst := nodes_stops F hd (hF _) (hF _) hro (n - 1) (w.heap.size + 1) (w.heap.size + 1 + 1) (w.heap.size + 1 + 1 + 1) w W4 t HSZ.out 100 (by omega) _ HX.out hB0 (heap_lt gB) gn gk
 have hsB : w.heap.size + 1 < W4.heap.size := heap_lt gB
 clear hW4 gn gk
 refine wpIn_rangeFunc_ownF hro h1 (gf := 158) (lb := #[.pointer (some ⟨w.heap.size + 1 + 1, 0, none⟩), .pointer (some ⟨w.heap.size + 1 + 1 + 1, 0, none⟩)]) rfl (hF _) (enters_of Tryz.func158 (by kernel_rfl) rfl) hst
  (fun h k => h.trans k) (fun W l o o' hl h hc hw => keepC_b (by omega) W l o o' hl h hc hw) (Below.refl _ _) (fun _ => rfl)
  (fun pre W => (W.cell? ⟨w.heap.size + 1, 0, none⟩ = some (.int .i64 (pre.length : Nat)) ∧ W.frozen? ⟨w.heap.size + 1, 0, none⟩ = false) ∧ Below w.heap.size w W)
  (fun _ _ _ => False)
  (OwnFrom.and (Own.from (fun s A B row hs hg hr => ⟨cell_kept hs.1 hg hr, (frozen_kept hs.1 hg hr).trans hs.2⟩) _) (ownFrom_below (Nat.le_refl _) (by omega)))
  (fun _ _ _ _ _ hs _ _ => hs)
  ⟨cell_of_box_y gB, hB0⟩
  (fun x => { tmps := #[(.agg #[.int .i64 t.kind, .string ⟨t.text.toArray⟩, .slice a0 t.kids.length cap0, .int .i64 t.pos]), .pointer (some ⟨w.heap.size, 0, none⟩), .int .i64 0, .pointer (some ⟨w.heap.size + 1, 0, none⟩), (.agg #[.int .i64 t.kind, .string ⟨t.text.toArray⟩, .slice a0 t.kids.length cap0, .int .i64 t.pos]), .func (.func 158) #[] #[.pointer (some ⟨w.heap.size + 1 + 1, 0, none⟩), .pointer (some ⟨w.heap.size + 1 + 1 + 1, 0, none⟩)], x.1, .int .i64 ((x.2.1 : Nat) : Int), undef, undef, undef], defers := [] }) ?assign ?body ?done ?stop
 case assign =>
  intro l x W K hK
  unfold encY
  gi_wp2
  simpa using hK
 case body =>
  rintro l pre x W ⟨⟨hc, hf⟩, hB⟩ hlt
  have hlt : pre.length < sizeD 100 t := by rw [preL_len] at hlt; exact hlt
  gi_wp2
  exact ⟨KeepsOthers.setCell _ _ _, keep_set (by omega) _, ⟨by rw [World.cell?_setCell_same' _ _ _ (by rw [hc]; rfl)]; simp, by rw [World.frozen?_setCell]; exact hf⟩, hB.setCell (p := ⟨w.heap.size + 1, 0, none⟩) (by simp) _⟩
 case done =>
  rintro D ys W hD hys ⟨⟨hc, _⟩, hB⟩ hK
  gi_wp2
  refine ⟨by simp, .inl ⟨_, _, rfl, run_takeDeferred hK, ?_⟩⟩
  exact ⟨_, results_tmp rfl _ _ _, by rw [← preL_len, ← hys, List.length_map]; rfl, Ext.of_below (hB.trans (belowK_b (w := w) (Nat.le_refl _) W D _ _ (by omega) hK rfl rfl))⟩
 case stop =>
  rintro D c pre W _ _ h _
  exact h.elim
theorem tdepth_in (F : Fence) (hd : F.depth = none) (hF : ∀ f, F.fn f) (hro : F.round = none) (n : Nat) (hn : 3 ≤ n) (t : Nd) (hsz : t.size ≤ bigD) (v : Value) (w : World) (hv : NdV none' w t v) : CallsIn F n Tryz.prog 61 #[v] w (IntP (depthN t : Nat) w) := by
 obtain ⟨x, rfl, hx⟩ := hv
 have HX := hid hx
 obtain ⟨a0, cap0, rfl, _⟩ := hx
 have h1 : 1 ≤ n := by omega
 have hdd : ∀ k : Nat, (F.depth.isSome = true → 1 ≤ k) := fun k h => by rw [hd] at h; cases h
 have HSZ := hid hsz
 clear hsz
 refine callsIn_of_wp_marks Tryz.func61 rfl (hF _) ?_ hro
 simp only [Tryz.ntmps61, List.size_toArray, List.length_cons, List.length_nil, Nat.reduceAdd, Nat.reduceSub, Array.replicate_succ, Array.replicate_zero, List.push_toArray, List.append_toArray, List.nil_append, List.cons_append]
 gi_wp2_with ((try refine ⟨hdd _, ?_⟩); gi_at_call 106; refine (nodes_in F (n - 1) (hF _) hro _ _ _ _ _ _).mono ?_; rintro e w' ⟨rfl, rfl⟩)
 obtain ⟨W4, hW4⟩ : ∃ W4, W4 = (((w.alloc (.cells #[.int .i64 t.kind, .string ⟨t.text.toArray⟩, .slice a0 t.kids.length cap0, .int .i64 t.pos] 24)).alloc (.cells #[.int .i64 0] 3)).alloc (.cells #[.int .i64 t.kind, .string ⟨t.text.toArray⟩, .slice a0 t.kids.length cap0, .int .i64 t.pos] 24)).alloc (.cells #[.int .i64 101] 3) := ⟨_, rfl⟩
 rw [← hW4]
 have XW : Ext none' w W4 := by rw [hW4]; exact ((((Ext.refl none' w).alloc _).alloc _).alloc _).alloc _
 have gB : W4.heap[w.heap.size + 1]? = some (.cells #[.int .i64 0] 3 (0, 0)) := by rw [hW4]; exact heap_alloc_keep (heap_alloc_keep (heap_alloc_at (by simp) _) _) _
 have gn : W4.heap[w.heap.size + 1 + 1]? = some (.cells #[.int .i64 t.kind, .string ⟨t.text.toArray⟩, .slice a0 t.kids.length cap0, .int .i64 t.pos] 24) := by rw [hW4]; exact heap_alloc_keep (heap_alloc_at (by simp) _) _
 have gk : W4.heap[w.heap.size + 1 + 1 + 1]? = some (.cells #[.int .i64 101] 3 (0, 0)) := by rw [hW4]; exact heap_alloc_at (by simp) _
 have hB0 : Below w.heap.size w W4 := XW.below (Nat.le_refl _) fun _ _ h => h
 have hst := nodes_stops F hd (hF _) (hF _) hro (n - 1) (w.heap.size + 1) (w.heap.size + 1 + 1) (w.heap.size + 1 + 1 + 1) w W4 t HSZ.out 101 (by omega) _ HX.out hB0 (heap_lt gB) gn gk
 have hsB : w.heap.size + 1 < W4.heap.size := heap_lt gB
 clear hW4 gn gk
 refine wpIn_rangeFunc_ownF hro h1 (gf := 158) (lb := #[.pointer (some ⟨w.heap.size + 1 + 1, 0, none⟩), .pointer (some ⟨w.heap.size + 1 + 1 + 1, 0, none⟩)]) rfl (hF _) (enters_of Tryz.func158 (by kernel_rfl) rfl) hst
  (fun h k => h.trans k) (fun W l o o' hl h hc hw => keepC_b (by omega) W l o o' hl h hc hw) (Below.refl _ _) (fun _ => rfl)
  (fun pre W => (W.cell? ⟨w.heap.size + 1, 0, none⟩ = some (.int .i64 (maxD pre : Nat)) ∧ W.frozen? ⟨w.heap.size + 1, 0, none⟩ = false) ∧ Below w.heap.size w W)
  (fun _ _ _ => False)
  (OwnFrom.and (Own.from (fun s A B row hs hg hr => ⟨cell_kept hs.1 hg hr, (frozen_kept hs.1 hg hr).trans hs.2⟩) _) (ownFrom_below (Nat.le_refl _) (by omega)))
  (fun _ _ _ _ _ hs _ _ => hs)
  ⟨cell_of_box_y gB, hB0⟩
  (fun x => { tmps := #[(.agg #[.int .i64 t.kind, .string ⟨t.text.toArray⟩, .slice a0 t.kids.length cap0, .int .i64 t.pos]), .pointer (some ⟨w.heap.size, 0, none⟩), .int .i64 0, .pointer (some ⟨w.heap.size + 1, 0, none⟩), undef, .int .i64 ((x.2.1 : Nat) : Int), (.agg #[.int .i64 t.kind, .string ⟨t.text.toArray⟩, .slice a0 t.kids.length cap0, .int .i64 t.pos]), .func (.func 158) #[] #[.pointer (some ⟨w.heap.size + 1 + 1, 0, none⟩), .pointer (some ⟨w.heap.size + 1 + 1 + 1, 0, none⟩)], x.1, .int .i64 ((x.2.1 : Nat) : Int), undef, undef, undef, undef, undef], defers := [] }) ?assign ?body ?done ?stop
 case assign =>
  intro l x W K hK
  unfold encY
  gi_wp2
  exact hK
 case body =>
  rintro l pre x W ⟨⟨hc, hf⟩, hB⟩ hlt
  have h2 := x.2.2
  have h3 := maxD_le pre
  gi_wp2
  all_goals exact ⟨KeepsOthers.setCell _ _ _, keep_set (by omega) _, ⟨by rw [World.cell?_setCell_same' _ _ _ (by rw [hc]; rfl)]; simp only [Option.some.injEq, Value.int.injEq, true_and]; rw [maxD_snoc]; omega, by rw [World.frozen?_setCell]; exact hf⟩, hB.setCell (p := ⟨w.heap.size + 1, 0, none⟩) (by simp) _⟩
 case done =>
  rintro D ys W hD hys ⟨⟨hc, _⟩, hB⟩ hK
  gi_wp2
  refine ⟨by simp, .inl ⟨_, _, rfl, run_takeDeferred hK, ?_⟩⟩
  exact ⟨_, results_tmp rfl _ _ _, by rw [maxD_map, hys]; rfl, Ext.of_below (hB.trans (belowK_b (w := w) (Nat.le_refl _) W D _ _ (by omega) hK rfl rfl))⟩
 case stop =>
  rintro D c pre W _ _ h _
  exact h.elim
theorem tsize_any (t : Nd) (hsz : t.size ≤ bigD) (v : Value) (w : World) (hv : NdV none' w t v) : Calls Tryz.prog 62 #[v] w (IntP (sizeD 100 t : Nat) w) :=
 callsIn_wide.1 (tsize_in Fence.wide rfl (fun _ => trivial) rfl 3 (Nat.le_refl _) t hsz v w hv)
theorem tdepth_any (t : Nd) (hsz : t.size ≤ bigD) (v : Value) (w : World) (hv : NdV none' w t v) : Calls Tryz.prog 61 #[v] w (IntP (depthN t : Nat) w) :=
 callsIn_wide.1 (tdepth_in Fence.wide rfl (fun _ => trivial) rfl 3 (Nat.le_refl _) t hsz v w hv)
end Go.Proofs.YthbmjamgidfneaaGreatDoor
namespace Go.Proofs.YthbmjamgidfneaaGreatDoor
open Go.RowKit Go.Lib Go.BigFrame
def putS (w : World) (r : Nat) (o : Obj) : World := { w with heap := w.heap.setIfInBounds r o }
theorem putS_at {w : World} {r : Nat} {o o' : Obj} (h : w.heap[r]? = some o') : (putS w r o).heap[r]? = some o := by
 have := heap_lt h
 simp [putS, this]
theorem Ext.putS {F : Nat → Prop} {a w : World} (h : Ext F a w) {r : Nat} (hr : a.heap.size ≤ r) (o : Obj) : Ext F a (putS w r o) :=
 h.trans' (G := fun i => i = r) ⟨rfl, rfl, rfl, by simp [Go.Proofs.YthbmjamgidfneaaGreatDoor.putS], fun k _ hn => by simp [Go.Proofs.YthbmjamgidfneaaGreatDoor.putS, Ne.symm hn]⟩ fun i hi hg => by subst hg; omega
theorem run_insT {w : World} {r : Nat} {es : Array MapEntry} {clock : Nat} {mt et : TypeId} (hu : Tryz.prog.underlying mt = some (.map 9 et)) (k : List UInt8) (v : Value) (hb : w.heap[r]? = some (.map es clock)) (hf : Instr.findNow .string (.string ⟨k.toArray⟩) es.toList 0 = some none) :
  (Instr.mapUpdate mt (.map (some r)) (.string ⟨k.toArray⟩) v).run Tryz.prog w = .ok () (putS w r (.map (es.push ⟨.string ⟨k.toArray⟩, v, clock⟩) (clock + 1))) := by
 have hc : (Instr.checkKey false 10000 9 (.string ⟨k.toArray⟩)).run Tryz.prog w = .ok () w := MapKept.run_checkKey (k := .string ⟨k.toArray⟩) Tryz.underlying9 (by simp [MapKept.IsKey]) false 9999
 simp [Instr.mapUpdate, run_underlying hu, MapKept.run_getObj_map hb, hc, MapKept.run_findKey Tryz.underlying9 hf, MapKept.run_setObj_map _ hb, Result.andThen, putS]
theorem insT_ex {w : World} {r : Nat} {es : Array MapEntry} {clock : Nat} {mt et : TypeId} (hu : Tryz.prog.underlying mt = some (.map 9 et)) (k : List UInt8) (v : Value) (hb : w.heap[r]? = some (.map es clock)) (hf : Instr.findNow .string (.string ⟨k.toArray⟩) es.toList 0 = some none) :
  ∃ w', (Instr.mapUpdate mt (.map (some r)) (.string ⟨k.toArray⟩) v).run Tryz.prog w = .ok () w' ∧ w'.heap[r]? = some (.map (es.push ⟨.string ⟨k.toArray⟩, v, clock⟩) (clock + 1)) ∧
   ∀ (a : World), Ext none' a w → a.heap.size ≤ r → Ext none' a w' :=
 ⟨_, run_insT hu k v hb hf, putS_at hb, fun _ h hr => h.putS hr _⟩
theorem look_okT {w : World} {r i clock : Nat} {es : Array MapEntry} {mt et : TypeId} (hu : Tryz.prog.underlying mt = some (.map 9 et)) (n : List UInt8) (v : Value) (hb : w.heap[r]? = some (.map es clock)) (hf : Instr.findNow .string (.string ⟨n.toArray⟩) es.toList 0 = some (some (i, v))) :
  (Instr.lookup mt (.map (some r)) (.string ⟨n.toArray⟩) true).run Tryz.prog w = .ok (.tuple #[v, .bool true]) w := by
 have hc : ∀ b, (Instr.checkKey b 10000 9 (.string ⟨n.toArray⟩)).run Tryz.prog w = .ok () w := fun b => MapKept.run_checkKey (k := .string ⟨n.toArray⟩) Tryz.underlying9 (by simp [MapKept.IsKey]) b 9999
 simp [Instr.lookup, run_underlying hu, MapKept.run_getObj_map hb, hc, MapKept.run_findKey Tryz.underlying9 hf, Result.andThen]
def sFile : List UInt8 := [102, 105, 108, 101]
def sDecl : List UInt8 := [100, 101, 99, 108, 97, 114, 97, 116, 105, 111, 110]
def sType : List UInt8 := [116, 121, 112, 101]
def sExpr : List UInt8 := [101, 120, 112, 114, 101, 115, 115, 105, 111, 110]
def sStmt : List UInt8 := [115, 116, 97, 116, 101, 109, 101, 110, 116]
def sSig : List UInt8 := [115, 105, 103, 110, 97, 116, 117, 114, 101]
def fnV (n : Nat) : Value := .func (.func n) #[] #[]
def sortsE : Array MapEntry := #[⟨.string ⟨sFile.toArray⟩, fnV 98, 0⟩, ⟨.string ⟨sDecl.toArray⟩, fnV 101, 1⟩, ⟨.string ⟨sType.toArray⟩, fnV 102, 2⟩, ⟨.string ⟨sExpr.toArray⟩, fnV 103, 3⟩, ⟨.string ⟨sStmt.toArray⟩, fnV 104, 4⟩, ⟨.string ⟨sSig.toArray⟩, fnV 105, 5⟩]
def SortsPost (w : World) (e : Ending) (w' : World) : Prop := ∃ r, e = .returned (.map (some r)) ∧ w'.heap[r]? = some (.map sortsE 6) ∧ Ext none' w w'
theorem sorts_any (w : World) : Calls Tryz.prog 60 #[] w (SortsPost w) := by
 have hmm := @run_makeMap Tryz.prog
 have b0 : (w.alloc (.map #[] 0)).heap[w.heap.size]? = some (.map #[] 0) := heap_alloc_at rfl _
 have x0 : Ext none' w (w.alloc (.map #[] 0)) := (Ext.refl _ _).alloc _
 have hu := Tryz.underlying71
 obtain ⟨W1, e1, b1, f1⟩ := insT_ex hu sFile (fnV 98) b0 rfl
 have x1 := f1 w x0 (Nat.le_refl _)
 obtain ⟨W2, e2, b2, f2⟩ := insT_ex hu sDecl (fnV 101) b1 rfl
 have x2 := f2 w x1 (Nat.le_refl _)
 obtain ⟨W3, e3, b3, f3⟩ := insT_ex hu sType (fnV 102) b2 rfl
 have x3 := f3 w x2 (Nat.le_refl _)
 obtain ⟨W4, e4, b4, f4⟩ := insT_ex hu sExpr (fnV 103) b3 rfl
 have x4 := f4 w x3 (Nat.le_refl _)
 obtain ⟨W5, e5, b5, f5⟩ := insT_ex hu sStmt (fnV 104) b4 rfl
 have x5 := f5 w x4 (Nat.le_refl _)
 obtain ⟨W6, e6, b6, f6⟩ := insT_ex hu sSig (fnV 105) b5 rfl
 have x6 := f6 w x5 (Nat.le_refl _)
 have B := hid b6
 have X := hid x6
 simp only [sFile, sDecl, sType, sExpr, sStmt, sSig, fnV] at e1 e2 e3 e4 e5 e6
 clear b0 x0 b1 x1 b2 x2 b3 x3 b4 x4 b5 x5 b6 x6 f1 f2 f3 f4 f5 f6 hu
 go_enter Tryz.func60, Tryz.ntmps60
 go_wp2
 go_ret
 exact ⟨_, rfl, B.out, X.out⟩
def rightB (p : Bool) (t : Nd) : Bool := decide (depthN t ≤ 100) && (decide (sizeD 100 t ≤ 65536) && p)
theorem right_any (s : List UInt8) (i fn : Nat) (hs : Instr.findNow .string (.string ⟨s.toArray⟩) sortsE.toList 0 = some (some (i, fnV fn))) (hfn : ∀ args w, (callFunc fn args).run Tryz.prog w = .ok (.enter fn args) w) (t : Nd) (ht : t.size ≤ bigD) (p : Bool)
  (v : Value) (w : World) (hv : NdV none' w t v) (hp : ∀ W x, Ext none' w W → NdV none' W t x → Calls Tryz.prog fn #[x] W (BoolP p W)) : Calls Tryz.prog 25 #[v, .string ⟨s.toArray⟩] w (BoolP (rightB p t) w) := by
 have CD := hid fun W (X : Ext none' w W) => tdepth_any t ht v W (hv.ext X fun _ _ h => h)
 have CZ := hid fun W (X : Ext none' w W) => tsize_any t ht v W (hv.ext X fun _ _ h => h)
 have CP := hid fun W (X : Ext none' w W) => hp W v X (hv.ext X fun _ _ h => h)
 obtain ⟨x, rfl, hx⟩ := hv
 obtain ⟨a1, cap1, rfl, _⟩ := hx
 obtain ⟨r, hr⟩ : ∃ r, r = rightB p t := ⟨_, rfl⟩
 rw [← hr]
 unfold rightB at hr
 have HR := hid hr
 have LK := hid fun (W : World) (b : Nat) (hb : W.heap[b]? = some (.map sortsE 6)) => look_okT Tryz.underlying71 s (fnV fn) hb hs
 have hd2 : depthN t ≤ 102 := by unfold depthN; have := maxD_le; exact maxN_le _
 have hz2 : sizeD 100 t ≤ 20000000000 := by have := sizeD_le 100 t; unfold bigD at ht; omega
 obtain ⟨d, hd⟩ : ∃ d, depthN t = d := ⟨_, rfl⟩
 obtain ⟨z, hz⟩ : ∃ z, sizeD 100 t = z := ⟨_, rfl⟩
 rw [hd] at CD HR hd2
 rw [hz] at CZ HR hz2
 have HG := hid (heap_alloc_at (w := w) rfl (.cells #[.int .i64 t.kind, .string ⟨t.text.toArray⟩, .slice a1 t.kids.length cap1, .int .i64 t.pos] 24))
 clear hr hp hd hz ht hs
 go_enter Tryz.func25, Tryz.ntmps25
 go_wp2_with (fail)
 refine (sorts_any _).mono ?_
 rintro e w1 ⟨b, rfl, hb, X1⟩
 have lk := LK.out w1 b hb
 unfold fnV at lk
 obtain ⟨c0, c1, c2, c3⟩ := cell4 (X1.heap HG.out fun h => h)
 have HG := hid (X1.heap HG.out fun h => h)
 have X1 := hid (((Ext.refl none' w).alloc _).trans X1)
 clear hb
 go_wp2_with (fail)
 refine (CD.out _ X1.out).mono ?_
 rintro e w2 ⟨rfl, X2⟩
 have HG := hid (X2.heap HG.out fun h => h)
 obtain ⟨c0, c1, c2, c3⟩ := cell4 HG.out
 have X2 := hid (X1.out.trans X2)
 clear lk
 by_cases hd1 : d ≤ 100
 · have q1 : ((d : Int) ≤ 100) := by omega
   have HD1 : Hid (decide (d ≤ 100) = true) := hid (decide_eq_true hd1)
   clear hd1
   go_wp2_with (fail)
   refine (CZ.out _ X2.out).mono ?_
   rintro e w3 ⟨rfl, X3⟩
   have HG := hid (X3.heap HG.out fun h => h)
   obtain ⟨c0, c1, c2, c3⟩ := cell4 HG.out
   have X3 := hid (X2.out.trans X3)
   by_cases hz1 : z ≤ 65536
   · have q2 : ((z : Int) ≤ 65536) := by omega
     have HZ1 : Hid (decide (z ≤ 65536) = true) := hid (decide_eq_true hz1)
     clear hz1
     go_wp2_with (fail)
     refine (CP.out _ X3.out).mono ?_
     rintro e w4 ⟨rfl, X4⟩
     have X4 := hid (X3.out.trans X4)
     go_wp2_with (fail)
     go_ret
     exact ⟨by rw [HR.out, HD1.out, HZ1.out]; cases p <;> rfl, X4.out⟩
   · have q2 : ¬ ((z : Int) ≤ 65536) := by omega
     have HZ1 : Hid (decide (z ≤ 65536) = false) := hid (decide_eq_false hz1)
     clear hz1
     go_wp2_with (fail)
     go_ret
     exact ⟨by rw [HR.out, HD1.out, HZ1.out]; rfl, X3.out⟩
 · have q1 : ¬ ((d : Int) ≤ 100) := by omega
   have HD1 : Hid (decide (d ≤ 100) = false) := hid (decide_eq_false hd1)
   clear hd1
   go_wp2_with (fail)
   go_ret
   exact ⟨by rw [HR.out, HD1.out]; rfl, X2.out⟩
def shower0 : Value := .agg #[.int .i64 0, .bool false]
def tellE : Array MapEntry := #[⟨.string ⟨sDecl.toArray⟩, fnV 21, 0⟩, ⟨.string ⟨sType.toArray⟩, fnV 22, 1⟩, ⟨.string ⟨sExpr.toArray⟩, .func (.func 23) #[shower0] #[], 2⟩, ⟨.string ⟨sStmt.toArray⟩, .func (.func 24) #[shower0] #[], 3⟩]
theorem look_T {w : World} {r i clock : Nat} {es : Array MapEntry} {mt et : TypeId} (hu : Tryz.prog.underlying mt = some (.map 9 et)) (n : List UInt8) (v : Value) (hb : w.heap[r]? = some (.map es clock)) (hf : Instr.findNow .string (.string ⟨n.toArray⟩) es.toList 0 = some (some (i, v))) :
  (Instr.lookup mt (.map (some r)) (.string ⟨n.toArray⟩) false).run Tryz.prog w = .ok v w := by
 have hc : ∀ b, (Instr.checkKey b 10000 9 (.string ⟨n.toArray⟩)).run Tryz.prog w = .ok () w := fun b => MapKept.run_checkKey (k := .string ⟨n.toArray⟩) Tryz.underlying9 (by simp [MapKept.IsKey]) b 9999
 simp [Instr.lookup, run_underlying hu, MapKept.run_getObj_map hb, hc, MapKept.run_findKey Tryz.underlying9 hf, Result.andThen]
def TextPost (p : Bool) (q : List UInt8) (w : World) (e : Ending) (w' : World) : Prop := e = .returned (.tuple #[.string ⟨(if p then q else []).toArray⟩, .int .i64 (if p then 0 else 9)]) ∧ Ext none' w w'
theorem run_eq_nilF (fn : Nat) (first : Array Value) (W : World) : (binOp .eql 40 (.func (.func fn) first #[]) .nilFunc).run Tryz.prog W = .ok (.bool false) W := by kernel_rfl
theorem text_any (s : List UInt8) (j fn : Nat) (first : Array Value) (hs : Instr.findNow .string (.string ⟨s.toArray⟩) tellE.toList 0 = some (some (j, .func (.func fn) first #[]))) (hfn : ∀ args w, (callFunc fn args).run Tryz.prog w = .ok (.enter fn args) w) (t : Nd) (p : Bool) (q : List UInt8)
  (v : Value) (w : World) (hv : NdV none' w t v) (hr : ∀ W x, Ext none' w W → NdV none' W t x → Calls Tryz.prog 25 #[x, .string ⟨s.toArray⟩] W (BoolP p W)) (hq : p = true → ∀ W x, Ext none' w W → NdV none' W t x → Calls Tryz.prog fn (first ++ #[x]) W (StrPost q W)) : Calls Tryz.prog 10 #[v, .string ⟨s.toArray⟩] w (TextPost p q w) := by
 have CR := hid fun W (X : Ext none' w W) => hr W v X (hv.ext X fun _ _ h => h)
 have CQ := hid fun (hp : p = true) W (X : Ext none' w W) => hq hp W v X (hv.ext X fun _ _ h => h)
 obtain ⟨x, rfl, hx⟩ := hv
 obtain ⟨a1, cap1, rfl, _⟩ := hx
 obtain ⟨N, hN⟩ : ∃ N, N = w.alloc (.cells #[.int .i64 t.kind, .string ⟨t.text.toArray⟩, .slice a1 t.kids.length cap1, .int .i64 t.pos] 24) := ⟨_, rfl⟩
 have hXN : Ext none' w N := by rw [hN]; exact (Ext.refl _ _).alloc _
 have hGN : N.heap[w.heap.size]? = some (.cells #[.int .i64 t.kind, .string ⟨t.text.toArray⟩, .slice a1 t.kids.length cap1, .int .i64 t.pos] 24 (0, 0)) := by rw [hN]; exact heap_alloc_at rfl _
 have hmm := @run_makeMap Tryz.prog
 have hz : N.heap.size = w.heap.size + 1 := by rw [hN]; simp
 have b0 : (N.alloc (.map #[] 0)).heap[w.heap.size + 1]? = some (.map #[] 0) := heap_alloc_at hz.symm _
 have x0 : Ext none' N (N.alloc (.map #[] 0)) := (Ext.refl _ _).alloc _
 have hu := Tryz.underlying51
 obtain ⟨W1, e1, b1, f1⟩ := insT_ex hu sDecl (fnV 21) b0 rfl
 have x1 := f1 N x0 (by omega)
 obtain ⟨W2, e2, b2, f2⟩ := insT_ex hu sType (fnV 22) b1 rfl
 have x2 := f2 N x1 (by omega)
 obtain ⟨W3, e3, b3, f3⟩ := insT_ex hu sExpr (.func (.func 23) #[shower0] #[]) b2 rfl
 have x3 := f3 N x2 (by omega)
 obtain ⟨W4, e4, b4, f4⟩ := insT_ex hu sStmt (.func (.func 24) #[shower0] #[]) b3 rfl
 have x4 := f4 N x3 (by omega)
 have lk := look_T hu s _ b4 hs
 have G := hid (x4.heap hGN fun h => h)
 have X := hid (hXN.trans x4)
 obtain ⟨c0, c1, c2, c3⟩ := cell4 G.out
 simp only [sDecl, sType, sExpr, sStmt, fnV, shower0] at e1 e2 e3 e4
 rw [hN] at e1
 clear hz b0 x0 b1 x1 b2 x2 b3 x3 b4 x4 f1 f2 f3 f4 hu hGN hXN hr hq hs hN
 go_enter Tryz.func10, Tryz.ntmps10
 have hne := run_eq_nilF fn first
 go_wp2_with (fail)
 refine (CR.out _ X.out).mono ?_
 rintro e w1 ⟨rfl, X1⟩
 have G := hid (X1.heap G.out fun h => h)
 have X1 := hid (X.out.trans X1)
 obtain ⟨c0, c1, c2, c3⟩ := cell4 G.out
 clear hne lk e1 e2 e3 e4 hmm
 cases p with
 | false =>
  go_wp2_with (fail)
  go_ret2
  exact ⟨rfl, X1.out⟩
 | true =>
  have CC := hid (CQ.out rfl w1 X1.out)
  clear CQ
  go_wp2_with (fail)
  refine CC.out.mono ?_
  rintro e w2 ⟨rfl, X2⟩
  have X2 := hid (X1.out.trans X2)
  go_wp2_with (fail)
  go_ret2
  exact ⟨rfl, X2.out⟩
theorem typeRight_any (f : Nat) (hf : f ≤ bigD) (t : Nd) (ht : t.size ≤ f) (v : Value) (w : World) (hv : NdV none' w t v) : Calls Tryz.prog 25 #[v, .string ⟨sType.toArray⟩] w (BoolP (rightB (tyF nmB f t) t) w) :=
 right_any sType 2 102 rfl (Go.Proofs.enters_of Tryz.func102 (by kernel_rfl) rfl) t (Nat.le_trans ht hf) _ v w hv fun W x _ hx => isType_any f hf t ht x W hx
theorem typeText_any (f : Nat) (hf : f ≤ bigD) (t : Nd) (ht : t.size ≤ f) (v : Value) (w : World) (hv : NdV none' w t v) : Calls Tryz.prog 10 #[v, .string ⟨sType.toArray⟩] w (TextPost (rightB (tyF nmB f t) t) (typF f t) w) :=
 text_any sType 1 22 #[] rfl (Go.Proofs.enters_of Tryz.func22 (by kernel_rfl) rfl) t _ _ v w hv (fun W x _ hx => typeRight_any f hf t ht x W hx) fun hp W x _ hx => typ_any f hf t ⟨ht, by
  unfold rightB at hp
  simp only [Bool.and_eq_true] at hp
  exact hp.2.2⟩ x W hx
theorem idx_run (s : List UInt8) (i : Nat) (h : i < s.length) (w : World) : (Instr.index 9 (.string ⟨s.toArray⟩) (.int .i64 (i : Nat))).run Tryz.prog w = .ok (.int .u8 ((s[i]'h).toNat : Nat)) w := by
 rw [run_index_string _ _ _ _ _ Tryz.underlying9, dif_pos ⟨by omega, by rw [bsize]; omega⟩]
 have := byte_at s i h
 simp only [Int.toNat_natCast]
 rw [this]
theorem dec_asc (c : UInt8) (t : List UInt8) : True ∧ True ∧ (c.toNat < 128 → decodeL (c :: t) = (c.toNat, 1)) := by
 refine ⟨trivial, trivial, fun h => ?_⟩
 rw [decodeL_N]
 show decodeN _ c.toNat _ _ _ = _
 unfold decodeN; rw [if_pos h]
theorem dec_high (c : UInt8) (t : List UInt8) (h : 128 ≤ c.toNat) : 128 ≤ (decodeL (c :: t)).1 := by
 rw [decodeL_N]
 show 128 ≤ (decodeN _ c.toNat _ _ _).1
 unfold decodeN
 rw [if_neg (by omega)]
 repeat' split
 all_goals simp only <;> omega
def allF (s : List UInt8) : Bool := s.all (fun c => decide (48 ≤ c.toNat) && decide (c.toNat ≤ 57))
structure PwRel (it : Nat) (q : List UInt8) (p : Bool) (w wr : World) (pos : Nat) : Prop where
 le : pos ≤ q.length
 hit : wr.heap[it]? = some (.stringIter ⟨q.toArray⟩ pos)
 hx : Ext none' w wr
 res : p = allF (q.drop pos)
theorem plain_any (s : List UInt8) (w : World) (hs : s.length ≤ 4000000000) : Calls Tryz.prog 146 #[.string ⟨s.toArray⟩] w (fun e w' => e = .returned (.bool (plainP s)) ∧ Ext none' w w') := by
 obtain ⟨r, hr⟩ : ∃ r, r = plainP s := ⟨_, rfl⟩
 rw [← hr]
 obtain ⟨p, hp⟩ : ∃ p, p = allF s := ⟨_, rfl⟩
 have HR : Hid (r = (p && (s == [48] || (!s.isEmpty && decide (s.length ≤ 200) && s.head? != some 48)))) := hid (by rw [hr, hp]; rfl)
 clear hr
 go_enter Tryz.func146, Tryz.ntmps146
 go_wp2_with fail
 have R0 : Hid (PwRel w.heap.size s p w (w.alloc (.stringIter ⟨s.toArray⟩ 0)) 0) := hid ⟨by omega, heap_alloc_at rfl _, (Ext.refl _ _).alloc _, by rw [List.drop_zero]; exact hp⟩
 clear hp
 obtain ⟨it, hit0⟩ : ∃ it, it = w.heap.size := ⟨_, rfl⟩
 have HIT := hid hit0
 rw [← hit0] at R0
 rw [← hit0]
 clear hit0
 go_loopw [] (fun wr => ∃ pos : Nat, Hid (PwRel it s p w wr pos)) (fun wr => s.length - wr.iterPos it)
 case atStart => exact ⟨0, R0⟩
 case round =>
  obtain ⟨pos, R⟩ := hrel
  have hle := R.out.le
  have hpi := hid (iterPos_of R.out.hit)
  by_cases hpl : pos < s.length
  · obtain ⟨d, hd⟩ : ∃ d, Utf8.decode ⟨s.toArray⟩ pos = d := ⟨_, rfl⟩
    have hnx : ∀ ty, (Instr.next (.pointer (some ⟨it, 0, none⟩)) true ty).run Tryz.prog wr = .ok (.tuple #[.bool true, .int .i64 pos, .int .i32 d.1]) (wr.iterAt it ⟨s.toArray⟩ (pos + d.2)) :=
     fun ty => by rw [← hd]; exact run_next_any_at wr it ⟨s.toArray⟩ pos ty R.out.hit (by rw [bsize]; exact hpl)
    have Hd := (decode_dropL s pos).symm.trans hd
    have hdr : s.drop pos = s[pos] :: s.drop (pos + 1) := List.drop_eq_getElem_cons hpl
    obtain ⟨c, hc⟩ : ∃ c, s[pos]'hpl = c := ⟨_, rfl⟩
    rw [hc] at hdr
    have hdh := dec_asc c (s.drop (pos + 1))
    rw [← hdr, Hd] at hdh
    obtain ⟨d1, d2⟩ := d
    simp only at hdh hnx
    have hd1 : d1 ≤ 1114111 := by
     have := rune_le ⟨s.toArray⟩ pos
     rw [hd] at this; exact this
    have X1 : Ext none' w (wr.iterAt it ⟨s.toArray⟩ (pos + d2)) := R.out.hx.iterAt (.inr (by rw [HIT.out]; exact Nat.le_refl _)) _ _
    have hit2 : Hid ((wr.iterAt it ⟨s.toArray⟩ (pos + d2)).heap[it]? = some (.stringIter ⟨s.toArray⟩ (pos + d2))) := hid (iterAt_heap _ _ _ _ _ R.out.hit)
    have HX1 := hid X1
    have hres := R.out.res
    rw [hdr] at hres
    have hhi := dec_high c (s.drop (pos + 1))
    rw [← hdr, Hd] at hhi
    have HCW := hid hdh.2.2
    by_cases hf : 48 ≤ c.toNat ∧ c.toNat ≤ 57
    · have ecw := HCW.out (by omega)
      injection ecw with ecw1 ecw2
      subst ecw2
      have f1 : decide ((d1 : Int) < 48) = false := by simp; omega
      have f2 : decide (57 < (d1 : Int)) = false := by simp; omega
      have N : Hid (PwRel it s p w (wr.iterAt it ⟨s.toArray⟩ (pos + 1)) (pos + 1)) := hid ⟨by omega, hit2.out, HX1.out, by rw [hres]; unfold allF; rw [List.all_cons]; simp [hf]⟩
      have M := hid (iterPos_of hit2.out)
      clear hd Hd hdr hc X1 hdh R hres hhi ecw1 hf
      go_wp2_with fail
      go_roundw
      case rel => exact ⟨_, N⟩
      case measure => rw [M.out, hpi.out]; omega
    · have e : Hid (r = false) := hid (by
       rw [HR.out, hres]; unfold allF; rw [List.all_cons]
       have : (decide (48 ≤ c.toNat) && decide (c.toNat ≤ 57)) = false := by simp; omega
       rw [this]; rfl)
      have hff : (d1 : Int) < 48 ∨ (¬ (d1 : Int) < 48 ∧ 57 < (d1 : Int)) := by
       by_cases hc1 : c.toNat < 128
       · have ecw := HCW.out hc1
         injection ecw with ecw1 ecw2
         omega
       · have := hhi (by omega)
         simp only at this
         omega
      clear hd Hd hdr hc X1 hdh R hres hhi hf
      rcases hff with f1 | ⟨f1, f2⟩
      · have f1 : decide ((d1 : Int) < 48) = true := by simpa using f1
        go_wp2_with fail
        go_ret
        rw [e.out]
        exact ⟨rfl, HX1.out⟩
      · have f1 : decide ((d1 : Int) < 48) = false := by simpa using f1
        have f2 : decide (57 < (d1 : Int)) = true := by simpa using f2
        go_wp2_with fail
        go_ret
        rw [e.out]
        exact ⟨rfl, HX1.out⟩
  · obtain rfl : pos = s.length := by omega
    have hnx : ∀ ty, (Instr.next (.pointer (some ⟨it, 0, none⟩)) true ty).run Tryz.prog wr = _ := fun ty => run_next_end_at wr it ⟨s.toArray⟩ s.length ty R.out.hit (by rw [bsize]; omega)
    have e : p = true := by rw [R.out.res, List.drop_length]; rfl
    have HX := hid R.out.hx
    clear R
    by_cases h0 : s = []
    · have er : Hid (r = false) := hid (by rw [HR.out, e, h0]; rfl)
      subst h0
      clear HR e
      go_wp2_with fail
      go_ret
      rw [er.out]
      exact ⟨rfl, HX.out⟩
    · by_cases h48 : s = [48]
      · have er : Hid (r = true) := hid (by rw [HR.out, e, h48]; rfl)
        subst h48
        clear HR e h0
        go_wp2_with fail
        go_ret
        rw [er.out]
        exact ⟨rfl, HX.out⟩
      · have q1 : (s == [48]) = false := by simpa using h48
        have q2 : s.isEmpty = false := by cases s <;> simp_all
        have hl0 : 0 < s.length := by cases s <;> simp_all
        obtain ⟨c, hc⟩ : ∃ c, s[0]'hl0 = c := ⟨_, rfl⟩
        have hh : s.head? = some c := by rw [List.head?_eq_getElem?, List.getElem?_eq_getElem hl0, hc]
        by_cases hl : s.length ≤ 200
        · have q3 : decide ((s.length : Int) ≤ 200) = true := by simp; omega
          have hix : ∀ W, (Instr.index 9 (.string ⟨s.toArray⟩) (.int .i64 0)).run Tryz.prog W = .ok (.int .u8 (c.toNat : Nat)) W := fun W => by
           have := idx_run s 0 hl0 W
           rw [hc] at this
           exact this
          have er : Hid (r = ((c.toNat : Int) != 48)) := hid (by
           rw [HR.out, e, q1, q2, hh]
           have : decide (s.length ≤ 200) = true := by simpa using hl
           rw [this]
           by_cases h : c = 48
           · subst h; rfl
           · have h1 : ((c.toNat : Int) != 48) = true := by
              have := u8n h
              simp at this ⊢; omega
             have h2 : (some c != some (48 : UInt8)) = true := by simpa using h
             rw [h1, h2]; rfl)
          clear HR e hc hh h0 h48 hl
          go_wp2_with fail
          go_ret
          rw [er.out]
          exact ⟨rfl, HX.out⟩
        · have q3 : decide ((s.length : Int) ≤ 200) = false := by simp; omega
          have er : Hid (r = false) := hid (by
           rw [HR.out, e, q1, q2]
           have : decide (s.length ≤ 200) = false := by simpa using hl
           rw [this]; rfl)
          clear HR e hc hh h0 h48 hl
          go_wp2_with fail
          go_ret
          rw [er.out]
          exact ⟨rfl, HX.out⟩
end Go.Proofs.YthbmjamgidfneaaGreatDoor
