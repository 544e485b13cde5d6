import Derived.Test.YtbhpmmofgdppdaaGreatDoorZAo
import Derived.RangeFuncNested
import Derived.RangeFuncBound
import Derived.RangeFuncCalls
import Derived.RangeFuncLeaves
import Derived.RangeFuncKeeps
import Derived.RangeFuncFrom
import Derived.Shelf.Abstract
import Derived.Shelf.RegionOpen
import Derived.OwnWalkIn
import Derived.TacticsInMore
import Derived.LoopNIn
import Derived.LoopIn
/-
  tree.walk: each node, each once, and how much depth is left.
-/
namespace Go.Proofs.YtbhpmmofgdppdaaGreatDoor
open Go.RowKit Go.Lib Go.Shelf
attribute [local go_sem] Oper.semAt_some
theorem room_of_y {F : Fence} (hd : F.depth = none) (k : Nat) : F.room k := fun d h => by rw [hd] at h; cases h
theorem YieldAt.anyY {F : Fence} (hd : F.depth = none) {m : Nat} (m' : Nat) {P : Program} {l : Nat} {args : Array Value} {W : World} {R : Ending → World → Prop} (h : YieldAt F m P l args W R) : YieldAt F m' P l args W R := by
  obtain ⟨fn, tmps, assign, body, hy, hR⟩ := h
  exact ⟨fn, tmps, assign, body, hy, ⟨hR.1, fun c cs _ => hR.2 c cs (room_of_y hd _)⟩⟩
/-- What a walk hands on of a tree: how much is left at each node. -/
def preL : Nat → Nd → List Nat
  | 0, _ => []
  | k + 1, t => (k + 1) :: (t.kids.map (preL k)).flatten
def preLs (k : Nat) (l : List Nd) : List Nat := (l.map (preL k)).flatten
theorem preLs_snoc (k : Nat) (l : List Nd) (t : Nd) : preLs k (l ++ [t]) = preLs k l ++ preL k t := by simp [preLs]
abbrev YA := Value × Fin 102
def encY (x : YA) : Array Value := #[x.1, .int .i64 ((x.2.1 : Nat) : Int)]
/-- What a round keeps: cells other than the block B; what lay below n. -/
structure KeepC (B n : Nat) (W W' : World) : Prop where
  below : Below n W W'
  cell : ∀ (p : Addr) (v : Value), p.block ≠ B → W.cell? p = some v → W'.cell? p = some v
theorem KeepC.trans {B n : Nat} {X Y Z : World} (h : KeepC B n X Y) (k : KeepC B n Y Z) : KeepC B n X Z := ⟨h.below.trans k.below, fun p v hp hv => k.cell p v hp (h.cell p v hp hv)⟩
theorem keepC_b {B n : Nat} {w : World} (hn : n ≤ w.heap.size) (W : World) (l : Nat) (o o' : Obj) (hl : w.heap.size ≤ l) (h : W.heap[l]? = some o) (hc : o.isCells = false) (hw : o.isWalk = false) : KeepC B n W (W.putObj l o') :=
  ⟨belowK_b hn W l o o' hl h hc hw, fun p v _ hv => cell_kept hv (grownBy_putObj' W l o') (fun r e => by cases e; exact ⟨o, h, hc⟩)⟩
theorem ext_grown {a b : World} (h : Ext none' a b) : a.grownBy b none := ⟨h.os, h.tape, h.output, h.size, fun k hk _ => h.block k hk fun h => h⟩
theorem ext_keep {B n : Nat} {a b : World} (hn : n ≤ a.heap.size) (h : Ext none' a b) : KeepC B n a b :=
  ⟨h.below hn fun _ _ h => h, fun _ _ _ hv => (h.cell (World.block_lt_of_cell? a _ hv) fun h => h).trans hv⟩
def WalkPost (t : Nd) (left : Nat) (B n0 : Nat) (J Jx : List YA → World → Prop) (pre : List YA) (W : World) (e : Ending) (W' : World) : Prop :=
  (e = .returned (.bool true) ∧ ∃ q : List YA, q.map (fun x => x.2.1) = preL left t ∧ J (pre ++ q) W' ∧ KeepC B n0 W W') ∨ (e = .returned (.bool false) ∧ ∃ q, Jx q W')
structure WkRel (l : List Nd) (k : Nat) (B n0 : Nat) (J : List YA → World → Prop) (pre : List YA) (W wr : World) (i : Nat) : Prop where
  q : ∃ q : List YA, q.map (fun x => x.2.1) = (k + 1) :: preLs k (l.take i) ∧ J (pre ++ q) wr
  kp : KeepC B n0 W wr
set_option maxRecDepth 100000 in
set_option maxHeartbeats 3200000 in
theorem walkIn (F : Fence) (hd : F.depth = none) (hF : F.fn 175) (hro : F.round = none) (lp B N : Nat) (w0 : World) (J Jx : List YA → World → Prop)
    (hJ : ∀ s a b, J s a → Ext none' a b → J s b)
    (hY : ∀ (m : Nat) (pre : List YA) (x : YA) (W : World), J pre W → pre.length < N → YieldAt F m Tryz.prog lp (encY x) W fun e W' => (e = .returned (.bool true) ∧ J (pre ++ [x]) W' ∧ KeepC B w0.heap.size W W') ∨ (e = .returned (.bool false) ∧ Jx (pre ++ [x]) W')) :
    ∀ (left : Nat), left ≤ 101 → ∀ (t : Nd), t.size ≤ bigD → ∀ (n : Nat) (v : Value) (pre : List YA) (W : World), NdV none' w0 t v → Below w0.heap.size w0 W → B < W.heap.size → J pre W → pre.length + (preL left t).length ≤ N →
      CallsIn F n Tryz.prog 175 #[v, .int .i64 (left : Nat), .func (.yield lp) #[] #[]] W (WalkPost t left B w0.heap.size J Jx pre W) := by
  have hdd : ∀ k : Nat, (F.depth.isSome = true → 1 ≤ k) := fun k h => by rw [hd] at h; cases h
  intro left
  induction left with
  | zero =>
    intro _ t _ n v pre W hv hb hB hj hN
    obtain ⟨x, rfl, hx⟩ := hv
    obtain ⟨a0, cap0, rfl, _⟩ := hx
    have X1 := (Ext.refl none' W).alloc (.cells #[.int .i64 t.kind, .string ⟨t.text.toArray⟩, .slice a0 t.kids.length cap0, .int .i64 t.pos] 49)
    have hj1 := hid (hJ _ _ _ hj X1)
    have hk1 := hid (ext_keep (B := B) hb.size X1)
    refine callsIn_of_wp Tryz.func175 rfl hF ?_ hro
    simp only [Tryz.ntmps175, List.size_toArray, List.length_cons, List.length_nil, Nat.reduceAdd, Nat.reduceSub, Array.replicate_succ, Array.replicate_zero, List.push_toArray, List.append_toArray, List.nil_append, List.cons_append]
    gi_wp2
    go_ret
    exact .inl ⟨rfl, [], rfl, by simpa using hj1.out, hk1.out⟩
  | succ k ih =>
    intro hk t hsz n v pre W hv hb hB hj hN
    obtain ⟨x, rfl, hx⟩ := hv
    have HX := hid hx
    obtain ⟨a0, cap0, rfl, _⟩ := hx
    have hle : k ≤ 101 := by omega
    have HIH := hid (ih hle)
    have hll : t.kids.length ≤ bigD := by have := t.kids_len; omega
    unfold bigD at hll
    have HSZ := hid hsz
    have hlen : pre.length < N := by simp [preL] at hN; omega
    have HN := hid hN
    have X1 : Ext none' W (W.alloc (.cells #[.int .i64 t.kind, .string ⟨t.text.toArray⟩, .slice a0 t.kids.length cap0, .int .i64 t.pos] 49)) := (Ext.refl none' W).alloc _
    have g0 : (W.alloc (.cells #[.int .i64 t.kind, .string ⟨t.text.toArray⟩, .slice a0 t.kids.length cap0, .int .i64 t.pos] 49)).heap[W.heap.size]? = some (.cells #[.int .i64 t.kind, .string ⟨t.text.toArray⟩, .slice a0 t.kids.length cap0, .int .i64 t.pos] 49 (0, 0)) := heap_alloc_at rfl _
    have hj1 := hJ _ _ _ hj X1
    obtain ⟨fn, tmps, assign, body, hy, hR⟩ := hY (n - 1) pre (.agg #[.int .i64 t.kind, .string ⟨t.text.toArray⟩, .slice a0 t.kids.length cap0, .int .i64 t.pos], ⟨k + 1, by omega⟩) (W.alloc (.cells #[.int .i64 t.kind, .string ⟨t.text.toArray⟩, .slice a0 t.kids.length cap0, .int .i64 t.pos] 49)) hj1 hlen
    dsimp only [encY] at hy
    have hk1 := hid (ext_keep (B := B) hb.size X1)
    have hne : W.heap.size ≠ B := by omega
    have HNE := hid hne
    have HB0 := hid hb
    have HBb := hid hB
    have hz : (((k + 1 : Nat) : Int) == 0) = false := by simp only [beq_eq_false_iff_ne]; omega
    have hs : ((k + 1 : Nat) : Int) - 1 = (k : Int) := by omega
    obtain ⟨D, hD⟩ : ∃ D : Int, D = ((k + 1 : Nat) : Int) := ⟨_, rfl⟩
    have hDb : D ≤ 101 ∧ 1 ≤ D := by omega
    rw [← hD] at hz hs hy ⊢
    have c0 := cell_at g0 0
    have c1 := cell_at g0 1
    have c2 := cell_at g0 2
    have c3 := cell_at g0 3
    simp only [List.getElem?_toArray, List.getElem?_cons_zero, List.getElem?_cons_succ] at c0 c1 c2 c3
    have C2 := hid c2
    clear g0 hD hne hlen hj1 hN hle hj hb hB X1 ih hsz
    refine callsIn_of_wp Tryz.func175 rfl hF ?_ hro
    simp only [Tryz.ntmps175, List.size_toArray, List.length_cons, List.length_nil, Nat.reduceAdd, Nat.reduceSub, Array.replicate_succ, Array.replicate_zero, List.push_toArray, List.append_toArray, List.nil_append, List.cons_append]
    gi_wp2
    refine hR.mono ?_
    clear hR hy
    rintro e W2 (⟨rfl, hj2, hk2⟩ | ⟨rfl, hx2⟩)
    · have c2 := hk2.cell ⟨W.heap.size, 2, none⟩ _ HNE.out C2.out
      have HJ2 := hid hj2
      have HK2 := hid (hk1.out.trans hk2)
      clear hj2 hk2 c0 c1 c3
      gi_wp2
      gi_loopw [19] (fun z wr => ∃ (i : Nat), z = .int .i64 (i : Nat) ∧ i ≤ t.kids.length ∧ Hid (WkRel t.kids k B w0.heap.size J pre W wr i)) (fun z _ => t.kids.length - (RowKit.intOf z).toNat)
      case atStart => exact ⟨0, rfl, by omega, hid ⟨⟨[(_, ⟨k + 1, by omega⟩)], rfl, HJ2.out⟩, HK2.out⟩⟩
      case round =>
        obtain ⟨i, rfl, hle, R⟩ := hrel
        by_cases hi : i < t.kids.length
        · have XR := Ext.of_below (F := none') (HB0.out.trans R.out.kp.below)
          obtain ⟨b, off, cs, rfl, _, hbw, hcc0, hty⟩ := HX.out.at i hi
          have hcc := hcc0.ext XR hbw (fun h => h)
          obtain ⟨x', rfl, hx'⟩ := hty.parts
          have c0 := hcc 0 _ rfl
          have c1 := hcc 1 _ rfl
          have c2' := hcc 2 _ rfl
          have c3 := hcc 3 _ rfl
          simp only [Nat.add_zero] at c0
          have hmem := List.getElem_mem hi
          have hts : t.kids[i].size ≤ bigD := by have := Nd.size_kid hmem; have := HSZ.out; omega
          obtain ⟨q, hq, hjq⟩ := R.out.q
          have htk : t.kids.take (i + 1) = t.kids.take i ++ [t.kids[i]] := by rw [List.take_add_one, List.getElem?_eq_getElem hi]; rfl
          have hNN : (pre ++ q).length + (preL k t.kids[i]).length ≤ N := by
            have h1 := HN.out
            have h2 : (q.map (fun x => x.2.1)).length = (preLs k (t.kids.take i)).length + 1 := by rw [hq, List.length_cons]
            rw [List.length_map] at h2
            have h3 : (preLs k (t.kids.take (i + 1))).length + (preLs k (t.kids.drop (i + 1))).length = (preLs k t.kids).length := by
              rw [← List.length_append]
              unfold preLs
              rw [← List.flatten_append, ← List.map_append, List.take_append_drop]
            rw [htk, preLs_snoc, List.length_append] at h3
            have h4 : (preL (k + 1) t).length = (preLs k t.kids).length + 1 := rfl
            rw [List.length_append]
            omega
          have HTK : Hid (preLs k (t.kids.take (i + 1)) = preLs k (t.kids.take i) ++ preL k t.kids[i]) := hid (by rw [htk, preLs_snoc])
          obtain ⟨t', ht'⟩ : ∃ t', t.kids[i] = t' := ⟨_, rfl⟩
          rw [ht'] at hty hts hNN HTK c0 c1 c3 hx'
          have HX' := hid hx'
          obtain ⟨a', cap', rfl, _⟩ := hx'
          have XB := (Ext.refl none' wr).alloc (.cells #[.int .i64 t'.kind, .string ⟨t'.text.toArray⟩, .slice a' t'.kids.length cap', .int .i64 t'.pos] 49)
          have KB := hid (R.out.kp.trans (ext_keep (B := B) (XR.size) XB))
          have gk := heap_alloc_at (w := wr) rfl (.cells #[.int .i64 t'.kind, .string ⟨t'.text.toArray⟩, .slice a' t'.kids.length cap', .int .i64 t'.pos] 49)
          have d0 := cell_at gk 0
          have d1 := cell_at gk 1
          have d2 := cell_at gk 2
          have d3 := cell_at gk 3
          simp only [List.getElem?_toArray, List.getElem?_cons_zero, List.getElem?_cons_succ] at d0 d1 d2 d3
          have CI := hid (HIH.out t' hts (n - 1) (.agg #[.int .i64 t'.kind, .string ⟨t'.text.toArray⟩, .slice a' t'.kids.length cap', .int .i64 t'.pos]) (pre ++ q) (wr.alloc (.cells #[.int .i64 t'.kind, .string ⟨t'.text.toArray⟩, .slice a' t'.kids.length cap', .int .i64 t'.pos] 49)) ⟨_, rfl, HX'.out⟩ (HB0.out.trans KB.out.below) (Nat.lt_of_lt_of_le HBb.out KB.out.below.size) (hJ _ _ _ hjq XB) hNN)
          have HQ := hid hq
          clear hcc hcc0 hty hmem hts hNN htk hq hjq XB gk hbw ht'
          gi_wp2_with ((try refine ⟨hdd _, ?_⟩); gi_at_call 175; refine CI.out.mono ?_; clear CI; rintro e W3 (⟨rfl, q2, hq2, hj2, hk2⟩ | ⟨rfl, hx2⟩))
          · have N : Hid (WkRel t.kids k B w0.heap.size J pre W W3 (i + 1)) := hid ⟨⟨q ++ q2, by rw [List.map_append, HQ.out, hq2, HTK.out]; rfl, by rw [← List.append_assoc]; exact hj2⟩, KB.out.trans hk2⟩
            clear hq2 hj2 hk2
            go_roundw
            case rel => exact ⟨i + 1, by go_num, by omega, N⟩
            case measure => simp [RowKit.intOf]; omega
          · go_ret
            exact .inr ⟨rfl, hx2⟩
        · obtain rfl : i = t.kids.length := by omega
          obtain ⟨q, hq, hjq⟩ := R.out.q
          rw [List.take_length] at hq
          have HJQ := hid hjq
          have HQ := hid hq
          clear hjq hq
          gi_wp2
          go_ret
          exact .inl ⟨rfl, q, HQ.out, HJQ.out, R.out.kp⟩
    · gi_wp2
      go_ret
      exact .inr ⟨rfl, _, hx2⟩
end Go.Proofs.YtbhpmmofgdppdaaGreatDoor
/-
  tree.nodes, tree.Size, tree.Depth.
-/
namespace Go.Proofs.YtbhpmmofgdppdaaGreatDoor
open Go.RowKit Go.Lib Go.Shelf
attribute [local go_sem] Oper.semAt_some
theorem cell_of_box_y {W : World} {B : Nat} {v : Value} {t : TypeId} (h : W.heap[B]? = some (.cells #[v] t (0, 0))) : W.cell? ⟨B, 0, none⟩ = some v ∧ W.frozen? ⟨B, 0, none⟩ = false := by
  constructor <;> simp [World.cell?, World.frozen?, h]
theorem cell_new_y (W : World) (v : Value) (t : TypeId) : (W.alloc (.cells #[v] t)).cell? ⟨W.heap.size, 0, none⟩ = some v ∧ (W.alloc (.cells #[v] t)).frozen? ⟨W.heap.size, 0, none⟩ = false :=
  cell_of_box_y (World.alloc_heap_new W _)
/-- tree.nodes: the closure, and where what it has captured lies. -/
theorem nodes_in (F : Fence) (n : Nat) (hF : F.fn 140) (hro : F.round = none) (k : Int) (y0 y1 y2 y3 : Value) (w : World) :
    CallsIn F n Tryz.prog 140 #[.agg #[y0, y1, y2, y3], .int .i64 k] w fun e w' => e = .returned (.func (.func 174) #[] #[.pointer (some ⟨w.heap.size, 0, none⟩), .pointer (some ⟨w.heap.size + 1, 0, none⟩)]) ∧ w' = (w.alloc (.cells #[y0, y1, y2, y3] 49)).alloc (.cells #[.int .i64 k] 3) := by
  refine callsIn_of_wp Tryz.func140 rfl hF ?_ hro
  simp only [Tryz.ntmps140, List.size_toArray, List.length_cons, List.length_nil, Nat.reduceAdd, Nat.reduceSub, Array.replicate_succ, Array.replicate_zero, List.push_toArray, List.append_toArray, List.nil_append, List.cons_append]
  gi_wp2
  go_ret
  exact ⟨rfl, by simp⟩
set_option maxRecDepth 100000 in
set_option maxHeartbeats 2000000 in
theorem nodes1_in (F : Fence) (hd : F.depth = none) (hF : F.fn 174) (hF2 : F.fn 175) (hro : F.round = none) (n lp B bn bk : Nat) (w0 : World) (t : Nd) (hsz : t.size ≤ bigD) (k : Nat) (hk : k ≤ 101) (x : Value) (hv : IsSl 4 IsNd none' w0 x t.kids) (J Jx : List YA → World → Prop)
    (hJ : ∀ s a b, J s a → Ext none' a b → J s b)
    (hY : ∀ (pre : List YA) (x : YA) (W : World), J pre W → pre.length < (preL k t).length → YieldAt F (n - 1) Tryz.prog lp (encY x) W fun e W' => (e = .returned (.bool true) ∧ J (pre ++ [x]) W' ∧ KeepC B w0.heap.size W W') ∨ (e = .returned (.bool false) ∧ Jx (pre ++ [x]) W'))
    (W : World) (hb : Below w0.heap.size w0 W) (hB : B < W.heap.size) (h0 : J [] W)
    (gn : W.heap[bn]? = some (.cells #[.int .i64 t.kind, .string ⟨t.text.toArray⟩, x, .int .i64 t.pos] 49 (0, 0))) (gk : W.heap[bk]? = some (.cells #[.int .i64 (k : Nat)] 3 (0, 0))) :
    CallsIn F n Tryz.prog 174 #[.func (.yield lp) #[] #[], .pointer (some ⟨bn, 0, none⟩), .pointer (some ⟨bk, 0, none⟩)] W fun e W' => (∃ v, e = .returned v) ∧ ((∃ ys : List YA, ys.map (fun x => x.2.1) = preL k t ∧ J ys W') ∨ (∃ pre, True ∧ Jx pre W')) := by
  have hdd : ∀ k : Nat, (F.depth.isSome = true → 1 ≤ k) := fun k h => by rw [hd] at h; cases h
  have HV := hid hv
  obtain ⟨a0, cap0, rfl, _⟩ := hv
  have c0 := cell_at gn 0
  have c1 := cell_at gn 1
  have c2 := cell_at gn 2
  have c3 := cell_at gn 3
  have d0 := cell_at gk 0
  simp only [List.getElem?_toArray, List.getElem?_cons_zero, List.getElem?_cons_succ] at c0 c1 c2 c3 d0
  have CW := hid (walkIn F hd hF2 hro lp B (preL k t).length w0 J Jx hJ (fun m pre x W hj hl => YieldAt.anyY hd m (hY pre x W hj hl)) k hk t hsz (n - 1) _ [] W ⟨_, rfl, HV.out⟩ hb hB h0 (by simp))
  clear gn gk hY hJ h0 hb
  refine callsIn_of_wp Tryz.func174 rfl hF ?_ hro
  simp only [Tryz.ntmps174, List.size_toArray, List.length_cons, List.length_nil, Nat.reduceAdd, Nat.reduceSub, Array.replicate_succ, Array.replicate_zero, List.push_toArray, List.append_toArray, List.nil_append, List.cons_append]
  gi_wp2_with ((try refine ⟨hdd _, ?_⟩); gi_at_call 175; refine CW.out.mono ?_; clear CW; rintro e W3 (⟨rfl, q2, hq2, hj2, hk2⟩ | ⟨rfl, q, hx2⟩))
  · go_end0
    exact ⟨⟨_, rfl⟩, .inl ⟨q2, hq2, by simpa using hj2⟩⟩
  · go_end0
    exact ⟨⟨_, rfl⟩, .inr ⟨q, trivial, hx2⟩⟩
theorem nodes_stops (F : Fence) (hd : F.depth = none) (hF : F.fn 174) (hF2 : F.fn 175) (hro : F.round = none) (n B bn bk : Nat) (w0 w : World) (t : Nd) (hsz : t.size ≤ bigD) (k : Nat) (hk : k ≤ 101) (x : Value) (hv : IsSl 4 IsNd none' w0 x t.kids)
    (hb : Below w0.heap.size w0 w) (hB : B < w.heap.size)
    (gn : w.heap[bn]? = some (.cells #[.int .i64 t.kind, .string ⟨t.text.toArray⟩, x, .int .i64 t.pos] 49 (0, 0))) (gk : w.heap[bk]? = some (.cells #[.int .i64 (k : Nat)] 3 (0, 0))) :
    SeqStopsK F n Tryz.prog 174 #[.pointer (some ⟨bn, 0, none⟩), .pointer (some ⟨bk, 0, none⟩)] encY (KeepC B w0.heap.size) (fun ys => ys.map (fun x => x.2.1) = preL k t) (fun _ => True) (preL k t).length w := fun lp J Jx W hW hJ _ hY h0 =>
  nodes1_in F hd hF hF2 hro n lp B bn bk w0 t hsz k hk x hv J Jx (fun s a b h X => hJ s a b none h (ext_grown X) (fun r e => by cases e)) hY W (hb.trans (hW.mono hb.size)) (Nat.lt_of_lt_of_le hB hW.size) h0
    ((hW.block _ (heap_lt gn)).trans gn) ((hW.block _ (heap_lt gk)).trans gk)
/-- What Depth reckons of what has come. -/
def maxD (l : List YA) : Nat := l.foldl (fun a x => max a (102 - x.2.1)) 0
def maxN (l : List Nat) : Nat := l.foldl (fun a x => max a (102 - x)) 0
theorem maxD_map (l : List YA) : maxD l = maxN (l.map fun x => x.2.1) := by
  unfold maxD maxN
  rw [List.foldl_map]
theorem maxD_snoc (l : List YA) (x : YA) : maxD (l ++ [x]) = max (maxD l) (102 - x.2.1) := by simp [maxD]
theorem maxD_le : ∀ l : List YA, maxD l ≤ 102 := fun l => by
  have key : ∀ (l : List YA) (a : Nat), a ≤ 102 → l.foldl (fun a x => max a (102 - x.2.1)) a ≤ 102 := fun l => by
    induction l with
    | nil => intro a h; exact h
    | cons x r ih => intro a h; exact ih _ (by show max a (102 - x.2.1) ≤ 102; omega)
  exact key l 0 (by omega)
theorem maxN_le (l : List Nat) : maxN l ≤ 102 := by
  have key : ∀ (l : List Nat) (a : Nat), a ≤ 102 → l.foldl (fun a x => max a (102 - x)) a ≤ 102 := fun l => by
    induction l with
    | nil => intro a h; exact h
    | cons x r ih => intro a h; exact ih _ (by show max a (102 - x) ≤ 102; omega)
  exact key l 0 (by omega)
def depthN (t : Nd) : Nat := maxN (preL 101 t)
theorem preL_len : ∀ (k : Nat) (t : Nd), (preL k t).length = sizeD k t
  | 0, _ => rfl
  | k + 1, t => by
    rw [preL, sizeD, List.length_cons, List.length_flatten, List.map_map]
    have : (List.length ∘ preL k) = sizeD k := funext fun x => preL_len k x
    rw [this]
    omega
theorem keep_set {B n : Nat} {W : World} (hn : n ≤ B) (u : Value) : KeepC B n W (W.setCell ⟨B, 0, none⟩ u) :=
  ⟨(Below.refl n W).setCell (p := ⟨B, 0, none⟩) hn _, fun _ _ hp hv => (((Ext.refl (one B) W).set 0 u).cell (World.block_lt_of_cell? W _ hv) hp).trans hv⟩
set_option maxRecDepth 100000 in
set_option maxHeartbeats 3200000 in
theorem tsize_in (F : Fence) (hd : F.depth = none) (hF : ∀ f, F.fn f) (hro : F.round = none) (n : Nat) (hn : 3 ≤ n) (t : Nd) (hsz : t.size ≤ bigD) (v : Value) (w : World) (hv : NdV none' w t v) : CallsIn F n Tryz.prog 121 #[v] w (IntP (sizeD 100 t : Nat) w) := by
  obtain ⟨x, rfl, hx⟩ := hv
  have HX := hid hx
  obtain ⟨a0, cap0, rfl, _⟩ := hx
  have h1 : 1 ≤ n := by omega
  have hdd : ∀ k : Nat, (F.depth.isSome = true → 1 ≤ k) := fun k h => by rw [hd] at h; cases h
  have hbd : sizeD 100 t ≤ 20000000000 := by have := sizeD_le 100 t; unfold bigD at hsz; omega
  have HSZ := hid hsz
  clear hsz
  refine callsIn_of_wp_marks Tryz.func121 rfl (hF _) ?_ hro
  simp only [Tryz.ntmps121, List.size_toArray, List.length_cons, List.length_nil, Nat.reduceAdd, Nat.reduceSub, Array.replicate_succ, Array.replicate_zero, List.push_toArray, List.append_toArray, List.nil_append, List.cons_append]
  gi_wp2_with ((try refine ⟨hdd _, ?_⟩); gi_at_call 140; refine (nodes_in F (n - 1) (hF _) hro _ _ _ _ _ _).mono ?_; rintro e w' ⟨rfl, rfl⟩)
  obtain ⟨W4, hW4⟩ : ∃ W4, W4 = (((w.alloc (.cells #[.int .i64 t.kind, .string ⟨t.text.toArray⟩, .slice a0 t.kids.length cap0, .int .i64 t.pos] 49)).alloc (.cells #[.int .i64 0] 3)).alloc (.cells #[.int .i64 t.kind, .string ⟨t.text.toArray⟩, .slice a0 t.kids.length cap0, .int .i64 t.pos] 49)).alloc (.cells #[.int .i64 100] 3) := ⟨_, rfl⟩
  rw [← hW4]
  have XW : Ext none' w W4 := by rw [hW4]; exact ((((Ext.refl none' w).alloc _).alloc _).alloc _).alloc _
  have gB : W4.heap[w.heap.size + 1]? = some (.cells #[.int .i64 0] 3 (0, 0)) := by rw [hW4]; exact heap_alloc_keep (heap_alloc_keep (heap_alloc_at (by simp) _) _) _
  have gn : W4.heap[w.heap.size + 1 + 1]? = some (.cells #[.int .i64 t.kind, .string ⟨t.text.toArray⟩, .slice a0 t.kids.length cap0, .int .i64 t.pos] 49) := by rw [hW4]; exact heap_alloc_keep (heap_alloc_at (by simp) _) _
  have gk : W4.heap[w.heap.size + 1 + 1 + 1]? = some (.cells #[.int .i64 100] 3 (0, 0)) := by rw [hW4]; exact heap_alloc_at (by simp) _
  have hB0 : Below w.heap.size w W4 := XW.below (Nat.le_refl _) fun _ _ h => h
  have hst := nodes_stops F hd (hF _) (hF _) hro (n - 1) (w.heap.size + 1) (w.heap.size + 1 + 1) (w.heap.size + 1 + 1 + 1) w W4 t HSZ.out 100 (by omega) _ HX.out hB0 (heap_lt gB) gn gk
  have hsB : w.heap.size + 1 < W4.heap.size := heap_lt gB
  clear hW4 gn gk
  refine wpIn_rangeFunc_ownF hro h1 (gf := 174) (lb := #[.pointer (some ⟨w.heap.size + 1 + 1, 0, none⟩), .pointer (some ⟨w.heap.size + 1 + 1 + 1, 0, none⟩)]) rfl (hF _) (enters_of Tryz.func174 (by kernel_rfl) rfl) hst
    (fun h k => h.trans k) (fun W l o o' hl h hc hw => keepC_b (by omega) W l o o' hl h hc hw) (Below.refl _ _) (fun _ => rfl)
    (fun pre W => (W.cell? ⟨w.heap.size + 1, 0, none⟩ = some (.int .i64 (pre.length : Nat)) ∧ W.frozen? ⟨w.heap.size + 1, 0, none⟩ = false) ∧ Below w.heap.size w W)
    (fun _ _ _ => False)
    (OwnFrom.and (Own.from (fun s A B row hs hg hr => ⟨cell_kept hs.1 hg hr, (frozen_kept hs.1 hg hr).trans hs.2⟩) _) (ownFrom_below (Nat.le_refl _) (by omega)))
    (fun _ _ _ _ _ hs _ _ => hs)
    ⟨cell_of_box_y gB, hB0⟩
    (fun x => { tmps := #[(.agg #[.int .i64 t.kind, .string ⟨t.text.toArray⟩, .slice a0 t.kids.length cap0, .int .i64 t.pos]), .pointer (some ⟨w.heap.size, 0, none⟩), .int .i64 0, .pointer (some ⟨w.heap.size + 1, 0, none⟩), (.agg #[.int .i64 t.kind, .string ⟨t.text.toArray⟩, .slice a0 t.kids.length cap0, .int .i64 t.pos]), .func (.func 174) #[] #[.pointer (some ⟨w.heap.size + 1 + 1, 0, none⟩), .pointer (some ⟨w.heap.size + 1 + 1 + 1, 0, none⟩)], x.1, .int .i64 ((x.2.1 : Nat) : Int), undef, undef, undef], defers := [] }) ?assign ?body ?done ?stop
  case assign =>
    intro l x W K hK
    unfold encY
    gi_wp2
    simpa using hK
  case body =>
    rintro l pre x W ⟨⟨hc, hf⟩, hB⟩ hlt
    have hlt : pre.length < sizeD 100 t := by rw [preL_len] at hlt; exact hlt
    gi_wp2
    exact ⟨KeepsOthers.setCell _ _ _, keep_set (by omega) _, ⟨by rw [World.cell?_setCell_same' _ _ _ (by rw [hc]; rfl)]; simp, by rw [World.frozen?_setCell]; exact hf⟩, hB.setCell (p := ⟨w.heap.size + 1, 0, none⟩) (by simp) _⟩
  case done =>
    rintro D ys W hD hys ⟨⟨hc, _⟩, hB⟩ hK
    gi_wp2
    refine ⟨by simp, .inl ⟨_, _, rfl, run_takeDeferred hK, ?_⟩⟩
    exact ⟨_, results_tmp rfl _ _ _, by rw [← preL_len, ← hys, List.length_map]; rfl, Ext.of_below (hB.trans (belowK_b (w := w) (Nat.le_refl _) W D _ _ (by omega) hK rfl rfl))⟩
  case stop =>
    rintro D c pre W _ _ h _
    exact h.elim
set_option maxRecDepth 100000 in
set_option maxHeartbeats 3200000 in
theorem tdepth_in (F : Fence) (hd : F.depth = none) (hF : ∀ f, F.fn f) (hro : F.round = none) (n : Nat) (hn : 3 ≤ n) (t : Nd) (hsz : t.size ≤ bigD) (v : Value) (w : World) (hv : NdV none' w t v) : CallsIn F n Tryz.prog 120 #[v] w (IntP (depthN t : Nat) w) := by
  obtain ⟨x, rfl, hx⟩ := hv
  have HX := hid hx
  obtain ⟨a0, cap0, rfl, _⟩ := hx
  have h1 : 1 ≤ n := by omega
  have hdd : ∀ k : Nat, (F.depth.isSome = true → 1 ≤ k) := fun k h => by rw [hd] at h; cases h
  have HSZ := hid hsz
  clear hsz
  refine callsIn_of_wp_marks Tryz.func120 rfl (hF _) ?_ hro
  simp only [Tryz.ntmps120, List.size_toArray, List.length_cons, List.length_nil, Nat.reduceAdd, Nat.reduceSub, Array.replicate_succ, Array.replicate_zero, List.push_toArray, List.append_toArray, List.nil_append, List.cons_append]
  gi_wp2_with ((try refine ⟨hdd _, ?_⟩); gi_at_call 140; refine (nodes_in F (n - 1) (hF _) hro _ _ _ _ _ _).mono ?_; rintro e w' ⟨rfl, rfl⟩)
  obtain ⟨W4, hW4⟩ : ∃ W4, W4 = (((w.alloc (.cells #[.int .i64 t.kind, .string ⟨t.text.toArray⟩, .slice a0 t.kids.length cap0, .int .i64 t.pos] 49)).alloc (.cells #[.int .i64 0] 3)).alloc (.cells #[.int .i64 t.kind, .string ⟨t.text.toArray⟩, .slice a0 t.kids.length cap0, .int .i64 t.pos] 49)).alloc (.cells #[.int .i64 101] 3) := ⟨_, rfl⟩
  rw [← hW4]
  have XW : Ext none' w W4 := by rw [hW4]; exact ((((Ext.refl none' w).alloc _).alloc _).alloc _).alloc _
  have gB : W4.heap[w.heap.size + 1]? = some (.cells #[.int .i64 0] 3 (0, 0)) := by rw [hW4]; exact heap_alloc_keep (heap_alloc_keep (heap_alloc_at (by simp) _) _) _
  have gn : W4.heap[w.heap.size + 1 + 1]? = some (.cells #[.int .i64 t.kind, .string ⟨t.text.toArray⟩, .slice a0 t.kids.length cap0, .int .i64 t.pos] 49) := by rw [hW4]; exact heap_alloc_keep (heap_alloc_at (by simp) _) _
  have gk : W4.heap[w.heap.size + 1 + 1 + 1]? = some (.cells #[.int .i64 101] 3 (0, 0)) := by rw [hW4]; exact heap_alloc_at (by simp) _
  have hB0 : Below w.heap.size w W4 := XW.below (Nat.le_refl _) fun _ _ h => h
  have hst := nodes_stops F hd (hF _) (hF _) hro (n - 1) (w.heap.size + 1) (w.heap.size + 1 + 1) (w.heap.size + 1 + 1 + 1) w W4 t HSZ.out 101 (by omega) _ HX.out hB0 (heap_lt gB) gn gk
  have hsB : w.heap.size + 1 < W4.heap.size := heap_lt gB
  clear hW4 gn gk
  refine wpIn_rangeFunc_ownF hro h1 (gf := 174) (lb := #[.pointer (some ⟨w.heap.size + 1 + 1, 0, none⟩), .pointer (some ⟨w.heap.size + 1 + 1 + 1, 0, none⟩)]) rfl (hF _) (enters_of Tryz.func174 (by kernel_rfl) rfl) hst
    (fun h k => h.trans k) (fun W l o o' hl h hc hw => keepC_b (by omega) W l o o' hl h hc hw) (Below.refl _ _) (fun _ => rfl)
    (fun pre W => (W.cell? ⟨w.heap.size + 1, 0, none⟩ = some (.int .i64 (maxD pre : Nat)) ∧ W.frozen? ⟨w.heap.size + 1, 0, none⟩ = false) ∧ Below w.heap.size w W)
    (fun _ _ _ => False)
    (OwnFrom.and (Own.from (fun s A B row hs hg hr => ⟨cell_kept hs.1 hg hr, (frozen_kept hs.1 hg hr).trans hs.2⟩) _) (ownFrom_below (Nat.le_refl _) (by omega)))
    (fun _ _ _ _ _ hs _ _ => hs)
    ⟨cell_of_box_y gB, hB0⟩
    (fun x => { tmps := #[(.agg #[.int .i64 t.kind, .string ⟨t.text.toArray⟩, .slice a0 t.kids.length cap0, .int .i64 t.pos]), .pointer (some ⟨w.heap.size, 0, none⟩), .int .i64 0, .pointer (some ⟨w.heap.size + 1, 0, none⟩), undef, .int .i64 ((x.2.1 : Nat) : Int), (.agg #[.int .i64 t.kind, .string ⟨t.text.toArray⟩, .slice a0 t.kids.length cap0, .int .i64 t.pos]), .func (.func 174) #[] #[.pointer (some ⟨w.heap.size + 1 + 1, 0, none⟩), .pointer (some ⟨w.heap.size + 1 + 1 + 1, 0, none⟩)], x.1, .int .i64 ((x.2.1 : Nat) : Int), undef, undef, undef, undef, undef], defers := [] }) ?assign ?body ?done ?stop
  case assign =>
    intro l x W K hK
    unfold encY
    gi_wp2
    exact hK
  case body =>
    rintro l pre x W ⟨⟨hc, hf⟩, hB⟩ hlt
    have h2 := x.2.2
    have h3 := maxD_le pre
    gi_wp2
    all_goals exact ⟨KeepsOthers.setCell _ _ _, keep_set (by omega) _, ⟨by rw [World.cell?_setCell_same' _ _ _ (by rw [hc]; rfl)]; simp only [Option.some.injEq, Value.int.injEq, true_and]; rw [maxD_snoc]; omega, by rw [World.frozen?_setCell]; exact hf⟩, hB.setCell (p := ⟨w.heap.size + 1, 0, none⟩) (by simp) _⟩
  case done =>
    rintro D ys W hD hys ⟨⟨hc, _⟩, hB⟩ hK
    gi_wp2
    refine ⟨by simp, .inl ⟨_, _, rfl, run_takeDeferred hK, ?_⟩⟩
    exact ⟨_, results_tmp rfl _ _ _, by rw [maxD_map, hys]; rfl, Ext.of_below (hB.trans (belowK_b (w := w) (Nat.le_refl _) W D _ _ (by omega) hK rfl rfl))⟩
  case stop =>
    rintro D c pre W _ _ h _
    exact h.elim
theorem tsize_any (t : Nd) (hsz : t.size ≤ bigD) (v : Value) (w : World) (hv : NdV none' w t v) : Calls Tryz.prog 121 #[v] w (IntP (sizeD 100 t : Nat) w) :=
  callsIn_wide.1 (tsize_in Fence.wide rfl (fun _ => trivial) rfl 3 (Nat.le_refl _) t hsz v w hv)
theorem tdepth_any (t : Nd) (hsz : t.size ≤ bigD) (v : Value) (w : World) (hv : NdV none' w t v) : Calls Tryz.prog 120 #[v] w (IntP (depthN t : Nat) w) :=
  callsIn_wide.1 (tdepth_in Fence.wide rfl (fun _ => trivial) rfl 3 (Nat.le_refl _) t hsz v w hv)
end Go.Proofs.YtbhpmmofgdppdaaGreatDoor
