import Derived.Test.YthbmjamgidfneaaGreatDoorVAb
import Derived.Test.YthbmjamgidfneaaGreatDoorVAf
import Derived.Test.YthbmjamgidfneaaGreatDoorVAg
import Derived.RangeFuncNested
import Derived.RangeFuncBound
import Derived.RangeFuncCalls
import Derived.RangeFuncLeaves
import Derived.RangeFuncKeeps
import Derived.RangeFuncFrom
import Derived.Shelf.Abstract
import Derived.Shelf.RegionOpen
import Derived.OwnWalkIn
import Derived.TacticsInMore
import Derived.LoopNIn
import Derived.LoopIn
set_option maxRecDepth 100000
set_option maxHeartbeats 6400000
namespace Go.Proofs.YthbmjamgidfneaaGreatDoor
open Go.RowKit Go.Lib
set_option linter.unusedVariables false
def agree (l : List Nd) : List (Nd → Bool) → List (Nd → Bool) → Prop
 | [], [] => True
 | p :: ps, q :: qs => (∀ x ∈ l, p x = q x) ∧ agree l ps qs
 | _, _ => False
theorem agree_tail {a : Nd} {l : List Nd} : ∀ {ps qs : List (Nd → Bool)}, agree (a :: l) ps qs → agree l ps qs
 | [], [], _ => trivial
 | p :: ps, q :: qs, h => ⟨fun x hx => h.1 x (by simp [hx]), agree_tail h.2⟩
 | [], _ :: _, h => h.elim
 | _ :: _, [], h => h.elim
theorem kidsB_agree : ∀ {l : List Nd} {ps qs : List (Nd → Bool)}, agree l ps qs → kidsB ps l = kidsB qs l
 | [], [], [], _ => rfl
 | _ :: _, [], [], _ => rfl
 | [], p :: ps, q :: qs, _ => rfl
 | a :: l, p :: ps, q :: qs, h => by
  rw [kidsB, kidsB, h.1 a (by simp), kidsB_agree (agree_tail h.2)]
 | [], [], _ :: _, h => h.elim
 | _ :: _, [], _ :: _, h => h.elim
 | [], _ :: _, [], h => h.elim
 | _ :: _, _ :: _, [], h => h.elim
theorem ofB_agree {k : Int} {ps qs : List (Nd → Bool)} {t : Nd} (h : agree t.kids ps qs) : ofB k ps t = ofB k qs t := by unfold ofB; rw [kidsB_agree h]
theorem namB_agree {so : List UInt8 → Bool} {k : Int} {ps qs : List (Nd → Bool)} {t : Nd} (h : agree t.kids ps qs) : namB so k ps t = namB so k qs t := by unfold namB; rw [kidsB_agree h]
theorem all_agree {l : List Nd} {p q : Nd → Bool} (h : ∀ x ∈ l, p x = q x) : l.all p = l.all q := by
 induction l with
 | nil => rfl
 | cons a r ih => rw [List.all_cons, List.all_cons, h a (by simp), ih fun x hx => h x (by simp [hx])]
def SameIn (t : Nd) (p q : Nd → Bool) : Prop := ∀ x, x.size < t.size → p x = q x
theorem SameIn.kid {t x : Nd} {p q : Nd → Bool} (h : SameIn t p q) (hx : x ∈ t.kids) : SameIn x p q := fun y hy => h y (by have := Nd.size_kid hx; omega)
theorem SameIn.at {t x : Nd} {p q : Nd → Bool} (h : SameIn t p q) (hx : x ∈ t.kids) : p x = q x := h x (Nd.size_kid hx)
theorem orB_same {p q p' q' : Nd → Bool} {x : Nd} (h1 : p x = p' x) (h2 : q x = q' x) : orB p q x = orB p' q' x := by unfold orB; rw [h1, h2]
theorem listB_same {p q : Nd → Bool} {t : Nd} (h : ∀ x ∈ t.kids, p x = q x) : listB p t = listB q t := by unfold listB; rw [all_agree h]
theorem blkB_same {p q : Nd → Bool} {t : Nd} (h : SameIn t p q) : blkB p t = blkB q t := by unfold blkB; rw [all_agree fun x hx => h.at hx]
theorem sigB_same {p q : Nd → Bool} {so : List UInt8 → Bool} {t : Nd} (h : SameIn t p q) : sigB p so t = sigB q so t := by
 unfold sigB
 refine ofB_agree ⟨fun x hx => listB_same fun y hy => namB_agree ⟨fun z hz => ((h.kid hx).kid hy).at hz, trivial⟩, fun x hx => ?_, trivial⟩
 show (emptyB x || p x) = (emptyB x || q x)
 rw [h.at hx]
theorem tyB_same {nm : List UInt8 → Bool} {f g : Nat} {t : Nd} (h : SameIn t (tyF nm f) (tyF nm g)) : tyF nm (f + 1) t = tyF nm (g + 1) t := by
 rw [tyF, tyF]
 rw [all_agree fun x hx => h.at hx, ofB_agree (k := 11) (ps := [tyF nm f]) (qs := [tyF nm g]) ⟨fun x hx => h.at hx, trivial⟩, sigB_same h]
theorem ty_stable (nm : List UInt8 → Bool) : ∀ (f : Nat) (t : Nd), t.size ≤ f → tyF nm (f + 1) t = tyF nm f t
 | 0, t, h => by have := t.size_pos; omega
 | f + 1, t, h => tyB_same fun x hx => ty_stable nm f x (by omega)
theorem varB_same {ty ty' ex ex' : Nd → Bool} {t : Nd} (h1 : SameIn t ty ty') (h2 : SameIn t ex ex') : varB ty ex t = varB ty' ex' t := by
 unfold varB
 rw [namB_agree (t := t) (ps := [orB emptyB ty, orB emptyB ex]) (qs := [orB emptyB ty', orB emptyB ex']) ⟨fun x hx => orB_same rfl (h1.at hx), fun x hx => orB_same rfl (h2.at hx), trivial⟩]
theorem kid_or {t : Nd} (i : Nat) : t.kid i ∈ t.kids ∨ t.kids.length ≤ i := by
 by_cases h : i < t.kids.length
 · left
   have e : t.kid i = t.kids[i] := by unfold Nd.kid; rw [List.getD_eq_getElem?_getD, List.getElem?_eq_getElem h]; rfl
   rw [e]; exact List.getElem_mem h
 · exact .inr (by omega)
theorem exB_same {ty ty' ex ex' st st' : Nd → Bool} {t : Nd} (h1 : SameIn t ty ty') (h2 : SameIn t ex ex') (h3 : SameIn t st st') : exB ty ex st t = exB ty' ex' st' t := by
 unfold exB
 have hd : ∀ x ∈ t.kids.drop 1, x ∈ t.kids := fun x hx => List.mem_of_mem_drop hx
 rw [namB_agree (so := unB) (t := t) (ps := [ex]) (qs := [ex']) ⟨fun x hx => h2.at hx, trivial⟩, namB_agree (so := binB) (t := t) (ps := [ex, ex]) (qs := [ex', ex']) ⟨fun x hx => h2.at hx, fun x hx => h2.at hx, trivial⟩, all_agree (l := t.kids) (p := ex) (q := ex') fun x hx => h2.at hx,
  all_agree (l := t.kids.drop 1) (p := argB ty ex) (q := argB ty' ex') fun x hx => by unfold argB; rw [h2.at (hd x hx), h1.at (hd x hx)],
  namB_agree (so := nmB) (k := 23) (t := t) (ps := [ex]) (qs := [ex']) ⟨fun x hx => h2.at hx, trivial⟩, all_agree (l := t.kids.drop 1) (p := ex) (q := ex') fun x hx => h2.at (hd x hx),
  ofB_agree (k := 25) (t := t) (ps := [sigB ty nmB, blkB st]) (qs := [sigB ty' nmB, blkB st']) ⟨fun x hx => sigB_same (h1.kid hx), fun x hx => blkB_same (h3.kid hx), trivial⟩]
 rcases kid_or (t := t) 0 with hk | hk
 · rw [h2.at hk, h1.at hk]
 · have hl : t.kids = [] := List.eq_nil_of_length_eq_zero (by omega)
   rw [hl]; simp
theorem shB_same {ex ex' : Nd → Bool} {t : Nd} (h : SameIn t ex ex') : shB ex t = shB ex' t := namB_agree ⟨fun x hx => h.at hx, trivial⟩
theorem setB_same {ex ex' : Nd → Bool} {t : Nd} (h : SameIn t ex ex') : setB ex t = setB ex' t := ofB_agree ⟨fun x hx => h.at hx, fun x hx => h.at hx, trivial⟩
theorem incrB_same {ex ex' : Nd → Bool} {t : Nd} (h : SameIn t ex ex') : incrB ex t = incrB ex' t := namB_agree ⟨fun x hx => h.at hx, trivial⟩
theorem callB_same {ex ex' : Nd → Bool} {t : Nd} (h : SameIn t ex ex') : callB ex t = callB ex' t := ofB_agree ⟨fun x hx => by unfold isCallB; rw [h.at hx], trivial⟩
theorem stB_same {ty ty' ex ex' st st' : Nd → Bool} {t : Nd} (h1 : SameIn t ty ty') (h2 : SameIn t ex ex') (h3 : SameIn t st st') : stB ty ex st t = stB ty' ex' st' t := by
 have hifs : ifsB ex st t = ifsB ex' st' t := ofB_agree ⟨fun x hx => h2.at hx, fun x hx => blkB_same (h3.kid hx), fun x hx => orB_same (orB_same rfl (blkB_same (h3.kid hx))) (by unfold ifB; rw [h3.at hx]), trivial⟩
 unfold stB
 rw [varB_same h1 h2, shB_same h2, setB_same h2, incrB_same h2, callB_same h2, hifs, blkB_same h3,
  ofB_agree (k := 31) (t := t) (ps := [orB (orB emptyB (shB ex)) (orB (setB ex) (incrB ex)), orB emptyB ex, orB (orB emptyB (setB ex)) (orB (incrB ex) (callB ex)), blkB st]) (qs := [orB (orB emptyB (shB ex')) (orB (setB ex') (incrB ex')), orB emptyB ex', orB (orB emptyB (setB ex')) (orB (incrB ex') (callB ex')), blkB st']) ⟨fun x hx => orB_same (orB_same rfl (shB_same (h2.kid hx))) (orB_same (setB_same (h2.kid hx)) (incrB_same (h2.kid hx))), fun x hx => orB_same rfl (h2.at hx), fun x hx => orB_same (orB_same rfl (setB_same (h2.kid hx))) (orB_same (incrB_same (h2.kid hx)) (callB_same (h2.kid hx))), fun x hx => blkB_same (h3.kid hx), trivial⟩,
  namB_agree (so := rngB) (t := t) (ps := [ex, blkB st]) (qs := [ex', blkB st']) ⟨fun x hx => h2.at hx, fun x hx => blkB_same (h3.kid hx), trivial⟩,
  ofB_agree (k := 33) (t := t) (ps := [orB emptyB ex]) (qs := [orB emptyB ex']) ⟨fun x hx => orB_same rfl (h2.at hx), trivial⟩]
theorem lv_stable : ∀ (f : Nat) (t : Nd), t.size ≤ f → exF (f + 1) t = exF f t ∧ stF (f + 1) t = stF f t
 | 0, t, h => by have := t.size_pos; omega
 | f + 1, t, h => by
  have h1 : SameIn t (tyF nmB (f + 1)) (tyF nmB f) := fun x hx => ty_stable nmB f x (by omega)
  have h2 : SameIn t (exF (f + 1)) (exF f) := fun x hx => (lv_stable f x (by omega)).1
  have h3 : SameIn t (stF (f + 1)) (stF f) := fun x hx => (lv_stable f x (by omega)).2
  exact ⟨exB_same h1 h2 h3, stB_same h1 h2 h3⟩
theorem stF_block {f : Nat} {t : Nd} (ht : t.size ≤ f) (h : blkB (stF f) t = true) : stF f t = true := by
 have hk : t.kind = 36 := by unfold blkB at h; simp only [Bool.and_eq_true, beq_iff_eq] at h; exact h.1
 rw [← (lv_stable f t ht).2, stF_succ]
 unfold stB
 rw [if_neg (by omega), if_neg (by omega), if_neg (by omega), if_neg (by omega), if_neg (by omega), if_neg (by omega), if_neg (by omega), if_neg (by omega), if_neg (by omega), if_neg (by omega), if_neg (by omega)]
 exact h
theorem lens_all : ∀ (f deep : Nat), deep + f ≤ 1200000 → (∀ t, t.size ≤ f → exF f t = true → ExLen deep (exT f) t) ∧ (∀ t, t.size ≤ f → stF f t = true → (stT f deep t).length + 1250000 ≤ 4000000 * t.size)
 | 0, deep, _ => ⟨fun t h => by have := t.size_pos; omega, fun t h => by have := t.size_pos; omega⟩
 | f + 1, deep, h => by
  have i0 := lens_all f deep (by omega)
  have i1 := lens_all f (deep + 1) (by omega)
  exact ⟨fun t ht he => ex_len_step f deep h i0.1 i1.2 t ht he,
   fun t ht hs => st_len_step f deep h i0.1 i1.2 i0.2 (fun x hx hb _ => i0.2 x hx (stF_block hx hb)) t ht hs⟩
end Go.Proofs.YthbmjamgidfneaaGreatDoor
namespace Go.Proofs.YthbmjamgidfneaaGreatDoor
open Go.RowKit Go.Lib Go.BigFrame
theorem nsize_any : ∀ (f : Nat), f ≤ 100000 → ∀ (t : Nd), t.size ≤ bigD → ∀ (A : Nat → Prop) (v : Value) (w : World), NdV A w t v → Calls Tryz.prog 20 #[v, .int .i64 (f : Nat)] w (IntP (sizeD f t : Nat) w) := by
 intro f
 induction f with
 | zero =>
  intro _ t _ A v w hv
  obtain ⟨x, rfl, hx⟩ := hv
  obtain ⟨a0, cap0, rfl, _⟩ := hx
  go_enter Tryz.func20, Tryz.ntmps20
  go_wp2_with fail
  go_ret
  exact ⟨rfl, (Ext.refl _ _).alloc _⟩
 | succ f ih =>
  intro hf t hsz A v w hv
  cases t with
  | mk k n l ps =>
  obtain ⟨p, hp⟩ : ∃ p, p = sizeD (f + 1) (.mk k n l ps) := ⟨_, rfl⟩
  rw [← hp]
  have hp : p = 1 + sizeDL f l := hp
  have HP := hid hp
  obtain ⟨x, rfl, hx⟩ := hv
  have hx : IsSl 4 IsNd A w x l := hx
  have HX := hid hx
  obtain ⟨a0, cap0, rfl, _⟩ := hx
  have HIH := hid (ih (by omega))
  have hll : l.length ≤ bigD := by have := Nd.kids_len (.mk k n l ps); simp only [Nd.kids] at this; omega
  unfold bigD at hll
  have HSZ := hid hsz
  clear ih hp hsz
  show Calls Tryz.prog 20 #[.agg #[.int .i64 k, .string ⟨n.toArray⟩, .slice a0 l.length cap0, .int .i64 ps], .int .i64 ((f + 1 : Nat) : Nat)] w (IntP (p : Nat) w)
  obtain ⟨B, hB⟩ : ∃ B, B = w.heap.size := ⟨_, rfl⟩
  have g0 := heap_alloc_at (w := w) hB (.cells #[.int .i64 k, .string ⟨n.toArray⟩, .slice a0 l.length cap0, .int .i64 ps] 24)
  obtain ⟨W1, hW1⟩ : ∃ W1, W1 = w.alloc (.cells #[.int .i64 k, .string ⟨n.toArray⟩, .slice a0 l.length cap0, .int .i64 ps] 24) := ⟨_, rfl⟩
  have X1 : Ext none' w W1 := by rw [hW1]; exact (Ext.refl _ _).alloc _
  rw [← hW1] at g0
  have HX1 := hid (HX.out.ext isNd_good X1 fun _ _ h => h.elim)
  have X1 := hid X1
  have hb2 : Hid (∀ W, Ext none' W1 W → W.cell? ⟨B, 2, none⟩ = some (.slice a0 l.length cap0)) := hid fun W X => by rw [cell_at (X.heap g0 (fun h => h))]; rfl
  have hz : (((f + 1 : Nat) : Int) == 0) = false := by simp only [beq_eq_false_iff_ne]; omega
  have hs : ((f + 1 : Nat) : Int) - 1 = (f : Int) := by omega
  obtain ⟨F, hF⟩ : ∃ F : Int, F = ((f + 1 : Nat) : Int) := ⟨_, rfl⟩
  have hFb : F ≤ 100000 ∧ 1 ≤ F := by omega
  rw [← hF] at hz hs ⊢
  clear g0 hF
  go_enter Tryz.func20, Tryz.ntmps20
  go_wp2_with fail
  rw [← hW1, ← hB]
  clear hB hW1
  go_loopw [5, 6] (fun c z wr => ∃ (i : Nat), z = .int .i64 (i : Nat) ∧ i ≤ l.length ∧ c = .int .i64 ((1 + sizeDL f (l.take i) : Nat) : Nat) ∧ Hid (Ext none' W1 wr)) (fun _ z _ => l.length - (RowKit.intOf z).toNat)
  case atStart => exact ⟨0, rfl, by omega, rfl, hid (Ext.refl _ _)⟩
  case round =>
   obtain ⟨i, rfl, hle, rfl, HR⟩ := hrel
   have b2 := hb2.out _ HR.out
   by_cases hi : i < l.length
   · obtain ⟨b, off, cs, rfl, hAb, hbw, hcc, hty⟩ := (HX1.out.ext isNd_good HR.out fun _ _ h => h.elim).at i hi
     obtain ⟨x', rfl, hx'⟩ := hty.parts
     have c0 := hcc 0 _ rfl
     have c1 := hcc 1 _ rfl
     have c2 := hcc 2 _ rfl
     have c3 := hcc 3 _ rfl
     simp only [Nat.add_zero] at c0
     have hmem := List.getElem_mem hi
     have hts : l[i].size ≤ bigD := by have := Nd.size_kid (t := .mk k n l ps) hmem; have := HSZ.out; omega
     have HX2 := hid hx'
     obtain ⟨a', cap', rfl, _⟩ := hx'
     have CS := hid (HIH.out l[i] hts A (.agg #[.int .i64 l[i].kind, .string ⟨l[i].text.toArray⟩, .slice a' l[i].kids.length cap', .int .i64 l[i].pos]) wr ⟨_, rfl, HX2.out⟩)
     have htake : l.take (i + 1) = l.take i ++ [l[i]] := by rw [List.take_add_one, List.getElem?_eq_getElem hi]; rfl
     have hsn : 1 + sizeDL f (l.take (i + 1)) = 1 + sizeDL f (l.take i) + sizeD f l[i] := by rw [htake, sizeDL_snoc]; omega
     have hbd : sizeD f l[i] ≤ 20000000000 := by have := sizeD_le f l[i]; unfold bigD at hts; omega
     have htk := sizeDL_take f l i
     have hfull : Nd.sizeL l ≤ 20000000000 := by have := HSZ.out; rw [Nd.size] at this; unfold bigD at this; omega
     have hcl : 1 + sizeDL f (l.take i) ≤ 20000000001 := by omega
     obtain ⟨q, hq⟩ : ∃ q, sizeD f l[i] = q := ⟨_, rfl⟩
     obtain ⟨c, hc⟩ : ∃ c, 1 + sizeDL f (l.take i) = c := ⟨_, rfl⟩
     rw [hq] at CS hsn hbd
     rw [hc] at hsn hcl ⊢
     have HSN := hid hsn
     clear hcc hty hsn htake hq hc htk hfull hts
     go_wp2_with fail
     refine CS.out.mono ?_
     rintro e w2 ⟨rfl, X2⟩
     have X2 := hid (HR.out.trans X2)
     go_wp2_with fail
     go_roundw
     case rel => exact ⟨i + 1, by go_num, by omega, by rw [HSN.out]; rfl, X2⟩
     case measure => simp [RowKit.intOf]; omega
   · obtain rfl : i = l.length := by omega
     have e1 : Hid (1 + sizeDL f (l.take l.length) = p) := hid (by rw [HP.out, List.take_length])
     rw [e1.out]
     go_wp2_with fail
     go_ret
     exact ⟨rfl, X1.out.trans HR.out⟩
end Go.Proofs.YthbmjamgidfneaaGreatDoor
namespace Go.Proofs.YthbmjamgidfneaaGreatDoor
open Go.RowKit Go.Lib Go.Shelf
attribute [local go_sem] Oper.semAt_some
theorem room_of_y {F : Fence} (hd : F.depth = none) (k : Nat) : F.room k := fun d h => by rw [hd] at h; cases h
theorem YieldAt.anyY {F : Fence} (hd : F.depth = none) {m : Nat} (m' : Nat) {P : Program} {l : Nat} {args : Array Value} {W : World} {R : Ending → World → Prop} (h : YieldAt F m P l args W R) : YieldAt F m' P l args W R := by
 obtain ⟨fn, tmps, assign, body, hy, hR⟩ := h
 exact ⟨fn, tmps, assign, body, hy, ⟨hR.1, fun c cs _ => hR.2 c cs (room_of_y hd _)⟩⟩
def preL : Nat → Nd → List Nat
 | 0, _ => []
 | k + 1, t => (k + 1) :: (t.kids.map (preL k)).flatten
def preLs (k : Nat) (l : List Nd) : List Nat := (l.map (preL k)).flatten
theorem preLs_snoc (k : Nat) (l : List Nd) (t : Nd) : preLs k (l ++ [t]) = preLs k l ++ preL k t := by simp [preLs]
abbrev YA := Value × Fin 102
def encY (x : YA) : Array Value := #[x.1, .int .i64 ((x.2.1 : Nat) : Int)]
structure KeepC (B n : Nat) (W W' : World) : Prop where
 below : Below n W W'
 cell : ∀ (p : Addr) (v : Value), p.block ≠ B → W.cell? p = some v → W'.cell? p = some v
theorem KeepC.trans {B n : Nat} {X Y Z : World} (h : KeepC B n X Y) (k : KeepC B n Y Z) : KeepC B n X Z := ⟨h.below.trans k.below, fun p v hp hv => k.cell p v hp (h.cell p v hp hv)⟩
theorem keepC_b {B n : Nat} {w : World} (hn : n ≤ w.heap.size) (W : World) (l : Nat) (o o' : Obj) (hl : w.heap.size ≤ l) (h : W.heap[l]? = some o) (hc : o.isCells = false) (hw : o.isWalk = false) : KeepC B n W (W.putObj l o') :=
 ⟨belowK_b hn W l o o' hl h hc hw, fun p v _ hv => cell_kept hv (grownBy_putObj' W l o') (fun r e => by cases e; exact ⟨o, h, hc⟩)⟩
theorem ext_grown {a b : World} (h : Ext none' a b) : a.grownBy b none := ⟨h.os, h.tape, h.output, h.size, fun k hk _ => h.block k hk fun h => h⟩
theorem ext_keep {B n : Nat} {a b : World} (hn : n ≤ a.heap.size) (h : Ext none' a b) : KeepC B n a b :=
 ⟨h.below hn fun _ _ h => h, fun _ _ _ hv => (h.cell (World.block_lt_of_cell? a _ hv) fun h => h).trans hv⟩
def WalkPost (t : Nd) (left : Nat) (B n0 : Nat) (J Jx : List YA → World → Prop) (pre : List YA) (W : World) (e : Ending) (W' : World) : Prop :=
 (e = .returned (.bool true) ∧ ∃ q : List YA, q.map (fun x => x.2.1) = preL left t ∧ J (pre ++ q) W' ∧ KeepC B n0 W W') ∨ (e = .returned (.bool false) ∧ ∃ q, Jx q W')
structure WkRel (l : List Nd) (k : Nat) (B n0 : Nat) (J : List YA → World → Prop) (pre : List YA) (W wr : World) (i : Nat) : Prop where
 q : ∃ q : List YA, q.map (fun x => x.2.1) = (k + 1) :: preLs k (l.take i) ∧ J (pre ++ q) wr
 kp : KeepC B n0 W wr
theorem walkIn (F : Fence) (hd : F.depth = none) (hF : F.fn 159) (hro : F.round = none) (lp B N : Nat) (w0 : World) (J Jx : List YA → World → Prop)
  (hJ : ∀ s a b, J s a → Ext none' a b → J s b)
  (hY : ∀ (m : Nat) (pre : List YA) (x : YA) (W : World), J pre W → pre.length < N → YieldAt F m Tryz.prog lp (encY x) W fun e W' => (e = .returned (.bool true) ∧ J (pre ++ [x]) W' ∧ KeepC B w0.heap.size W W') ∨ (e = .returned (.bool false) ∧ Jx (pre ++ [x]) W')) :
  ∀ (left : Nat), left ≤ 101 → ∀ (t : Nd), t.size ≤ bigD → ∀ (n : Nat) (v : Value) (pre : List YA) (W : World), NdV none' w0 t v → Below w0.heap.size w0 W → B < W.heap.size → J pre W → pre.length + (preL left t).length ≤ N →
   CallsIn F n Tryz.prog 159 #[v, .int .i64 (left : Nat), .func (.yield lp) #[] #[]] W (WalkPost t left B w0.heap.size J Jx pre W) := by
 have hdd : ∀ k : Nat, (F.depth.isSome = true → 1 ≤ k) := fun k h => by rw [hd] at h; cases h
 intro left
 induction left with
 | zero =>
  intro _ t _ n v pre W hv hb hB hj hN
  obtain ⟨x, rfl, hx⟩ := hv
  obtain ⟨a0, cap0, rfl, _⟩ := hx
  have X1 := (Ext.refl none' W).alloc (.cells #[.int .i64 t.kind, .string ⟨t.text.toArray⟩, .slice a0 t.kids.length cap0, .int .i64 t.pos] 24)
  have hj1 := hid (hJ _ _ _ hj X1)
  have hk1 := hid (ext_keep (B := B) hb.size X1)
  refine callsIn_of_wp Tryz.func159 rfl hF ?_ hro
  simp only [Tryz.ntmps159, List.size_toArray, List.length_cons, List.length_nil, Nat.reduceAdd, Nat.reduceSub, Array.replicate_succ, Array.replicate_zero, List.push_toArray, List.append_toArray, List.nil_append, List.cons_append]
  gi_wp2
  go_ret
  exact .inl ⟨rfl, [], rfl, by simpa using hj1.out, hk1.out⟩
 | succ k ih =>
  intro hk t hsz n v pre W hv hb hB hj hN
  obtain ⟨x, rfl, hx⟩ := hv
  have HX := hid hx
  obtain ⟨a0, cap0, rfl, _⟩ := hx
  have hle : k ≤ 101 := by omega
  have HIH := hid (ih hle)
  have hll : t.kids.length ≤ bigD := by have := t.kids_len; omega
  unfold bigD at hll
  have HSZ := hid hsz
  have hlen : pre.length < N := by simp [preL] at hN; omega
  have HN := hid hN
  have X1 : Ext none' W (W.alloc (.cells #[.int .i64 t.kind, .string ⟨t.text.toArray⟩, .slice a0 t.kids.length cap0, .int .i64 t.pos] 24)) := (Ext.refl none' W).alloc _
  have g0 : (W.alloc (.cells #[.int .i64 t.kind, .string ⟨t.text.toArray⟩, .slice a0 t.kids.length cap0, .int .i64 t.pos] 24)).heap[W.heap.size]? = some (.cells #[.int .i64 t.kind, .string ⟨t.text.toArray⟩, .slice a0 t.kids.length cap0, .int .i64 t.pos] 24 (0, 0)) := heap_alloc_at rfl _
  have hj1 := hJ _ _ _ hj X1
  obtain ⟨fn, tmps, assign, body, hy, hR⟩ := hY (n - 1) pre (.agg #[.int .i64 t.kind, .string ⟨t.text.toArray⟩, .slice a0 t.kids.length cap0, .int .i64 t.pos], ⟨k + 1, by omega⟩) (W.alloc (.cells #[.int .i64 t.kind, .string ⟨t.text.toArray⟩, .slice a0 t.kids.length cap0, .int .i64 t.pos] 24)) hj1 hlen
  dsimp only [encY] at hy
  have hk1 := hid (ext_keep (B := B) hb.size X1)
  have hne : W.heap.size ≠ B := by omega
  have HNE := hid hne
  have HB0 := hid hb
  have HBb := hid hB
  have hz : (((k + 1 : Nat) : Int) == 0) = false := by simp only [beq_eq_false_iff_ne]; omega
  have hs : ((k + 1 : Nat) : Int) - 1 = (k : Int) := by omega
  obtain ⟨D, hD⟩ : ∃ D : Int, D = ((k + 1 : Nat) : Int) := ⟨_, rfl⟩
  have hDb : D ≤ 101 ∧ 1 ≤ D := by omega
  rw [← hD] at hz hs hy ⊢
  obtain ⟨c0, c1, c2, c3⟩ := cell4 g0
  have C2 := hid c2
  clear g0 hD hne hlen hj1 hN hle hj hb hB X1 ih hsz
  refine callsIn_of_wp Tryz.func159 rfl hF ?_ hro
  simp only [Tryz.ntmps159, List.size_toArray, List.length_cons, List.length_nil, Nat.reduceAdd, Nat.reduceSub, Array.replicate_succ, Array.replicate_zero, List.push_toArray, List.append_toArray, List.nil_append, List.cons_append]
  gi_wp2
  refine hR.mono ?_
  clear hR hy
  rintro e W2 (⟨rfl, hj2, hk2⟩ | ⟨rfl, hx2⟩)
  · have c2 := hk2.cell ⟨W.heap.size, 2, none⟩ _ HNE.out C2.out
    have HJ2 := hid hj2
    have HK2 := hid (hk1.out.trans hk2)
    clear hj2 hk2 c0 c1 c3
    gi_wp2
    gi_loopw [19] (fun z wr => ∃ (i : Nat), z = .int .i64 (i : Nat) ∧ i ≤ t.kids.length ∧ Hid (WkRel t.kids k B w0.heap.size J pre W wr i)) (fun z _ => t.kids.length - (RowKit.intOf z).toNat)
    case atStart => exact ⟨0, rfl, by omega, hid ⟨⟨[(_, ⟨k + 1, by omega⟩)], rfl, HJ2.out⟩, HK2.out⟩⟩
    case round =>
     obtain ⟨i, rfl, hle, R⟩ := hrel
     by_cases hi : i < t.kids.length
     · have XR := Ext.of_below (F := none') (HB0.out.trans R.out.kp.below)
       obtain ⟨b, off, cs, rfl, _, hbw, hcc0, hty⟩ := HX.out.at i hi
       have hcc := hcc0.ext XR hbw (fun h => h)
       obtain ⟨x', rfl, hx'⟩ := hty.parts
       have c0 := hcc 0 _ rfl
       have c1 := hcc 1 _ rfl
       have c2' := hcc 2 _ rfl
       have c3 := hcc 3 _ rfl
       simp only [Nat.add_zero] at c0
       have hmem := List.getElem_mem hi
       have hts : t.kids[i].size ≤ bigD := by have := Nd.size_kid hmem; have := HSZ.out; omega
       obtain ⟨q, hq, hjq⟩ := R.out.q
       have htk : t.kids.take (i + 1) = t.kids.take i ++ [t.kids[i]] := by rw [List.take_add_one, List.getElem?_eq_getElem hi]; rfl
       have hNN : (pre ++ q).length + (preL k t.kids[i]).length ≤ N := by
        have h1 := HN.out
        have h2 : (q.map (fun x => x.2.1)).length = (preLs k (t.kids.take i)).length + 1 := by rw [hq, List.length_cons]
        rw [List.length_map] at h2
        have h3 : (preLs k (t.kids.take (i + 1))).length + (preLs k (t.kids.drop (i + 1))).length = (preLs k t.kids).length := by
         rw [← List.length_append]
         unfold preLs
         rw [← List.flatten_append, ← List.map_append, List.take_append_drop]
        rw [htk, preLs_snoc, List.length_append] at h3
        have h4 : (preL (k + 1) t).length = (preLs k t.kids).length + 1 := rfl
        rw [List.length_append]
        omega
       have HTK : Hid (preLs k (t.kids.take (i + 1)) = preLs k (t.kids.take i) ++ preL k t.kids[i]) := hid (by rw [htk, preLs_snoc])
       obtain ⟨t', ht'⟩ : ∃ t', t.kids[i] = t' := ⟨_, rfl⟩
       rw [ht'] at hty hts hNN HTK c0 c1 c3 hx'
       have HX' := hid hx'
       obtain ⟨a', cap', rfl, _⟩ := hx'
       have XB := (Ext.refl none' wr).alloc (.cells #[.int .i64 t'.kind, .string ⟨t'.text.toArray⟩, .slice a' t'.kids.length cap', .int .i64 t'.pos] 24)
       have KB := hid (R.out.kp.trans (ext_keep (B := B) (XR.size) XB))
       have gk := heap_alloc_at (w := wr) rfl (.cells #[.int .i64 t'.kind, .string ⟨t'.text.toArray⟩, .slice a' t'.kids.length cap', .int .i64 t'.pos] 24)
       obtain ⟨d0, d1, d2, d3⟩ := cell4 gk
       have CI := hid (HIH.out t' hts (n - 1) (.agg #[.int .i64 t'.kind, .string ⟨t'.text.toArray⟩, .slice a' t'.kids.length cap', .int .i64 t'.pos]) (pre ++ q) (wr.alloc (.cells #[.int .i64 t'.kind, .string ⟨t'.text.toArray⟩, .slice a' t'.kids.length cap', .int .i64 t'.pos] 24)) ⟨_, rfl, HX'.out⟩ (HB0.out.trans KB.out.below) (Nat.lt_of_lt_of_le HBb.out KB.out.below.size) (hJ _ _ _ hjq XB) hNN)
       have HQ := hid hq
       clear hcc hcc0 hty hmem hts hNN htk hq hjq XB gk hbw ht'
       gi_wp2_with ((try refine ⟨hdd _, ?_⟩); gi_at_call 159; refine CI.out.mono ?_; clear CI; rintro e W3 (⟨rfl, q2, hq2, hj2, hk2⟩ | ⟨rfl, hx2⟩))
       · have N : Hid (WkRel t.kids k B w0.heap.size J pre W W3 (i + 1)) := hid ⟨⟨q ++ q2, by rw [List.map_append, HQ.out, hq2, HTK.out]; rfl, by rw [← List.append_assoc]; exact hj2⟩, KB.out.trans hk2⟩
         clear hq2 hj2 hk2
         go_roundw
         case rel => exact ⟨i + 1, by go_num, by omega, N⟩
         case measure => simp [RowKit.intOf]; omega
       · go_ret
         exact .inr ⟨rfl, hx2⟩
     · obtain rfl : i = t.kids.length := by omega
       obtain ⟨q, hq, hjq⟩ := R.out.q
       rw [List.take_length] at hq
       have HJQ := hid hjq
       have HQ := hid hq
       clear hjq hq
       gi_wp2
       go_ret
       exact .inl ⟨rfl, q, HQ.out, HJQ.out, R.out.kp⟩
  · gi_wp2
    go_ret
    exact .inr ⟨rfl, _, hx2⟩
end Go.Proofs.YthbmjamgidfneaaGreatDoor
