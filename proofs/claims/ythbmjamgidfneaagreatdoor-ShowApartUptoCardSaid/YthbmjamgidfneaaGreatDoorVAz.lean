import Derived.Test.YthbmjamgidfneaaGreatDoorVAb
import Derived.Test.YthbmjamgidfneaaGreatDoorVAf
import Derived.Test.YthbmjamgidfneaaGreatDoorVAy
import Derived.Laws.IdiomStrings
import Derived.Laws.AppendOwn
import Derived.Test.YthbmjamgidfneaaGreatDoorVAm
import Derived.Test.YthbmjamgidfneaaGreatDoorVAh
import Derived.Test.YthbmjamgidfneaaGreatDoorVAj
import Derived.Test.YthbmjamgidfneaaGreatDoorVAc
set_option maxRecDepth 100000
set_option maxHeartbeats 6400000
namespace Go.Proofs.YthbmjamgidfneaaGreatDoor
open Go.RowKit Go.Lib Go.BigFrame
set_option linter.unusedVariables false
theorem small_any (t : Nd) (m : Nat) (hm : m ≤ 1000000) (ht : t.size ≤ bigD) (v : Value) (w : World) (hv : NdV none' w t v) :
  Calls Tryz.prog 9 #[v, .int .i64 (m : Nat)] w (BoolP (decide (sizeD 1000 t ≤ m)) w) := by
 have CZ := hid fun W (X : Ext none' w W) => nsize_any 1000 (by omega) t ht none' v W (hv.ext X fun _ _ h => h)
 obtain ⟨x, rfl, hx⟩ := hv
 obtain ⟨a1, cap1, rfl, _⟩ := hx
 have hz := sizeD_le 1000 t
 obtain ⟨z, hz'⟩ : ∃ z, sizeD 1000 t = z := ⟨_, rfl⟩
 rw [hz'] at CZ hz ⊢
 have hzb : z ≤ 20000000000 := by unfold bigD at ht; omega
 obtain ⟨r, hr⟩ : ∃ r, decide (z ≤ m) = r := ⟨_, rfl⟩
 rw [hr]
 have HR := hid hr
 clear hz' hz ht hr
 go_enter Tryz.func9, Tryz.ntmps9
 go_wp2_with fail
 refine (CZ.out _ ((Ext.refl _ _).alloc _)).mono ?_
 rintro e W2 ⟨rfl, X2⟩
 go_wp2_with fail
 go_ret
 exact ⟨by show Ending.returned (.bool (decide (z ≤ m))) = _; rw [HR.out], ((Ext.refl _ _).alloc _).trans X2⟩
def NodeV (k : Int) (s : List UInt8) (u : Value) (w : World) (e : Ending) (w' : World) : Prop := e = .returned (.agg #[.int .i64 k, .string ⟨s.toArray⟩, u, .int .i64 0]) ∧ Ext none' w w'
theorem node_any (k : Int) (s : List UInt8) (a : Option Addr) (n cap : Nat) (w : World) :
  Calls Tryz.prog 14 #[.int .i64 k, .string ⟨s.toArray⟩, .slice a n cap] w (NodeV k s (.slice a n cap) w) := by
 obtain ⟨B, W0, hB, hW0, X0, G1⟩ := boxed w (.cells #[.int .i64 0, .string ⟨#[]⟩, .slice none 0 0, .int .i64 0] 24)
 have HB := hid hB
 go_enter Tryz.func14, Tryz.ntmps14
 go_upto_region 1 with (fail)
 rw [← hW0, ← hB]
 clear hW0 hB
 have f0 := free_at G1.out 0
 have f1 := free_at G1.out 1
 have f2 := free_at G1.out 2
 have f3 := free_at G1.out 3
 obtain ⟨e0, e1, e2, e3⟩ := cell4 G1.out
 go_wp2_with fail
 refine ret_nd rfl rfl (set4n G1.out _ _ _ _) rfl ?_
 exact ⟨rfl, X0.out.set4 (b := B) (.inr (by rw [HB.out]; omega)) _ _ _ _⟩
theorem isSl_lit {α : Type} {sz : Nat} {R : Lay α} {A : Nat → Prop} {w : World} {b cap : Nat} {cs : Array Value} {t : TypeId} {fz : Nat × Nat} (h : w.heap[b]? = some (.cells cs t fz)) (xs : List α) (hA : ¬ A b) (hc : xs.length ≤ cap)
  (hx : ∀ i (h : i < xs.length), R A w xs[i] ((cs.toList.drop (i * sz)).take sz)) : IsSl sz R A w (.slice (some ⟨b, 0, none⟩) xs.length cap) xs :=
 ⟨_, cap, rfl, hc, (fun h => by cases h), fun _ => ⟨b, 0, rfl, hA, heap_lt h, fun i hi => ⟨_, fun j v hj => by
  have hjs : j < sz := by
   have := (List.getElem?_eq_some_iff.1 hj).1
   rw [List.length_take] at this
   omega
  rw [List.getElem?_take_of_lt hjs, List.getElem?_drop] at hj
  rw [cell_at h, Nat.zero_add, ← hj]
  simp, hx i hi⟩⟩⟩
def awA : Nd := .mk 18 [97] [] 0
def awB : Nd := .mk 18 [98] [] 0
def awC : Nd := .mk 18 [99] [] 0
def awSum : Nd := .mk 20 [43] [awA, awB] 0
def awMin : Nd := .mk 19 [45] [awSum] 0
def awAll : Nd := .mk 20 [42] [awMin, awC] 0
def awText : List UInt8 := [45, 40, 97, 32, 43, 32, 98, 41, 32, 42, 32, 99]
theorem aw_right : rightB (exF 12 awAll) awAll = true := by kernel_rfl
theorem aw_text : exT 12 0 false awAll = awText := by kernel_rfl
theorem aw_size : awAll.size ≤ 12 := by decide
end Go.Proofs.YthbmjamgidfneaaGreatDoor
namespace Go.Proofs.YthbmjamgidfneaaGreatDoor
open Go.RowKit Go.Lib Go.BigFrame
set_option linter.unusedVariables false
set_option linter.unusedSimpArgs false
theorem isNd_two {w : World} {b : Nat} {cs : Array Value} {t : TypeId} {fz : Nat × Nat} (h : w.heap[b]? = some (.cells cs t fz)) (x y : Nd)
  (hx : IsNd none' w x (cs.toList.take 4)) (hy : IsNd none' w y ((cs.toList.drop 4).take 4)) : IsSl 4 IsNd none' w (.slice (some ⟨b, 0, none⟩) 2 2) [x, y] :=
 isSl_lit (xs := [x, y]) h (fun h => h) (by simp) (fun i hi => by
  have h' : i < 2 := hi
  have hi : i = 0 ∨ i = 1 := by omega
  rcases hi with rfl | rfl
  · simpa using hx
  · exact hy)
theorem isNd_one {w : World} {b : Nat} {cs : Array Value} {t : TypeId} {fz : Nat × Nat} (h : w.heap[b]? = some (.cells cs t fz)) (x : Nd)
  (hx : IsNd none' w x (cs.toList.take 4)) : IsSl 4 IsNd none' w (.slice (some ⟨b, 0, none⟩) 1 1) [x] :=
 isSl_lit (xs := [x]) h (fun h => h) (by simp) (fun i hi => by
  have h' : i < 1 := hi
  obtain rfl : i = 0 := by omega
  simpa using hx)
theorem isNd_leaf (k : Int) (s : List UInt8) (w : World) : IsNd none' w (.mk k s [] 0) [.int .i64 k, .string ⟨s.toArray⟩, .slice none 0 0, .int .i64 0] := IsNd.of (IsSl.nil _ _ _ _)
theorem awake_any (w : World) (hm : MaxL w) : Calls Tryz.prog 12 #[] w (TruePost w) := by
 have CT := hid fun W (X : Ext none' w W) u (hu : NdV none' W awAll u) => exprText_any 12 (by omega) awAll aw_size u W (maxL_later hm X) hu
 rw [aw_right, aw_text] at CT
 go_enter Tryz.func12, Tryz.ntmps12
 go_wp2_with fail
 refine (node_any 18 [97] none 0 0 _).mono ?_
 rintro e W1 ⟨rfl, X1⟩
 go_wp2_with fail
 refine (node_any 18 [98] none 0 0 _).mono ?_
 rintro e W2 ⟨rfl, X2⟩
 have X2 := hid (X1.trans X2)
 clear X1
 go_wp2_with fail
 obtain ⟨B3, hB3⟩ : ∃ B, B = W2.heap.size := ⟨_, rfl⟩
 obtain ⟨W3, hW3⟩ : ∃ W, W = W2.alloc (.cells #[.int .i64 18, .string ⟨#[97]⟩, .slice none 0 0, .int .i64 0, .int .i64 18, .string ⟨#[98]⟩, .slice none 0 0, .int .i64 0] 24) := ⟨_, rfl⟩
 rw [← hW3, ← hB3]
 have X3 := hid (show Ext none' w W3 by rw [hW3]; exact X2.out.alloc _)
 have G3 := hid (show W3.heap[B3]? = some (.cells #[.int .i64 18, .string ⟨#[97]⟩, .slice none 0 0, .int .i64 0, .int .i64 18, .string ⟨#[98]⟩, .slice none 0 0, .int .i64 0] 24 (0, 0)) by rw [hW3]; exact heap_alloc_at hB3 _)
 clear hW3 hB3
 refine (node_any 20 [43] _ 2 2 _).mono ?_
 rintro e W4 ⟨rfl, X4⟩
 have G3 := hid (X4.heap G3.out fun h => h)
 have X4 := hid (X3.out.trans X4)
 go_wp2_with fail
 obtain ⟨B5, hB5⟩ : ∃ B, B = W4.heap.size + 1 := ⟨_, rfl⟩
 obtain ⟨W5, hW5⟩ : ∃ W, W = (W4.alloc (.cells #[.int .i64 20, .string ⟨#[43]⟩, .slice (some ⟨B3, 0, none⟩) 2 2, .int .i64 0] 24)).alloc (.cells #[.int .i64 20, .string ⟨#[43]⟩, .slice (some ⟨B3, 0, none⟩) 2 2, .int .i64 0] 24) := ⟨_, rfl⟩
 rw [← hW5, ← hB5]
 have X5 := hid (show Ext none' W4 W5 by rw [hW5]; exact ((Ext.refl _ _).alloc _).alloc _)
 have G5 := hid (show W5.heap[B5]? = some (.cells #[.int .i64 20, .string ⟨#[43]⟩, .slice (some ⟨B3, 0, none⟩) 2 2, .int .i64 0] 24 (0, 0)) by rw [hW5]; exact heap_alloc_at (by rw [hB5]; simp) _)
 have G3 := hid (X5.out.heap G3.out fun h => h)
 have X5 := hid (X4.out.trans X5.out)
 clear hW5 hB5
 refine (node_any 19 [45] _ 1 1 _).mono ?_
 rintro e W6 ⟨rfl, X6⟩
 have G3 := hid (X6.heap G3.out fun h => h)
 have G5 := hid (X6.heap G5.out fun h => h)
 have X6 := hid (X5.out.trans X6)
 go_wp2_with fail
 refine (node_any 18 [99] none 0 0 _).mono ?_
 rintro e W7 ⟨rfl, X7⟩
 have G3 := hid (X7.heap G3.out fun h => h)
 have G5 := hid (X7.heap G5.out fun h => h)
 have X7 := hid (X6.out.trans X7)
 go_wp2_with fail
 obtain ⟨B8, hB8⟩ : ∃ B, B = W7.heap.size := ⟨_, rfl⟩
 obtain ⟨W8, hW8⟩ : ∃ W, W = W7.alloc (.cells #[.int .i64 19, .string ⟨#[45]⟩, .slice (some ⟨B5, 0, none⟩) 1 1, .int .i64 0, .int .i64 18, .string ⟨#[99]⟩, .slice none 0 0, .int .i64 0] 24) := ⟨_, rfl⟩
 rw [← hW8, ← hB8]
 have X8 := hid (show Ext none' W7 W8 by rw [hW8]; exact (Ext.refl _ _).alloc _)
 have G8 := hid (show W8.heap[B8]? = some (.cells #[.int .i64 19, .string ⟨#[45]⟩, .slice (some ⟨B5, 0, none⟩) 1 1, .int .i64 0, .int .i64 18, .string ⟨#[99]⟩, .slice none 0 0, .int .i64 0] 24 (0, 0)) by rw [hW8]; exact heap_alloc_at hB8 _)
 have G3 := hid (X8.out.heap G3.out fun h => h)
 have G5 := hid (X8.out.heap G5.out fun h => h)
 have X8 := hid (X7.out.trans X8.out)
 clear hW8 hB8
 refine (node_any 20 [42] _ 2 2 _).mono ?_
 rintro e W9 ⟨rfl, X9⟩
 have G3 := hid (X9.heap G3.out fun h => h)
 have G5 := hid (X9.heap G5.out fun h => h)
 have G8 := hid (X9.heap G8.out fun h => h)
 have X9 := hid (X8.out.trans X9)
 go_wp2_with fail
 refine (CT.out _ X9.out _ ⟨_, rfl, isNd_two G8.out awMin awC (IsNd.of (isNd_one G5.out awSum (IsNd.of (isNd_two G3.out awA awB (isNd_leaf _ _ _) (isNd_leaf _ _ _))))) (isNd_leaf _ _ _)⟩).mono ?_
 rintro e W10 ⟨rfl, X10⟩
 have X10 := hid (X9.out.trans X10)
 have ht := (show (awText == awText) = true by simp)
 unfold awText at ht ⊢
 go_wp2_with fail
 go_ret
 exact ⟨rfl, X10.out⟩
end Go.Proofs.YthbmjamgidfneaaGreatDoor
namespace Go.Proofs.YthbmjamgidfneaaGreatDoor
open Go.RowKit Go.Lib Go.BigFrame
theorem nsame_any : ∀ (f : Nat), f ≤ 100000 → ∀ (a b : Nd), a.size ≤ bigD → b.size ≤ bigD → ∀ (v u : Value) (w : World), NdV none' w a v → NdV none' w b u → Calls Tryz.prog 13 #[v, u, .int .i64 (f : Nat)] w (BoolP (sameN f a b) w) := by
 intro f
 induction f with
 | zero =>
  intro _ a b _ _ v u w hv hu
  obtain ⟨x, rfl, hx⟩ := hv
  obtain ⟨y, rfl, hy⟩ := hu
  obtain ⟨a1, cap1, rfl, _⟩ := hx
  obtain ⟨a2, cap2, rfl, _⟩ := hy
  go_enter Tryz.func13, Tryz.ntmps13
  go_wp2_with fail
  all_goals
   go_ret
   exact ⟨rfl, ((Ext.refl _ _).alloc _).alloc _⟩
 | succ f ih =>
  intro hf a b ha hbs v u w hv hu
  have hal : a.kids.length ≤ bigD := by have := a.kids_len; omega
  have hbl : b.kids.length ≤ bigD := by have := b.kids_len; omega
  obtain ⟨x, rfl, hx⟩ := hv
  obtain ⟨y, rfl, hy⟩ := hu
  have HX := hid hx
  have HY := hid hy
  obtain ⟨a1, cap1, rfl, _⟩ := hx
  obtain ⟨a2, cap2, rfl, _⟩ := hy
  have HIH := hid (ih (by omega))
  have HAS := hid fun (i : Nat) (h : i < a.kids.length) => (show a.kids[i].size ≤ bigD from by have := Nd.size_kid (List.getElem_mem h); omega)
  have HBS := hid fun (i : Nat) (h : i < b.kids.length) => (show b.kids[i].size ≤ bigD from by have := Nd.size_kid (List.getElem_mem h); omega)
  obtain ⟨r, hr⟩ : ∃ r, r = sameN (f + 1) a b := ⟨_, rfl⟩
  rw [← hr]
  rw [sameN] at hr
  have hz : (((f + 1 : Nat) : Int) == 0) = false := by simp only [beq_eq_false_iff_ne]; omega
  have hs : ((f + 1 : Nat) : Int) - 1 = (f : Int) := by omega
  obtain ⟨F, hF⟩ : ∃ F : Int, F = ((f + 1 : Nat) : Int) := ⟨_, rfl⟩
  have hFb : F ≤ 100000 ∧ 1 ≤ F := by omega
  rw [← hF] at hz hs ⊢
  unfold bigD at hal hbl
  clear ih ha hf hbs hF
  by_cases hk : a.kind = b.kind
  · have q1 : (a.kind == b.kind) = true := by simpa using hk
    have q1' : (a.kind != b.kind) = false := by simpa using hk
    by_cases hn : a.text = b.text
    · have q2 : (a.text == b.text) = true := by simpa using hn
      have q2' : (a.text != b.text) = false := by simpa using hn
      rw [q1, q2, Bool.true_and, Bool.true_and] at hr
      by_cases hlen : a.kids.length = b.kids.length
      · have q3 : ((a.kids.length : Int) != (b.kids.length : Int)) = false := by simp only [bne_eq_false_iff_eq]; omega
        have HR := hid hr
        have HL := hid hlen
        rw [← hlen] at HY
        rw [← hk, ← hn, ← hlen]
        obtain ⟨B, hB⟩ : ∃ B, B = w.heap.size := ⟨_, rfl⟩
        obtain ⟨W1, hW1⟩ : ∃ W1, W1 = (w.alloc (.cells #[.int .i64 a.kind, .string ⟨a.text.toArray⟩, .slice a1 a.kids.length cap1, .int .i64 a.pos] 24)).alloc (.cells #[.int .i64 a.kind, .string ⟨a.text.toArray⟩, .slice a2 a.kids.length cap2, .int .i64 b.pos] 24) := ⟨_, rfl⟩
        have X1 := hid (show Ext none' w W1 by rw [hW1]; exact ((Ext.refl _ _).alloc _).alloc _)
        have G0 := hid (show W1.heap[B]? = some (.cells #[.int .i64 a.kind, .string ⟨a.text.toArray⟩, .slice a1 a.kids.length cap1, .int .i64 a.pos] 24 (0, 0)) by rw [hW1]; exact heap_alloc_keep (heap_alloc_at hB _) _)
        have G1 := hid (show W1.heap[B + 1]? = some (.cells #[.int .i64 a.kind, .string ⟨a.text.toArray⟩, .slice a2 a.kids.length cap2, .int .i64 b.pos] 24 (0, 0)) by rw [hW1]; exact heap_alloc_at (by rw [hB]; simp) _)
        clear hr hlen hk hn q1 q2 q1' q2' hbl
        go_enter Tryz.func13, Tryz.ntmps13
        go_wp2_with fail
        rw [← hW1, ← hB]
        clear hB hW1
        go_loopw [7] (fun z wr => ∃ (i : Nat), z = .int .i64 (i : Nat) ∧ i ≤ a.kids.length ∧ Hid (Ext none' W1 wr ∧ ∀ j (h1 : j < a.kids.length) (h2 : j < b.kids.length), j < i → sameN f a.kids[j] b.kids[j] = true)) (fun z _ => a.kids.length - (RowKit.intOf z).toNat)
        case atStart => exact ⟨0, rfl, by omega, hid ⟨Ext.refl _ _, fun j _ _ h => by omega⟩⟩
        case round =>
         obtain ⟨i, rfl, hle, RR⟩ := hrel
         have HRX := hid RR.out.1
         have HRY := hid RR.out.2
         clear RR
         have s2 := cell_at (HRX.out.heap G0.out fun h => h) 2
         have s3 := cell_at (HRX.out.heap G1.out fun h => h) 2
         simp only [List.getElem?_toArray, List.getElem?_cons_zero, List.getElem?_cons_succ] at s2 s3
         by_cases hi : i < a.kids.length
         · have hib : i < b.kids.length := by have := HL.out; omega
           go_upto_region 6 with (fail)
           obtain ⟨b1, o1, cs1, rfl, _, hw1, hcc1, ht1⟩ := (HX.out.ext isNd_good (X1.out.trans HRX.out) fun _ _ h => h.elim).at i hi
           obtain ⟨b2, o2, cs2, rfl, _, hw2, hcc2, ht2⟩ := (HY.out.ext isNd_good (X1.out.trans HRX.out) fun _ _ h => h.elim).at i hib
           obtain ⟨x1, rfl, hx1⟩ := ht1.parts
           obtain ⟨x2, rfl, hx2⟩ := ht2.parts
           have HX1 := hid hx1
           have HX2 := hid hx2
           obtain ⟨a3, cap3, rfl, _⟩ := hx1
           obtain ⟨a4, cap4, rfl, _⟩ := hx2
           have C1 := hid fun W (X : Ext none' wr W) => HIH.out a.kids[i] b.kids[i] (HAS.out i hi) (HBS.out i hib) (.agg #[.int .i64 a.kids[i].kind, .string ⟨a.kids[i].text.toArray⟩, .slice a3 a.kids[i].kids.length cap3, .int .i64 a.kids[i].pos]) (.agg #[.int .i64 b.kids[i].kind, .string ⟨b.kids[i].text.toArray⟩, .slice a4 b.kids[i].kids.length cap4, .int .i64 b.kids[i].pos]) W ⟨_, rfl, HX1.out.ext isNd_good X fun _ _ h => h⟩ ⟨_, rfl, HX2.out.ext isNd_good X fun _ _ h => h⟩
           have y2 := fun t' : LaterF none' wr => cell_at ((HRX.out.trans t'.x).heap G0.out fun h => h) 2
           have z2 := fun t' : LaterF none' wr => cell_at ((HRX.out.trans t'.x).heap G1.out fun h => h) 2
           simp only [List.getElem?_toArray, List.getElem?_cons_zero, List.getElem?_cons_succ] at y2 z2
           have d0 := fun t' : LaterF none' wr => (t'.x.cell (p := ⟨b1, o1 + i * 4, none⟩) hw1 (fun h => h)).trans (by simpa using hcc1 0 _ rfl)
           have d1 := fun t' : LaterF none' wr => (t'.x.cell (p := ⟨b1, o1 + i * 4 + 1, none⟩) hw1 (fun h => h)).trans (by simpa using hcc1 1 _ rfl)
           have d2 := fun t' : LaterF none' wr => (t'.x.cell (p := ⟨b1, o1 + i * 4 + 2, none⟩) hw1 (fun h => h)).trans (by simpa using hcc1 2 _ rfl)
           have d3 := fun t' : LaterF none' wr => (t'.x.cell (p := ⟨b1, o1 + i * 4 + 3, none⟩) hw1 (fun h => h)).trans (by simpa using hcc1 3 _ rfl)
           have e0 := fun t' : LaterF none' wr => (t'.x.cell (p := ⟨b2, o2 + i * 4, none⟩) hw2 (fun h => h)).trans (by simpa using hcc2 0 _ rfl)
           have e1 := fun t' : LaterF none' wr => (t'.x.cell (p := ⟨b2, o2 + i * 4 + 1, none⟩) hw2 (fun h => h)).trans (by simpa using hcc2 1 _ rfl)
           have e2 := fun t' : LaterF none' wr => (t'.x.cell (p := ⟨b2, o2 + i * 4 + 2, none⟩) hw2 (fun h => h)).trans (by simpa using hcc2 2 _ rfl)
           have e3 := fun t' : LaterF none' wr => (t'.x.cell (p := ⟨b2, o2 + i * 4 + 3, none⟩) hw2 (fun h => h)).trans (by simpa using hcc2 3 _ rfl)
           obtain ⟨q, hq⟩ : ∃ q, sameN f a.kids[i] b.kids[i] = q := ⟨_, rfl⟩
           rw [hq] at C1
           have HQ := hid hq
           obtain ⟨ta, hta⟩ : ∃ t, a.kids[i] = t := ⟨_, rfl⟩
           obtain ⟨tb, htb⟩ : ∃ t, b.kids[i] = t := ⟨_, rfl⟩
           rw [hta] at d0 d1 d2 d3 C1
           rw [htb] at e0 e1 e2 e3 C1
           clear hcc1 hcc2 ht1 ht2 hq hta htb s2 s3 HX1 HX2
           refine region_q none' wr (.qs [0, 1, 2, 3, 4, 5, 6, 7, 8, 9, 10, 11] (.one 12 false (.one 13 false .fin))) (by kernel_rfl) (by kernel_rfl) (fun dst v c a w h => by cases dst <;> exact h) ?_
           refine ⟨In.of (Ext.refl _ _).drew, ?_⟩
           change wpQuiet _ _ (fun w' => ∃ t : LaterF none' wr, w' = t.w) _ _ _
           simp only [sel, List.getElem?_cons_succ, List.getElem?_cons_zero]
           repeat (go_big_quiet_step (fail))
           refine wpQuiet_nil ?_
           simp only [wpTreeQ, stepT, sel, List.getElem?_cons_succ, List.getElem?_cons_zero]
           have D1 := hid (Ext.refl none' wr).drew
           clear y2 z2 d0 d1 d2 d3 e0 e1 e2 e3
           go_wp2_with fail
           refine (C1.out _ D1.out).mono ?_
           rintro e w2 ⟨rfl, X2⟩
           have X2 := hid (HRX.out.trans (D1.out.trans X2))
           cases q with
           | true =>
            have N : Hid (Ext none' W1 w2 ∧ ∀ j (h1 : j < a.kids.length) (h2 : j < b.kids.length), j < i + 1 → sameN f a.kids[j] b.kids[j] = true) := hid ⟨X2.out, fun j h1 h2 hj => by
             by_cases e : j = i
             · subst e; exact HQ.out
             · exact HRY.out j h1 h2 (by omega)⟩
            go_wp2_with fail
            go_roundw
            case rel => exact ⟨i + 1, by go_num, by omega, N⟩
            case measure => simp [RowKit.intOf]; omega
           | false =>
            have E : Hid (r = false) := hid (by rw [HR.out]; exact samesN_bad hi hib HQ.out)
            go_wp2_with fail
            go_ret
            exact ⟨by rw [E.out]; rfl, X1.out.trans X2.out⟩
         · obtain rfl : i = a.kids.length := by omega
           have E : Hid (r = true) := hid (by rw [HR.out]; exact samesN_good HL.out fun j h1 h2 => HRY.out j h1 h2 h1)
           go_wp2_with fail
           go_ret
           exact ⟨by rw [E.out]; rfl, X1.out.trans HRX.out⟩
      · have q3 : ((a.kids.length : Int) != (b.kids.length : Int)) = true := by simp only [bne_iff_ne, ne_eq]; omega
        have E : Hid (r = false) := hid (by rw [hr]; exact samesN_len hlen)
        rw [← hk, ← hn]
        clear hr hlen hk hn q1 q2 q1' q2'
        go_enter Tryz.func13, Tryz.ntmps13
        go_wp2_with fail
        all_goals
         go_ret
         exact ⟨by rw [E.out]; rfl, ((Ext.refl _ _).alloc _).alloc _⟩
    · have q2 : (a.text == b.text) = false := by simpa using hn
      have q2' : (a.text != b.text) = true := by simpa using hn
      have E : Hid (r = false) := hid (by rw [hr, q2]; simp)
      rw [← hk]
      clear hr hk q1 q2 q1' q2'
      go_enter Tryz.func13, Tryz.ntmps13
      go_wp2_with fail
      all_goals
       go_ret
       exact ⟨by rw [E.out]; rfl, ((Ext.refl _ _).alloc _).alloc _⟩
  · have q1 : (a.kind == b.kind) = false := by simpa using hk
    have q1' : (a.kind != b.kind) = true := by simpa using hk
    have E : Hid (r = false) := hid (by rw [hr, q1]; rfl)
    clear hr hk q1
    go_enter Tryz.func13, Tryz.ntmps13
    go_wp2_with fail
    all_goals
     go_ret
     exact ⟨by rw [E.out]; rfl, ((Ext.refl _ _).alloc _).alloc _⟩
end Go.Proofs.YthbmjamgidfneaaGreatDoor
