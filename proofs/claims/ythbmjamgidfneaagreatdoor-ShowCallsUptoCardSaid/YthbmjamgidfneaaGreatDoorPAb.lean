import Derived.Test.YthbmjamgidfneaaGreatDoorPAa
import Derived.Test.YthbmjamgidfneaaGreatDoorProg
import Derived.Shelf.Abstract
set_option maxRecDepth 100000
set_option maxHeartbeats 6400000
namespace Go.Proofs.YthbmjamgidfneaaGreatDoor
open Go.RowKit Go.Lib
inductive Nd where
 | mk (kind : Int) (text : List UInt8) (kids : List Nd) (pos : Int)
def Nd.kind : Nd → Int | .mk k _ _ _ => k
def Nd.text : Nd → List UInt8 | .mk _ n _ _ => n
def Nd.kids : Nd → List Nd | .mk _ _ l _ => l
def Nd.pos : Nd → Int | .mk _ _ _ p => p
mutual
def Nd.size : Nd → Nat
 | .mk _ n l _ => Nd.sizeL l + n.length + 1
def Nd.sizeL : List Nd → Nat
 | [] => 0
 | t :: r => Nd.size t + Nd.sizeL r
end
theorem Nd.size_pos (t : Nd) : 1 ≤ t.size := by cases t; simp [Nd.size]
theorem Nd.sizeL_mem : ∀ {l : List Nd} {t : Nd}, t ∈ l → t.size ≤ Nd.sizeL l
 | a :: r, t, h => by
  rw [Nd.sizeL]
  rcases List.mem_cons.1 h with rfl | h
  · omega
  · have := Nd.sizeL_mem h; omega
theorem Nd.size_kid {t x : Nd} (h : x ∈ t.kids) : x.size < t.size := by
 cases t with
 | mk k n l p => have := Nd.sizeL_mem h; rw [Nd.size]; simp only [Nd.kids] at this; omega
theorem Nd.sizeL_len : ∀ l : List Nd, l.length ≤ Nd.sizeL l
 | [] => by simp [Nd.sizeL]
 | t :: r => by
  have := Nd.sizeL_len r
  have := t.size_pos
  rw [Nd.sizeL, List.length_cons]; omega
theorem Nd.kids_len (t : Nd) : t.kids.length < t.size := by
 cases t with
 | mk k n l p => have := Nd.sizeL_len l; rw [Nd.size]; simp only [Nd.kids]; omega
theorem Nd.size_text (t : Nd) : t.text.length < t.size := by
 cases t with
 | mk k n l p => rw [Nd.size]; simp only [Nd.text]; omega
theorem Nd.sizeL_append : ∀ (l m : List Nd), Nd.sizeL (l ++ m) = Nd.sizeL l + Nd.sizeL m
 | [], m => by simp [Nd.sizeL]
 | t :: r, m => by rw [List.cons_append, Nd.sizeL, Nd.sizeL, Nd.sizeL_append r m]; omega
def sizeD : Nat → Nd → Nat
 | 0, _ => 0
 | f + 1, t => 1 + (t.kids.map (sizeD f)).sum
def sizeDL (f : Nat) (l : List Nd) : Nat := (l.map (sizeD f)).sum
theorem sizeDL_snoc (f : Nat) (l : List Nd) (t : Nd) : sizeDL f (l ++ [t]) = sizeDL f l + sizeD f t := by simp [sizeDL]
theorem sizeDL_le (f : Nat) : ∀ l : List Nd, (∀ t ∈ l, sizeD f t ≤ t.size) → sizeDL f l ≤ Nd.sizeL l
 | [], _ => Nat.zero_le _
 | t :: r, h => by
  have h1 := h t (by simp)
  have h2 := sizeDL_le f r fun x hx => h x (by simp [hx])
  simp only [sizeDL] at h2 ⊢
  rw [List.map_cons, List.sum_cons, Nd.sizeL]
  omega
theorem sizeD_le : ∀ (f : Nat) (t : Nd), sizeD f t ≤ t.size
 | 0, t => Nat.zero_le _
 | f + 1, .mk k n l p => by
  have := sizeDL_le f l fun x _ => sizeD_le f x
  rw [sizeD, Nd.size]
  simp only [Nd.kids]
  simp only [sizeDL] at this
  omega
theorem sizeDL_take (f : Nat) (l : List Nd) (i : Nat) : sizeDL f (l.take i) ≤ Nd.sizeL l := by
 have h1 := sizeDL_le f (l.take i) fun x _ => sizeD_le f x
 have e := Nd.sizeL_append (l.take i) (l.drop i)
 rw [List.take_append_drop] at e
 omega
inductive IsNd (A : Nat → Prop) (w : World) : Nd → List Value → Prop
 | mk (k : Int) (n : List UInt8) (l : List Nd) (p : Int) (a : Option Addr) (cap b off : Nat) (c : Nat → List Value) (hcap : l.length ≤ cap) (hn : a = none → cap = 0) (hb : l ≠ [] → a = some ⟨b, off, none⟩ ∧ ¬ A b ∧ b < w.heap.size)
   (hc : ∀ i, i < l.length → Cells w b (off + i * 4) (c i)) (hr : ∀ i (h : i < l.length), IsNd A w l[i] (c i)) : IsNd A w (.mk k n l p) [.int .i64 k, .string ⟨n.toArray⟩, .slice a l.length cap, .int .i64 p]
theorem IsNd.parts {A : Nat → Prop} {w : World} {t : Nd} {cs : List Value} (h : IsNd A w t cs) : ∃ v, cs = [.int .i64 t.kind, .string ⟨t.text.toArray⟩, v, .int .i64 t.pos] ∧ IsSl 4 IsNd A w v t.kids := by
 cases h with
 | mk k n l p a cap b off c hcap hn hb hc hr =>
  refine ⟨_, rfl, a, cap, rfl, hcap, hn, fun hl => ?_⟩
  obtain ⟨h1, h2, h3⟩ := hb hl
  exact ⟨b, off, h1, h2, h3, fun i hi => ⟨c i, hc i hi, hr i hi⟩⟩
theorem IsNd.of {A : Nat → Prop} {w : World} {k : Int} {n : List UInt8} {l : List Nd} {p : Int} {v : Value} (h : IsSl 4 IsNd A w v l) : IsNd A w (.mk k n l p) [.int .i64 k, .string ⟨n.toArray⟩, v, .int .i64 p] := by
 obtain ⟨a, cap, rfl, hc, hn, h⟩ := h
 by_cases hl : l = []
 · subst hl
   exact IsNd.mk k n [] p a cap 0 0 (fun _ => []) hc hn (fun h => absurd rfl h) (fun i hi => by simp at hi) (fun i hi => by simp at hi)
 · obtain ⟨b, off, rfl, hA, hb, h⟩ := h hl
   have hx : ∀ i, ∃ cs, ∀ (hi : i < l.length), Cells w b (off + i * 4) cs ∧ IsNd A w l[i] cs := fun i => by
    by_cases hi : i < l.length
    · obtain ⟨cs, h1, h2⟩ := h i hi
      exact ⟨cs, fun _ => ⟨h1, h2⟩⟩
    · exact ⟨[], fun h => absurd h hi⟩
   obtain ⟨c, hc'⟩ := Classical.axiomOfChoice hx
   exact IsNd.mk k n l p _ cap b off c hc (fun h => by cases h) (fun _ => ⟨rfl, hA, hb⟩) (fun i hi => (hc' i hi).1) (fun i hi => (hc' i hi).2)
theorem isNd_good : Good 4 IsNd where
 len h := by cases h; rfl
 one h := by cases h; intro u hu; simp at hu; rcases hu with rfl | rfl | rfl | rfl <;> rfl
 ext {A F w w' x cs} h x' hF := by
  induction h with
  | mk k n l p a cap b off c hcap hn hb hc hr ih =>
   refine IsNd.mk k n l p a cap b off c hcap hn (fun hl => ?_) (fun i hi => ?_) ih
   · obtain ⟨h1, h2, h3⟩ := hb hl
     exact ⟨h1, h2, Nat.lt_of_lt_of_le h3 x'.size⟩
   · obtain ⟨h1, h2, h3⟩ := hb (by intro e; subst e; simp at hi)
     exact (hc i hi).ext x' h3 fun q => h2 (hF _ h3 q)
 mono {A B w x cs} h hB := by
  induction h with
  | mk k n l p a cap b off c hcap hn hb hc hr ih =>
   refine IsNd.mk k n l p a cap b off c hcap hn (fun hl => ?_) hc ih
   obtain ⟨h1, h2, h3⟩ := hb hl
   exact ⟨h1, fun q => h2 (hB _ h3 q), h3⟩
def NdV (A : Nat → Prop) (w : World) (t : Nd) (v : Value) : Prop := ∃ x, v = .agg #[.int .i64 t.kind, .string ⟨t.text.toArray⟩, x, .int .i64 t.pos] ∧ IsSl 4 IsNd A w x t.kids
theorem NdV.nd {A : Nat → Prop} {w : World} {t : Nd} {x : Value} (h : IsSl 4 IsNd A w x t.kids) : IsNd A w t [.int .i64 t.kind, .string ⟨t.text.toArray⟩, x, .int .i64 t.pos] := by
 cases t with
 | mk k n l p => exact IsNd.of h
theorem NdV.ext {A F : Nat → Prop} {w w' : World} {t : Nd} {v : Value} (h : NdV A w t v) (x : Ext F w w') (hF : ∀ b, b < w.heap.size → F b → A b) : NdV A w' t v := by
 obtain ⟨u, rfl, h⟩ := h
 exact ⟨u, rfl, h.ext isNd_good x hF⟩
theorem NdV.mono {A B : Nat → Prop} {w : World} {t : Nd} {v : Value} (h : NdV A w t v) (hB : ∀ b, b < w.heap.size → B b → A b) : NdV B w t v := by
 obtain ⟨u, rfl, h⟩ := h
 exact ⟨u, rfl, h.mono isNd_good hB⟩
theorem cell2 {w : World} {k : Nat} {x0 x1 : Value} {t : TypeId} {fz : Nat × Nat} (h : w.heap[k]? = some (.cells #[x0, x1] t fz)) : w.cell? ⟨k, 0, none⟩ = some x0 ∧ w.cell? ⟨k, 1, none⟩ = some x1 := ⟨cell_at h 0, cell_at h 1⟩
theorem cell4 {w : World} {k : Nat} {x0 x1 x2 x3 : Value} {t : TypeId} {fz : Nat × Nat} (h : w.heap[k]? = some (.cells #[x0, x1, x2, x3] t fz)) : w.cell? ⟨k, 0, none⟩ = some x0 ∧ w.cell? ⟨k, 1, none⟩ = some x1 ∧ w.cell? ⟨k, 2, none⟩ = some x2 ∧ w.cell? ⟨k, 3, none⟩ = some x3 := ⟨cell_at h 0, cell_at h 1, cell_at h 2, cell_at h 3⟩
theorem cell2L {F : Nat → Prop} {w0 : World} {k : Nat} {x0 x1 : Value} {t : TypeId} {fz : Nat × Nat} (h : ∀ t' : LaterF F w0, t'.w.heap[k]? = some (.cells #[x0, x1] t fz)) : (∀ t' : LaterF F w0, t'.w.cell? ⟨k, 0, none⟩ = some x0) ∧ (∀ t' : LaterF F w0, t'.w.cell? ⟨k, 1, none⟩ = some x1) := ⟨fun t' => cell_at (h t') 0, fun t' => cell_at (h t') 1⟩
theorem cell4L {F : Nat → Prop} {w0 : World} {k : Nat} {x0 x1 x2 x3 : Value} {t : TypeId} {fz : Nat × Nat} (h : ∀ t' : LaterF F w0, t'.w.heap[k]? = some (.cells #[x0, x1, x2, x3] t fz)) : (∀ t' : LaterF F w0, t'.w.cell? ⟨k, 0, none⟩ = some x0) ∧ (∀ t' : LaterF F w0, t'.w.cell? ⟨k, 1, none⟩ = some x1) ∧ (∀ t' : LaterF F w0, t'.w.cell? ⟨k, 2, none⟩ = some x2) ∧ (∀ t' : LaterF F w0, t'.w.cell? ⟨k, 3, none⟩ = some x3) :=
 ⟨fun t' => cell_at (h t') 0, fun t' => cell_at (h t') 1, fun t' => cell_at (h t') 2, fun t' => cell_at (h t') 3⟩
theorem kid4 {w w' : World} {b a : Nat} {x0 x1 x2 x3 : Value} (X : Ext none' w w') (hb : b < w.heap.size) (k0 : w.cell? ⟨b, a, none⟩ = some x0) (k1 : w.cell? ⟨b, a + 1, none⟩ = some x1) (k2 : w.cell? ⟨b, a + 2, none⟩ = some x2) (k3 : w.cell? ⟨b, a + 3, none⟩ = some x3) :
  w'.cell? ⟨b, a, none⟩ = some x0 ∧ w'.cell? ⟨b, a + 1, none⟩ = some x1 ∧ w'.cell? ⟨b, a + 2, none⟩ = some x2 ∧ w'.cell? ⟨b, a + 3, none⟩ = some x3 :=
 ⟨(X.cell (p := ⟨b, a, none⟩) hb (fun h => h)).trans k0, (X.cell (p := ⟨b, a + 1, none⟩) hb (fun h => h)).trans k1, (X.cell (p := ⟨b, a + 2, none⟩) hb (fun h => h)).trans k2, (X.cell (p := ⟨b, a + 3, none⟩) hb (fun h => h)).trans k3⟩
theorem kid4L {w w1 : World} {b a : Nat} {x0 x1 x2 x3 : Value} (X : Ext none' w w1) (hb : b < w.heap.size) (k0 : w.cell? ⟨b, a, none⟩ = some x0) (k1 : w.cell? ⟨b, a + 1, none⟩ = some x1) (k2 : w.cell? ⟨b, a + 2, none⟩ = some x2) (k3 : w.cell? ⟨b, a + 3, none⟩ = some x3) :
  (∀ t' : LaterF none' w1, t'.w.cell? ⟨b, a, none⟩ = some x0) ∧ (∀ t' : LaterF none' w1, t'.w.cell? ⟨b, a + 1, none⟩ = some x1) ∧ (∀ t' : LaterF none' w1, t'.w.cell? ⟨b, a + 2, none⟩ = some x2) ∧ (∀ t' : LaterF none' w1, t'.w.cell? ⟨b, a + 3, none⟩ = some x3) :=
 ⟨fun t' => (kid4 (X.trans t'.x) hb k0 k1 k2 k3).1, fun t' => (kid4 (X.trans t'.x) hb k0 k1 k2 k3).2.1, fun t' => (kid4 (X.trans t'.x) hb k0 k1 k2 k3).2.2.1, fun t' => (kid4 (X.trans t'.x) hb k0 k1 k2 k3).2.2.2⟩
theorem node_box (w : World) (cs : Array Value) (t : TypeId) : ∃ B W0, B = w.heap.size ∧ W0 = w.alloc (.cells cs t) ∧ Hid (Ext none' w W0) ∧ Hid (W0.heap[B]? = some (.cells cs t (0, 0))) :=
 ⟨_, _, rfl, rfl, hid ((Ext.refl _ _).alloc _), hid (heap_alloc_at rfl _)⟩
theorem boxed (w : World) (o : Obj) : ∃ B W0, B = w.heap.size ∧ W0 = w.alloc o ∧ Hid (Ext none' w W0) ∧ Hid (W0.heap[B]? = some o) :=
 ⟨_, _, rfl, rfl, hid ((Ext.refl _ _).alloc _), hid (heap_alloc_at rfl _)⟩
theorem cellx {w w' : World} {k : Nat} {x0 x1 x2 x3 : Value} {t : TypeId} {fz : Nat × Nat} (X : Ext none' w w') (h : w.heap[k]? = some (.cells #[x0, x1, x2, x3] t fz)) : w'.cell? ⟨k, 0, none⟩ = some x0 ∧ w'.cell? ⟨k, 1, none⟩ = some x1 ∧ w'.cell? ⟨k, 2, none⟩ = some x2 ∧ w'.cell? ⟨k, 3, none⟩ = some x3 := cell4 (X.heap h fun h => h)
def K4 (w : World) (b a : Nat) (x0 x1 x2 x3 : Value) : Prop := w.cell? ⟨b, a, none⟩ = some x0 ∧ w.cell? ⟨b, a + 1, none⟩ = some x1 ∧ w.cell? ⟨b, a + 2, none⟩ = some x2 ∧ w.cell? ⟨b, a + 3, none⟩ = some x3
theorem kid' {w w' : World} {b a : Nat} {x0 x1 x2 x3 : Value} (X : Ext none' w w') (hb : b < w.heap.size) (k : K4 w b a x0 x1 x2 x3) :
  w'.cell? ⟨b, a, none⟩ = some x0 ∧ w'.cell? ⟨b, a + 1, none⟩ = some x1 ∧ w'.cell? ⟨b, a + 2, none⟩ = some x2 ∧ w'.cell? ⟨b, a + 3, none⟩ = some x3 := kid4 X hb k.1 k.2.1 k.2.2.1 k.2.2.2
theorem kidL {w w1 : World} {b a : Nat} {x0 x1 x2 x3 : Value} (X : Ext none' w w1) (hb : b < w.heap.size) (k : K4 w b a x0 x1 x2 x3) :
  (∀ t' : LaterF none' w1, t'.w.cell? ⟨b, a, none⟩ = some x0) ∧ (∀ t' : LaterF none' w1, t'.w.cell? ⟨b, a + 1, none⟩ = some x1) ∧ (∀ t' : LaterF none' w1, t'.w.cell? ⟨b, a + 2, none⟩ = some x2) ∧ (∀ t' : LaterF none' w1, t'.w.cell? ⟨b, a + 3, none⟩ = some x3) := kid4L X hb k.1 k.2.1 k.2.2.1 k.2.2.2
theorem ndvx {t : Nd} {w W : World} {a : Option Addr} {c : Nat} (h : IsSl 4 IsNd none' w (.slice a t.kids.length c) t.kids) (X : Ext none' w W) : NdV none' W t (.agg #[.int .i64 t.kind, .string ⟨t.text.toArray⟩, .slice a t.kids.length c, .int .i64 t.pos]) := ⟨_, rfl, h.ext isNd_good X fun _ _ h => h⟩
theorem nd_open {t : Nd} {w : World} {v : Value} (h : NdV none' w t v) : ∃ a1 cap1, v = .agg #[.int .i64 t.kind, .string ⟨t.text.toArray⟩, .slice a1 t.kids.length cap1, .int .i64 t.pos] ∧ t.kids.length ≤ cap1 ∧ Hid (NdV none' w t v) ∧ Hid (IsSl 4 IsNd none' w (.slice a1 t.kids.length cap1) t.kids) := by
 have H := h
 obtain ⟨y, rfl, hy⟩ := h
 have HY := hy
 obtain ⟨a1, cap1, rfl, hcap, _⟩ := hy
 exact ⟨a1, cap1, rfl, hcap, hid H, hid HY⟩
def emptyB (t : Nd) : Bool := t.kind == 0 && t.text == [] && t.kids.isEmpty
def kidsB : List (Nd → Bool) → List Nd → Bool
 | [], [] => true
 | p :: ps, t :: ts => p t && kidsB ps ts
 | _, _ => false
def ofB (k : Int) (ps : List (Nd → Bool)) (t : Nd) : Bool := t.kind == k && t.text == [] && kidsB ps t.kids
def namB (so : List UInt8 → Bool) (k : Int) (ps : List (Nd → Bool)) (t : Nd) : Bool := t.kind == k && so t.text && kidsB ps t.kids
def listB (p : Nd → Bool) (t : Nd) : Bool := t.kind == 6 && t.text == [] && t.kids.all p
def sigB (ty : Nd → Bool) (so : List UInt8 → Bool) (t : Nd) : Bool := ofB 12 [listB (namB so 8 [ty]), fun r => emptyB r || ty r] t
def noT (s : List UInt8) : Bool := s == []
def tyF (nm : List UInt8 → Bool) : Nat → Nd → Bool
 | 0, _ => false
 | f + 1, t => if t.kind = 10 then nm t.text && t.kids.all (tyF nm f) else if t.kind = 11 then ofB 11 [tyF nm f] t else if t.kind = 12 then sigB (tyF nm f) noT t else false
theorem kidsB_len : ∀ {ps : List (Nd → Bool)} {ts : List Nd}, kidsB ps ts = true → ts.length = ps.length
 | [], [], _ => rfl
 | p :: ps, t :: ts, h => by
  simp only [kidsB, Bool.and_eq_true] at h
  simp [kidsB_len h.2]
 | [], _ :: _, h => by simp [kidsB] at h
 | _ :: _, [], h => by simp [kidsB] at h
theorem kidsB_no {ps : List (Nd → Bool)} {ts : List Nd} (h : ts.length ≠ ps.length) : kidsB ps ts = false := by
 cases e : kidsB ps ts with
 | false => rfl
 | true => exact absurd (kidsB_len e) h
theorem kidsB_at : ∀ {ps : List (Nd → Bool)} {ts : List Nd} {i : Nat} (h1 : i < ps.length) (h2 : i < ts.length), ps[i] ts[i] = false → kidsB ps ts = false
 | [], _, i, h1, _, _ => by simp at h1
 | _ :: _, [], i, _, h2, _ => by simp at h2
 | p :: ps, t :: ts, 0, _, _, h => by simp at h; simp [kidsB, h]
 | p :: ps, t :: ts, i + 1, h1, h2, h => by
  simp only [List.getElem_cons_succ] at h
  simp only [kidsB, kidsB_at _ _ h, Bool.and_false]
theorem kidsB_all : ∀ {ps : List (Nd → Bool)} {ts : List Nd}, ts.length = ps.length → (∀ (i : Nat) (h1 : i < ps.length) (h2 : i < ts.length), ps[i] ts[i] = true) → kidsB ps ts = true
 | [], [], _, _ => rfl
 | p :: ps, t :: ts, hl, h => by
  simp only [kidsB, Bool.and_eq_true]
  exact ⟨h 0 (by simp) (by simp), kidsB_all (by simpa using hl) fun i h1 h2 => h (i + 1) (by simpa using h1) (by simpa using h2)⟩
 | [], _ :: _, h, _ => by simp at h
 | _ :: _, [], h, _ => by simp at h
inductive Ty where
 | mk (kind : Int) (name : List UInt8) (args : List Ty)
def Ty.kind : Ty → Int | .mk k _ _ => k
def Ty.name : Ty → List UInt8 | .mk _ n _ => n
def Ty.args : Ty → List Ty | .mk _ _ l => l
def Ty.zero : Ty := .mk 0 [] []
mutual
def Ty.size : Ty → Nat
 | .mk _ _ l => Ty.sizeL l + 1
def Ty.sizeL : List Ty → Nat
 | [] => 0
 | t :: r => Ty.size t + Ty.sizeL r
end
theorem Ty.size_pos (t : Ty) : 1 ≤ t.size := by cases t; simp [Ty.size]
theorem Ty.sizeL_mem : ∀ {l : List Ty} {t : Ty}, t ∈ l → t.size ≤ Ty.sizeL l
 | a :: r, t, h => by
  rw [Ty.sizeL]
  rcases List.mem_cons.1 h with rfl | h
  · omega
  · have := Ty.sizeL_mem h; omega
theorem Ty.sizeL_len : ∀ l : List Ty, l.length ≤ Ty.sizeL l
 | [] => by simp [Ty.sizeL]
 | t :: r => by
  have := Ty.sizeL_len r
  have := t.size_pos
  rw [Ty.sizeL, List.length_cons]; omega
theorem Ty.sizeL_append : ∀ (l m : List Ty), Ty.sizeL (l ++ m) = Ty.sizeL l + Ty.sizeL m
 | [], m => by simp [Ty.sizeL]
 | t :: r, m => by rw [List.cons_append, Ty.sizeL, Ty.sizeL, Ty.sizeL_append r m]; omega
inductive IsTy (A : Nat → Prop) (w : World) : Ty → List Value → Prop
 | mk (k : Int) (n : List UInt8) (l : List Ty) (a : Option Addr) (cap b off : Nat) (c : Nat → List Value) (hcap : l.length ≤ cap) (hn : a = none → cap = 0) (hb : l ≠ [] → a = some ⟨b, off, none⟩ ∧ ¬ A b ∧ b < w.heap.size)
   (hc : ∀ i, i < l.length → Cells w b (off + i * 3) (c i)) (hr : ∀ i (h : i < l.length), IsTy A w l[i] (c i)) : IsTy A w (.mk k n l) [.int .i64 k, .string ⟨n.toArray⟩, .slice a l.length cap]
theorem IsTy.parts {A : Nat → Prop} {w : World} {t : Ty} {cs : List Value} (h : IsTy A w t cs) : ∃ v, cs = [.int .i64 t.kind, .string ⟨t.name.toArray⟩, v] ∧ IsSl 3 IsTy A w v t.args := by
 cases h with
 | mk k n l a cap b off c hcap hn hb hc hr =>
  refine ⟨_, rfl, a, cap, rfl, hcap, hn, fun hl => ?_⟩
  obtain ⟨h1, h2, h3⟩ := hb hl
  exact ⟨b, off, h1, h2, h3, fun i hi => ⟨c i, hc i hi, hr i hi⟩⟩
theorem IsTy.of {A : Nat → Prop} {w : World} {k : Int} {n : List UInt8} {l : List Ty} {v : Value} (h : IsSl 3 IsTy A w v l) : IsTy A w (.mk k n l) [.int .i64 k, .string ⟨n.toArray⟩, v] := by
 obtain ⟨a, cap, rfl, hc, hn, h⟩ := h
 by_cases hl : l = []
 · subst hl
   exact IsTy.mk k n [] a cap 0 0 (fun _ => []) hc hn (fun h => absurd rfl h) (fun i hi => by simp at hi) (fun i hi => by simp at hi)
 · obtain ⟨b, off, rfl, hA, hb, h⟩ := h hl
   have hx : ∀ i, ∃ cs, ∀ (hi : i < l.length), Cells w b (off + i * 3) cs ∧ IsTy A w l[i] cs := fun i => by
    by_cases hi : i < l.length
    · obtain ⟨cs, h1, h2⟩ := h i hi
      exact ⟨cs, fun _ => ⟨h1, h2⟩⟩
    · exact ⟨[], fun h => absurd h hi⟩
   obtain ⟨c, hc'⟩ := Classical.axiomOfChoice hx
   exact IsTy.mk k n l _ cap b off c hc (fun h => by cases h) (fun _ => ⟨rfl, hA, hb⟩) (fun i hi => (hc' i hi).1) (fun i hi => (hc' i hi).2)
theorem isTy_good : Good 3 IsTy where
 len h := by cases h; rfl
 one h := by cases h; intro u hu; simp at hu; rcases hu with rfl | rfl | rfl <;> rfl
 ext {A F w w' x cs} h x' hF := by
  induction h with
  | mk k n l a cap b off c hcap hn hb hc hr ih =>
   refine IsTy.mk k n l a cap b off c hcap hn (fun hl => ?_) (fun i hi => ?_) ih
   · obtain ⟨h1, h2, h3⟩ := hb hl
     exact ⟨h1, h2, Nat.lt_of_lt_of_le h3 x'.size⟩
   · obtain ⟨h1, h2, h3⟩ := hb (by intro e; subst e; simp at hi)
     exact (hc i hi).ext x' h3 fun q => h2 (hF _ h3 q)
 mono {A B w x cs} h hB := by
  induction h with
  | mk k n l a cap b off c hcap hn hb hc hr ih =>
   refine IsTy.mk k n l a cap b off c hcap hn (fun hl => ?_) hc ih
   obtain ⟨h1, h2, h3⟩ := hb hl
   exact ⟨h1, fun q => h2 (hB _ h3 q), h3⟩
def TyV (A : Nat → Prop) (w : World) (t : Ty) (v : Value) : Prop := ∃ x, v = .agg #[.int .i64 t.kind, .string ⟨t.name.toArray⟩, x] ∧ IsSl 3 IsTy A w x t.args
theorem TyV.ty {A : Nat → Prop} {w : World} {t : Ty} {x : Value} (h : IsSl 3 IsTy A w x t.args) : IsTy A w t [.int .i64 t.kind, .string ⟨t.name.toArray⟩, x] := by
 cases t with
 | mk k n l => exact IsTy.of h
theorem TyV.ext {A F : Nat → Prop} {w w' : World} {t : Ty} {v : Value} (h : TyV A w t v) (x : Ext F w w') (hF : ∀ b, b < w.heap.size → F b → A b) : TyV A w' t v := by
 obtain ⟨u, rfl, h⟩ := h
 exact ⟨u, rfl, h.ext isTy_good x hF⟩
theorem TyV.mono {A B : Nat → Prop} {w : World} {t : Ty} {v : Value} (h : TyV A w t v) (hB : ∀ b, b < w.heap.size → B b → A b) : TyV B w t v := by
 obtain ⟨u, rfl, h⟩ := h
 exact ⟨u, rfl, h.mono isTy_good hB⟩
def IsStr : Lay (List UInt8) := fun _ _ s cs => cs = [.string ⟨s.toArray⟩]
theorem isStr_good : Good 1 IsStr where
 len h := by subst h; rfl
 one h := by subst h; intro u hu; simp at hu; subst hu; rfl
 ext h _ _ := h
 mono h _ := h
abbrev IsStrs (A : Nat → Prop) (w : World) (v : Value) (l : List (List UInt8)) : Prop := IsSl 1 IsStr A w v l
theorem IsStrs.cell {A : Nat → Prop} {w : World} {a : Option Addr} {n cap : Nat} {l : List (List UInt8)} (h : IsStrs A w (.slice a n cap) l) (i : Nat) (hi : i < l.length) : ∃ b off, a = some ⟨b, off, none⟩ ∧ w.cell? ⟨b, off + i, none⟩ = some (.string ⟨l[i].toArray⟩) := by
 obtain ⟨b, off, cs, rfl, _, _, hc, rfl⟩ := h.at i hi
 exact ⟨b, off, rfl, by simpa using hc 0 _ rfl⟩
end Go.Proofs.YthbmjamgidfneaaGreatDoor
namespace Go.Proofs.YthbmjamgidfneaaGreatDoor
open Go.RowKit Go.Lib Go.BigFrame
def fstI {α : Type} (p : α → Bool) (l : List α) : Int := match l.findIdx? p with
 | some i => (i : Nat)
 | none => -1
theorem fstI_at {α : Type} {p : α → Bool} {l : List α} {i : Nat} (hi : i < l.length) (hp : p l[i] = true) (hn : ∀ j (h : j < l.length), j < i → p l[j] = false) : fstI p l = (i : Nat) := by
 have e : l.findIdx? p = some i := by
  rw [List.findIdx?_eq_some_iff_getElem]
  exact ⟨hi, hp, fun j hj => by rw [hn j (by omega) hj]; simp⟩
 unfold fstI; rw [e]
theorem fstI_none {α : Type} {p : α → Bool} {l : List α} (hn : ∀ j (h : j < l.length), p l[j] = false) : fstI p l = -1 := by
 have e : l.findIdx? p = none := by
  rw [List.findIdx?_eq_none_iff]
  intro x hx
  obtain ⟨j, hj, rfl⟩ := List.mem_iff_getElem.1 hx
  rw [hn j hj]
 unfold fstI; rw [e]
theorem fstI_cases {α : Type} (p : α → Bool) (l : List α) : (fstI p l = -1 ∧ ∀ x ∈ l, p x = false) ∨ ∃ i, ∃ h : i < l.length, fstI p l = (i : Nat) ∧ p l[i] = true := by
 unfold fstI
 cases h : l.findIdx? p with
 | none => left; rw [List.findIdx?_eq_none_iff] at h; exact ⟨rfl, fun x hx => by simpa using h x hx⟩
 | some i =>
  right
  rw [List.findIdx?_eq_some_iff_getElem] at h
  obtain ⟨h1, h2, _⟩ := h
  exact ⟨i, h1, rfl, h2⟩
def IntP (z : Int) (w : World) (e : Ending) (w' : World) : Prop := e = .returned (.int .i64 z) ∧ Ext none' w w'
def BoolP (b : Bool) (w : World) (e : Ending) (w' : World) : Prop := e = .returned (.bool b) ∧ Ext none' w w'
def bigD : Nat := 4000000000
end Go.Proofs.YthbmjamgidfneaaGreatDoor
namespace Go.Proofs.YthbmjamgidfneaaGreatDoor
open Go.RowKit Go.Lib
inductive Br where
 | fin
 | one (i : Nat) (b : Bool) (r : Br)
 | two (i : Nat) (b : Bool) (r : Br) (j : Nat) (c : Bool) (q : Br)
def Br.depth : Br → Nat
 | .fin => 0
 | .one _ _ r => r.depth + 1
 | .two _ _ r _ _ _ => r.depth + 1
def Br.early : Br → List Nat
 | .fin => []
 | .one i b r => (if b then [] else [i]) ++ r.early
 | .two i b r j c q => (if b then [] else [i]) ++ (r.early ++ ((if c then [] else [j]) ++ q.early))
section
variable {P : Program} {ops : Array Oper} {Q : Exit → Act → World → Prop} {md : Region.Mode} {S : World → Prop} {E : Nat → Bool}
def stepT (P : Program) (l : List Oper) (Q : Exit → Act → World → Prop) (S : World → Prop) (i : Nat) (b : Bool) (K : Act → World → Prop) (a : Act) (w : World) : Prop :=
 wpList P l.toArray (Exit.then (fun a' w' => match b with | true => S w' ∧ K a' w' | false => K a' w') Q) (sel l [i]) a w
theorem stepT_op (l : List Oper) (hl : l.toArray = ops) {listed : Array Bool} {a : Act} {w : World} {i : Nat} {b : Bool} {K : Act → World → Prop} {fuel : Nat} (hm : i ∈ Region.ready md ops listed) (he : b = false → E i = false)
  (hK : ∀ a' w', K a' w' → wpAnyE P md ops Q S E fuel (listed.setIfInBounds i true) a' w') (h : stepT P l Q S i b K a w) : wpOp P ops Q i (fun a' w' => (E i = true → S w') ∧ wpAnyE P md ops Q S E fuel (listed.setIfInBounds i true) a' w') a w := by
 obtain ⟨_, oi, hoi, _⟩ := mem_ready.1 hm
 have hli : l[i]? = some oi := by rw [← hl] at hoi; simpa using hoi
 simp only [stepT, sel, hli, hl, wpList] at h
 have hnext : ∀ a' w', (match b with | true => S w' ∧ K a' w' | false => K a' w') → (E i = true → S w') ∧ wpAnyE P md ops Q S E fuel (listed.setIfInBounds i true) a' w' := by
  intro a' w' hx
  cases b with
  | true => exact ⟨fun _ => hx.1, hK _ _ hx.2⟩
  | false => exact ⟨fun hE => (by rw [he rfl] at hE; cases hE), hK _ _ hx⟩
 unfold wpOp
 simp only [hoi]
 split at h
 · rename_i hw
   rw [if_pos hw]
   refine h.imp (fun h => wp_exits (fun a' w' hx => hnext a' w' hx) (fun c a w hx => hx) (fun ⟨a, w, hx⟩ => ⟨a, w, hx⟩) h) (fun ⟨h1, a, w, hx⟩ => ⟨h1, a, w, hx⟩)
 · rename_i hw
   rw [if_neg hw]
   exact hnext _ _ h
end
inductive Bq where
 | fin
 | one (i : Nat) (b : Bool) (r : Bq)
 | two (i : Nat) (b : Bool) (r : Bq) (j : Nat) (c : Bool) (q : Bq)
 | qs (l : List Nat) (r : Bq)
def Bq.depth : Bq → Nat
 | .fin => 0
 | .one _ _ r => r.depth + 1
 | .two _ _ r _ _ _ => r.depth + 1
 | .qs l r => l.length + r.depth
def Bq.early : Bq → List Nat
 | .fin => []
 | .one i b r => (if b then [] else [i]) ++ r.early
 | .two i b r j c q => (if b then [] else [i]) ++ (r.early ++ ((if c then [] else [j]) ++ q.early))
 | .qs _ r => r.early
section
variable {P : Program} {ops : Array Oper} {Q : Exit → Act → World → Prop} {md : Region.Mode} {S : World → Prop} {E : Nat → Bool}
def wpTreeQ (P : Program) (l : List Oper) (Q : Exit → Act → World → Prop) (S : World → Prop) : Bq → Act → World → Prop
 | .fin, a, w => Q .normal a w
 | .one i b r, a, w => stepT P l Q S i b (wpTreeQ P l Q S r) a w
 | .two i b r j c q, a, w => stepT P l Q S i b (wpTreeQ P l Q S r) a w ∧ stepT P l Q S j c (wpTreeQ P l Q S q) a w
 | .qs lq r, a, w => S w ∧ wpQuiet P l.toArray S (fun a' => wpTreeQ P l Q S r a' w) (sel l lq) a
def treeQB (md : Region.Mode) (ops : Array Oper) (E : Nat → Bool) : Bq → Array Bool → Bool
 | .fin, listed => (Region.ready md ops listed).isEmpty
 | .one i _ r, listed => (Region.ready md ops listed) == [i] && treeQB md ops E r (listed.setIfInBounds i true)
 | .two i _ r j _ q, listed => (Region.ready md ops listed) == [i, j] && treeQB md ops E r (listed.setIfInBounds i true) && treeQB md ops E q (listed.setIfInBounds j true) && r.depth == q.depth
 | .qs lq r, listed => readyA md ops lq listed && (lq.all fun i => (List.range ops.size).all fun j => E j || waitsB md ops ops.size j i) && treeQB md ops E r (listedA lq listed)
theorem down_listed : ∀ (lA : List Nat) (listed : Array Bool), readyA md ops lA listed = true → Down md ops listed → Down md ops (listedA lA listed)
 | [], _, _, h => h
 | i :: r, listed, hr, h => by
  simp only [readyA, Bool.and_eq_true, List.contains_eq_mem, decide_eq_true_eq] at hr
  exact down_listed r _ hr.2 (h.step hr.1.1.1)
theorem phaseQ (l : List Oper) (hl : l.toArray = ops) (hs : Region.noSelect ops = true) (hQ : ∀ (dst : Option Tmp) v c a w, Q (.panic c) (a.put dst v) w → Q (.panic c) a w) : ∀ (t : Bq) (listed : Array Bool) (a : Act) (w : World), treeQB md ops E t listed = true → (∀ j ∈ t.early, E j = false) → Down md ops listed → wpTreeQ P l Q S t a w → wpAnyE P md ops Q S E t.depth listed a w
 | .fin, listed, a, w, hc, _, _, h => ⟨by simpa [treeQB] using hc, h⟩
 | .one i b r, listed, a, w, hc, he, hd, h => by
  simp only [treeQB, Bool.and_eq_true, beq_iff_eq] at hc
  refine ⟨fun h0 => (by rw [hc.1] at h0; cases h0), fun k hk => ?_⟩
  have hk' := hk
  rw [hc.1, List.mem_singleton] at hk'
  subst hk'
  exact stepT_op l hl hk (fun hb => he _ (by simp [Bq.early, hb])) (fun a' w' h' => phaseQ l hl hs hQ r _ a' w' hc.2 (fun j hj => he j (by simp [Bq.early, hj])) (hd.step hk) h') h
 | .two i b r j c q, listed, a, w, hc, he, hd, h => by
  simp only [treeQB, Bool.and_eq_true, beq_iff_eq] at hc
  obtain ⟨⟨⟨h1, h2⟩, h3⟩, h4⟩ := hc
  refine ⟨fun h0 => (by rw [h1] at h0; cases h0), fun k hk => ?_⟩
  have hk' := hk
  rw [h1] at hk'
  simp only [List.mem_cons, List.mem_nil_iff, or_false] at hk'
  rcases hk' with rfl | rfl
  · exact stepT_op l hl hk (fun hb => he _ (by simp [Bq.early, hb])) (fun a' w' h' => phaseQ l hl hs hQ r _ a' w' h2 (fun j hj => he j (by simp [Bq.early, hj])) (hd.step hk) h') h.1
  · refine stepT_op l hl hk (fun hb => he _ (by simp [Bq.early, hb])) (fun a' w' h' => ?_) h.2
    have := phaseQ l hl hs hQ q _ a' w' h3 (fun j hj => he j (by simp [Bq.early, hj])) (hd.step hk) h'
    rw [← h4] at this
    exact this
 | .qs lq r, listed, a, w, hc, he, hd, h => by
  simp only [treeQB, Bool.and_eq_true] at hc
  obtain ⟨⟨h1, h2⟩, h3⟩ := hc
  simp only [wpTreeQ] at h
  refine phaseA l hl hs hQ h.1 _ r.depth lq _ a h1 h2 hd (by rw [hl] at h; exact h.2) ?_
  intro a' h'
  exact phaseQ l hl hs hQ r _ a' w h3 (fun j hj => he j (by simpa [Bq.early] using hj)) (down_listed lq _ h1 hd) h'
def mixedQB (ops : Array Oper) (t : Bq) : Bool :=
 Region.noSelect ops && treeQB .any ops (fun j => !t.early.contains j) t (Array.replicate ops.size false) && t.depth == ops.size
theorem region_q {id : Nat} {a : Act} {w : World} {l : List Oper} (F : Nat → Prop) (w0 : World) (t : Bq) (hm : P.follows .mixedOrders = true) (hB : mixedQB l.toArray t = true)
  (hQ : ∀ (dst : Option Tmp) v c a w, Q (.panic c) (a.put dst v) w → Q (.panic c) a w)
  (h : wpTreeQ P l Q (In F w0) t a w.drew) : (Code.region id l.toArray true).wp P Q a w := by
 simp only [mixedQB, Bool.and_eq_true, beq_iff_eq] at hB
 obtain ⟨⟨h1, h2⟩, h3⟩ := hB
 refine wp_region_any hm (wpAny_of_E (S := In F w0) (E := fun j => !t.early.contains j) _ _ _ _ ?_)
 rw [← h3] at h2 ⊢
 refine phaseQ l rfl h1 hQ t _ a _ h2 (fun j hj => by simp [hj]) ?_ h
 intro k ok hk hl
 rw [getD_replicate] at hl
 cases hl
end
end Go.Proofs.YthbmjamgidfneaaGreatDoor
namespace Go.Proofs.YthbmjamgidfneaaGreatDoor
open Go.RowKit Go.Lib Go.BigFrame
def AskV (f : Nat) (p : Nd → Bool) (w : World) (v : Value) : Prop :=
 ∃ fn caps, v = .func (.func fn) #[] caps ∧ (∀ args w, (callFunc fn args).run Tryz.prog w = .ok (.enter fn args) w) ∧
  ∀ (t : Nd), t.size ≤ f → ∀ (W : World) (x : Value), Ext none' w W → NdV none' W t x → Calls Tryz.prog fn (#[x] ++ caps) W (BoolP (p t) W)
theorem AskV.ext {f : Nat} {p : Nd → Bool} {w w' : World} {v : Value} (h : AskV f p w v) (x : Ext none' w w') : AskV f p w' v := by
 obtain ⟨fn, caps, rfl, hfn, h⟩ := h
 exact ⟨fn, caps, rfl, hfn, fun t ht W y X hy => h t ht W y (x.trans X) hy⟩
def SoV (so : List UInt8 → Bool) (w : World) (v : Value) : Prop :=
 ∃ fn caps, v = .func (.func fn) #[] caps ∧ (∀ args w, (callFunc fn args).run Tryz.prog w = .ok (.enter fn args) w) ∧
  ∀ (s : List UInt8) (W : World), s.length ≤ bigD → Ext none' w W → Calls Tryz.prog fn (#[.string ⟨s.toArray⟩] ++ caps) W (BoolP (so s) W)
theorem SoV.ext {so : List UInt8 → Bool} {w w' : World} {v : Value} (h : SoV so w v) (x : Ext none' w w') : SoV so w' v := by
 obtain ⟨fn, caps, rfl, hfn, h⟩ := h
 exact ⟨fn, caps, rfl, hfn, fun s W hs X => h s W hs (x.trans X)⟩
def AsksV (f : Nat) (ps : List (Nd → Bool)) (w : World) (v : Value) : Prop :=
 ∃ a cap, v = .slice a ps.length cap ∧ ∀ (i : Nat) (h : i < ps.length), ∃ b off u, a = some ⟨b, off, none⟩ ∧ b < w.heap.size ∧ w.cell? ⟨b, off + i, none⟩ = some u ∧ AskV f ps[i] w u
theorem AsksV.ext {f : Nat} {ps : List (Nd → Bool)} {w w' : World} {v : Value} (h : AsksV f ps w v) (x : Ext none' w w') : AsksV f ps w' v := by
 obtain ⟨a, cap, rfl, h⟩ := h
 refine ⟨a, cap, rfl, fun i hi => ?_⟩
 obtain ⟨b, off, u, rfl, hb, hc, hu⟩ := h i hi
 exact ⟨b, off, u, rfl, Nat.lt_of_lt_of_le hb x.size, (x.cell (p := ⟨b, off + i, none⟩) hb fun h => h).trans hc, hu.ext x⟩
theorem AsksV.none {f : Nat} {w : World} : AsksV f [] w (.slice none 0 0) := ⟨.none, 0, rfl, fun i h => by simp at h⟩
theorem AsksV.lit1 {f : Nat} {p : Nd → Bool} {w : World} {B : Nat} {u : Value} {t : TypeId} {fz : Nat × Nat} (h : w.heap[B]? = some (.cells #[u] t fz)) (hu : AskV f p w u) : AsksV f [p] w (.slice (some ⟨B, 0, Option.none⟩) 1 1) :=
 ⟨_, 1, rfl, fun i hi => by
  have : i < 1 := hi
  obtain rfl : i = 0 := by omega
  exact ⟨B, 0, u, rfl, heap_lt h, cell_at h 0, hu⟩⟩
theorem AsksV.lit2 {f : Nat} {p q : Nd → Bool} {w : World} {B : Nat} {u v : Value} {t : TypeId} {fz : Nat × Nat} (h : w.heap[B]? = some (.cells #[u, v] t fz)) (hu : AskV f p w u) (hv : AskV f q w v) : AsksV f [p, q] w (.slice (some ⟨B, 0, Option.none⟩) 2 2) :=
 ⟨_, 2, rfl, fun i hi => by
  have : i < 2 := hi
  have hi : i = 0 ∨ i = 1 := by omega
  rcases hi with rfl | rfl
  · exact ⟨B, 0, u, rfl, heap_lt h, cell_at h 0, hu⟩
  · exact ⟨B, 0, v, rfl, heap_lt h, cell_at h 1, hv⟩⟩
theorem NdV.kids {t : Nd} {w : World} {i : Nat} {a : Option Addr} {n cap : Nat} (h : IsSl 4 IsNd none' w (.slice a n cap) t.kids) (hi : i < t.kids.length) :
  ∃ b off x, a = some ⟨b, off, none⟩ ∧ w.cell? ⟨b, off + i * 4, none⟩ = some (.int .i64 t.kids[i].kind) ∧ w.cell? ⟨b, off + i * 4 + 1, none⟩ = some (.string ⟨t.kids[i].text.toArray⟩) ∧ w.cell? ⟨b, off + i * 4 + 2, none⟩ = some x ∧ w.cell? ⟨b, off + i * 4 + 3, none⟩ = some (.int .i64 t.kids[i].pos) ∧ IsSl 4 IsNd none' w x t.kids[i].kids := by
 obtain ⟨b, off, cs, rfl, _, _, hcc, hty⟩ := h.at i hi
 obtain ⟨x, rfl, hx⟩ := hty.parts
 exact ⟨b, off, x, rfl, by simpa using hcc 0 _ rfl, by simpa using hcc 1 _ rfl, by simpa using hcc 2 _ rfl, by simpa using hcc 3 _ rfl, hx⟩
theorem any_fst {α : Type} (p : α → Bool) (l : List α) : decide (0 ≤ fstI p l) = l.any p := by
 rcases fstI_cases p l with ⟨e, h⟩ | ⟨i, hi, e, h⟩
 · rw [e]
   have : l.any p = false := by rw [List.any_eq_false]; intro x hx; rw [h x hx]; simp
   rw [this]; rfl
 · rw [e]
   have : l.any p = true := List.any_eq_true.2 ⟨_, List.getElem_mem hi, h⟩
   rw [this]; simp
theorem ind_any (p : Nd → Bool) (l : List Nd) (f : Nat) (v u : Value) (w : World) (hl : l.length ≤ bigD) (hv : IsSl 4 IsNd none' w v l) (hf : ∀ (i : Nat) (hi : i < l.length), l[i].size ≤ f) (hu : AskV f p w u) :
  Calls Tryz.prog 175 #[v, u] w (IntP (fstI p l) w) := by
 obtain ⟨q, hq⟩ : ∃ q, q = fstI p l := ⟨_, rfl⟩
 rw [← hq]
 have HQ := hid hq
 have HV := hid hv
 obtain ⟨fn, caps, rfl, hfn, hst⟩ := hu
 have HST := hid hst
 have HF := hid hf
 obtain ⟨a, cap, rfl, hc, hn, _⟩ := hv
 unfold bigD at hl
 clear hn hst hq hf
 go_enter Tryz.func175, Tryz.ntmps175
 go_wp2_with fail
 go_loopw [5, 8] (fun _ z wr => ∃ (i : Nat), z = .int .i64 (i : Nat) ∧ i ≤ l.length ∧ Hid (Ext none' w wr ∧ ∀ j (h : j < l.length), j < i → p l[j] = false)) (fun _ z _ => l.length - (RowKit.intOf z).toNat)
 case atStart => exact ⟨0, rfl, by omega, hid ⟨Ext.refl _ _, fun j _ h => by omega⟩⟩
 case round =>
  obtain ⟨i, rfl, hle, R⟩ := hrel
  by_cases hi : i < l.length
  · obtain ⟨b, off, cs, rfl, hAb, hbw, hcc, hty⟩ := (HV.out.ext isNd_good R.out.1 fun _ _ h => h.elim).at i hi
    obtain ⟨x, rfl, hx⟩ := hty.parts
    have c0 := hcc 0 _ rfl
    have c1 := hcc 1 _ rfl
    have c2 := hcc 2 _ rfl
    have c3 := hcc 3 _ rfl
    simp only [Nat.add_zero] at c0
    have HX := hid hx
    obtain ⟨a1, cap1, rfl, _⟩ := hx
    have HR := hid R.out
    obtain ⟨bb, hbb⟩ : ∃ bb, p l[i] = bb := ⟨_, rfl⟩
    have HBB := hid hbb
    have C2 : Hid (Calls Tryz.prog fn (#[.agg #[.int .i64 l[i].kind, .string ⟨l[i].text.toArray⟩, .slice a1 l[i].kids.length cap1, .int .i64 l[i].pos]] ++ caps) wr (BoolP bb wr)) := hid (by rw [← hbb]; exact HST.out _ (HF.out i hi) wr _ R.out.1 ⟨_, rfl, HX.out⟩)
    clear hbb R hcc hty
    go_wp2_with fail
    refine C2.out.mono ?_
    rintro e w2 ⟨rfl, X2⟩
    have HX2 := hid (HR.out.1.trans X2)
    clear X2
    cases bb with
    | true =>
     have E : Hid (q = (i : Nat)) := hid (by rw [HQ.out]; exact fstI_at hi HBB.out HR.out.2)
     go_wp2_with fail
     go_ret
     exact ⟨by rw [E.out]; rfl, HX2.out⟩
    | false =>
     go_wp2_with fail
     go_roundw
     case rel => exact ⟨i + 1, by go_num, by omega, hid ⟨HX2.out, fun j hj hji => by
       by_cases q : j = i
       · subst q; exact HBB.out
       · exact HR.out.2 j hj (by omega)⟩⟩
     case measure => simp [RowKit.intOf]; omega
  · obtain rfl : i = l.length := by omega
    have E : Hid (q = -1) := hid (by rw [HQ.out]; exact fstI_none fun j hj => R.out.2 j hj hj)
    have HX := hid R.out.1
    clear R
    go_wp2_with fail
    go_ret
    exact ⟨by rw [E.out]; rfl, HX.out⟩
theorem con_any (p : Nd → Bool) (l : List Nd) (f : Nat) (v u : Value) (w : World) (hl : l.length ≤ bigD) (hv : IsSl 4 IsNd none' w v l) (hf : ∀ (i : Nat) (hi : i < l.length), l[i].size ≤ f) (hu : AskV f p w u) :
  Calls Tryz.prog 134 #[v, u] w (BoolP (l.any p) w) := by
 have C := hid (ind_any p l f v u w hl hv hf hu)
 obtain ⟨a, cap, rfl, _⟩ := hv
 obtain ⟨fn, caps, rfl, _⟩ := hu
 rw [← any_fst]
 obtain ⟨z, hz⟩ : ∃ z, fstI p l = z := ⟨_, rfl⟩
 rw [hz] at C ⊢
 clear hz
 go_enter Tryz.func134, Tryz.ntmps134
 go_wp2_with fail
 refine C.out.mono ?_
 rintro e w1 ⟨rfl, X1⟩
 have X1 := hid X1
 go_wp2_with fail
 go_ret
 exact ⟨rfl, X1.out⟩
theorem all1_ask (f : Nat) (p : Nd → Bool) (w : World) (u : Value) (B : Nat) (hb : w.heap[B]? = some (.cells #[u] 41 (0, 0))) (hu : AskV f p w u) : AskV f (fun t => !p t) w (.func (.func 135) #[] #[.pointer (some ⟨B, 0, none⟩)]) := by
 refine ⟨_, _, rfl, Go.Proofs.enters_of Tryz.func135 (by kernel_rfl) rfl, fun t ht W x X hx => ?_⟩
 obtain ⟨fn, caps, rfl, hfn, hst⟩ := hu
 have CC := hid fun W' (X' : Ext none' W W') => hst t ht W' x (X.trans X') (hx.ext X' fun _ _ h => h)
 obtain ⟨y, rfl, hy⟩ := hx
 obtain ⟨a1, cap1, rfl, _⟩ := hy
 have c0 := cell_at (heap_alloc_keep (X.heap hb fun h => h) (.cells #[.int .i64 t.kind, .string ⟨t.text.toArray⟩, .slice a1 t.kids.length cap1, .int .i64 t.pos] 24)) 0
 simp only [List.getElem?_toArray, List.getElem?_cons_zero] at c0
 show Calls Tryz.prog 135 #[_, _] _ (BoolP (!p t) W)
 obtain ⟨q, hq⟩ : ∃ q, p t = q := ⟨_, rfl⟩
 rw [hq] at CC ⊢
 clear hq hst hb X
 go_enter Tryz.func135, Tryz.ntmps135
 go_wp2_with fail
 refine (CC.out _ ((Ext.refl _ _).alloc _)).mono ?_
 rintro e w1 ⟨rfl, X1⟩
 have X1 := hid (((Ext.refl none' W).alloc _).trans X1)
 go_wp2_with fail
 go_ret
 exact ⟨by cases q <;> rfl, X1.out⟩
theorem all_not_any {α : Type} (p : α → Bool) (l : List α) : l.all p = !(l.any fun t => !p t) := by
 induction l with
 | nil => rfl
 | cons a r ih => simp [ih]
theorem all_any (p : Nd → Bool) (l : List Nd) (f : Nat) (v u : Value) (w : World) (hl : l.length ≤ bigD) (hv : IsSl 4 IsNd none' w v l) (hf : ∀ (i : Nat) (hi : i < l.length), l[i].size ≤ f) (hu : AskV f p w u) :
  Calls Tryz.prog 100 #[v, u] w (BoolP (l.all p) w) := by
 rw [all_not_any]
 have C := hid (con_any (fun t => !p t) l f v (.func (.func 135) #[] #[.pointer (some ⟨w.heap.size, 0, none⟩)]) (w.alloc (.cells #[u] 41)) hl (hv.ext isNd_good ((Ext.refl none' w).alloc _) fun _ _ h => h) hf (all1_ask f p _ u w.heap.size (heap_alloc_at rfl _) (hu.ext ((Ext.refl _ _).alloc _))))
 obtain ⟨a, cap, rfl, _⟩ := hv
 obtain ⟨fn, caps, rfl, _⟩ := hu
 obtain ⟨z, hz⟩ : ∃ z, (l.any fun t => !p t) = z := ⟨_, rfl⟩
 rw [hz] at C ⊢
 clear hz
 go_enter Tryz.func100, Tryz.ntmps100
 go_wp2_with fail
 refine C.out.mono ?_
 rintro e w1 ⟨rfl, X1⟩
 have X1 := hid (((Ext.refl none' w).alloc _).trans X1)
 go_wp2_with fail
 go_ret
 exact ⟨by cases z <;> rfl, X1.out⟩
end Go.Proofs.YthbmjamgidfneaaGreatDoor
