import Derived.Test.YtbhpmmofgdppdaaGreatDoorZAl
import Derived.Test.YtbhpmmofgdppdaaGreatDoorZAp
import Derived.WideMake
import Derived.Test.YtbhpmmofgdppdaaGreatDoorZAm
import Derived.Test.YtbhpmmofgdppdaaGreatDoorZAf
/-
  tree.sorts, tree.Right.
-/
namespace Go.Proofs.YtbhpmmofgdppdaaGreatDoor
open Go.RowKit Go.Lib Go.BigFrame
/-- A world with another object in a block. -/
def putS (w : World) (r : Nat) (o : Obj) : World := { w with heap := w.heap.setIfInBounds r o }
theorem putS_at {w : World} {r : Nat} {o o' : Obj} (h : w.heap[r]? = some o') : (putS w r o).heap[r]? = some o := by
  have := heap_lt h
  simp [putS, this]
theorem Ext.putS {F : Nat → Prop} {a w : World} (h : Ext F a w) {r : Nat} (hr : a.heap.size ≤ r) (o : Obj) : Ext F a (putS w r o) :=
  h.trans' (G := fun i => i = r) ⟨rfl, rfl, rfl, by simp [Go.Proofs.YtbhpmmofgdppdaaGreatDoor.putS], fun k _ hn => by simp [Go.Proofs.YtbhpmmofgdppdaaGreatDoor.putS, Ne.symm hn]⟩ fun i hi hg => by subst hg; omega
theorem run_insT {w : World} {r : Nat} {es : Array MapEntry} {clock : Nat} {mt et : TypeId} (hu : Tryz.prog.underlying mt = some (.map 9 et)) (k : List UInt8) (v : Value) (hb : w.heap[r]? = some (.map es clock)) (hf : Instr.findNow .string (.string ⟨k.toArray⟩) es.toList 0 = some none) :
    (Instr.mapUpdate mt (.map (some r)) (.string ⟨k.toArray⟩) v).run Tryz.prog w = .ok () (putS w r (.map (es.push ⟨.string ⟨k.toArray⟩, v, clock⟩) (clock + 1))) := by
  have hc : (Instr.checkKey false 10000 9 (.string ⟨k.toArray⟩)).run Tryz.prog w = .ok () w := MapKept.run_checkKey (k := .string ⟨k.toArray⟩) Tryz.underlying9 (by simp [MapKept.IsKey]) false 9999
  simp [Instr.mapUpdate, run_underlying hu, MapKept.run_getObj_map hb, hc, MapKept.run_findKey Tryz.underlying9 hf, MapKept.run_setObj_map _ hb, Result.andThen, putS]
theorem insT_ex {w : World} {r : Nat} {es : Array MapEntry} {clock : Nat} {mt et : TypeId} (hu : Tryz.prog.underlying mt = some (.map 9 et)) (k : List UInt8) (v : Value) (hb : w.heap[r]? = some (.map es clock)) (hf : Instr.findNow .string (.string ⟨k.toArray⟩) es.toList 0 = some none) :
    ∃ w', (Instr.mapUpdate mt (.map (some r)) (.string ⟨k.toArray⟩) v).run Tryz.prog w = .ok () w' ∧ w'.heap[r]? = some (.map (es.push ⟨.string ⟨k.toArray⟩, v, clock⟩) (clock + 1)) ∧
      ∀ (a : World), Ext none' a w → a.heap.size ≤ r → Ext none' a w' :=
  ⟨_, run_insT hu k v hb hf, putS_at hb, fun _ h hr => h.putS hr _⟩
theorem look_okT {w : World} {r i clock : Nat} {es : Array MapEntry} {mt et : TypeId} (hu : Tryz.prog.underlying mt = some (.map 9 et)) (n : List UInt8) (v : Value) (hb : w.heap[r]? = some (.map es clock)) (hf : Instr.findNow .string (.string ⟨n.toArray⟩) es.toList 0 = some (some (i, v))) :
    (Instr.lookup mt (.map (some r)) (.string ⟨n.toArray⟩) true).run Tryz.prog w = .ok (.tuple #[v, .bool true]) w := by
  have hc : ∀ b, (Instr.checkKey b 10000 9 (.string ⟨n.toArray⟩)).run Tryz.prog w = .ok () w := fun b => MapKept.run_checkKey (k := .string ⟨n.toArray⟩) Tryz.underlying9 (by simp [MapKept.IsKey]) b 9999
  simp [Instr.lookup, run_underlying hu, MapKept.run_getObj_map hb, hc, MapKept.run_findKey Tryz.underlying9 hf, Result.andThen]
theorem look_noT {w : World} {r clock : Nat} {es : Array MapEntry} {mt et : TypeId} {z : Value} (hu : Tryz.prog.underlying mt = some (.map 9 et)) (hz : ∀ w, (zeroValue et).run Tryz.prog w = .ok z w) (n : List UInt8) (hb : w.heap[r]? = some (.map es clock)) (hf : Instr.findNow .string (.string ⟨n.toArray⟩) es.toList 0 = some none) :
    (Instr.lookup mt (.map (some r)) (.string ⟨n.toArray⟩) true).run Tryz.prog w = .ok (.tuple #[z, .bool false]) w := by
  have hc : ∀ b, (Instr.checkKey b 10000 9 (.string ⟨n.toArray⟩)).run Tryz.prog w = .ok () w := fun b => MapKept.run_checkKey (k := .string ⟨n.toArray⟩) Tryz.underlying9 (by simp [MapKept.IsKey]) b 9999
  simp [Instr.lookup, run_underlying hu, MapKept.run_getObj_map hb, hc, MapKept.run_findKey Tryz.underlying9 hf, Result.andThen, hz]
def sFile : List UInt8 := [102, 105, 108, 101]
def sDecl : List UInt8 := [100, 101, 99, 108, 97, 114, 97, 116, 105, 111, 110]
def sType : List UInt8 := [116, 121, 112, 101]
def sExpr : List UInt8 := [101, 120, 112, 114, 101, 115, 115, 105, 111, 110]
def sStmt : List UInt8 := [115, 116, 97, 116, 101, 109, 101, 110, 116]
def sSig : List UInt8 := [115, 105, 103, 110, 97, 116, 117, 114, 101]
def fnV (n : Nat) : Value := .func (.func n) #[] #[]
def sortsE : Array MapEntry := #[⟨.string ⟨sFile.toArray⟩, fnV 132, 0⟩, ⟨.string ⟨sDecl.toArray⟩, fnV 135, 1⟩, ⟨.string ⟨sType.toArray⟩, fnV 136, 2⟩, ⟨.string ⟨sExpr.toArray⟩, fnV 137, 3⟩, ⟨.string ⟨sStmt.toArray⟩, fnV 138, 4⟩, ⟨.string ⟨sSig.toArray⟩, fnV 139, 5⟩]
def SortsPost (w : World) (e : Ending) (w' : World) : Prop := ∃ r, e = .returned (.map (some r)) ∧ w'.heap[r]? = some (.map sortsE 6) ∧ Ext none' w w'
set_option maxRecDepth 100000 in
set_option maxHeartbeats 800000 in
theorem sorts_any (w : World) : Calls Tryz.prog 119 #[] w (SortsPost w) := by
  have hmm := @run_makeMap Tryz.prog
  have b0 : (w.alloc (.map #[] 0)).heap[w.heap.size]? = some (.map #[] 0) := heap_alloc_at rfl _
  have x0 : Ext none' w (w.alloc (.map #[] 0)) := (Ext.refl _ _).alloc _
  have hu := Tryz.underlying121
  obtain ⟨W1, e1, b1, f1⟩ := insT_ex hu sFile (fnV 132) b0 rfl
  have x1 := f1 w x0 (Nat.le_refl _)
  obtain ⟨W2, e2, b2, f2⟩ := insT_ex hu sDecl (fnV 135) b1 rfl
  have x2 := f2 w x1 (Nat.le_refl _)
  obtain ⟨W3, e3, b3, f3⟩ := insT_ex hu sType (fnV 136) b2 rfl
  have x3 := f3 w x2 (Nat.le_refl _)
  obtain ⟨W4, e4, b4, f4⟩ := insT_ex hu sExpr (fnV 137) b3 rfl
  have x4 := f4 w x3 (Nat.le_refl _)
  obtain ⟨W5, e5, b5, f5⟩ := insT_ex hu sStmt (fnV 138) b4 rfl
  have x5 := f5 w x4 (Nat.le_refl _)
  obtain ⟨W6, e6, b6, f6⟩ := insT_ex hu sSig (fnV 139) b5 rfl
  have x6 := f6 w x5 (Nat.le_refl _)
  have B := hid b6
  have X := hid x6
  simp only [sFile, sDecl, sType, sExpr, sStmt, sSig, fnV] at e1 e2 e3 e4 e5 e6
  clear b0 x0 b1 x1 b2 x2 b3 x3 b4 x4 b5 x5 b6 x6 f1 f2 f3 f4 f5 f6 hu
  go_enter Tryz.func119, Tryz.ntmps119
  go_wp2
  go_ret
  exact ⟨_, rfl, B.out, X.out⟩
def rightB (p : Bool) (t : Nd) : Bool := decide (depthN t ≤ 100) && (decide (sizeD 100 t ≤ 65536) && p)
set_option maxRecDepth 100000 in
set_option maxHeartbeats 1600000 in
/-- tree.Right of a sort that there is. -/
theorem right_any (s : List UInt8) (i fn : Nat) (hs : Instr.findNow .string (.string ⟨s.toArray⟩) sortsE.toList 0 = some (some (i, fnV fn))) (hfn : ∀ args w, (callFunc fn args).run Tryz.prog w = .ok (.enter fn args) w) (t : Nd) (ht : t.size ≤ bigD) (p : Bool)
    (v : Value) (w : World) (hv : NdV none' w t v) (hp : ∀ W x, NdV none' W t x → Calls Tryz.prog fn #[x] W (BoolP p W)) : Calls Tryz.prog 91 #[v, .string ⟨s.toArray⟩] w (BoolP (rightB p t) w) := by
  have CD := hid fun W (X : Ext none' w W) => tdepth_any t ht v W (hv.ext X fun _ _ h => h)
  have CZ := hid fun W (X : Ext none' w W) => tsize_any t ht v W (hv.ext X fun _ _ h => h)
  have CP := hid fun W (X : Ext none' w W) => hp W v (hv.ext X fun _ _ h => h)
  obtain ⟨x, rfl, hx⟩ := hv
  obtain ⟨a1, cap1, rfl, _⟩ := hx
  obtain ⟨r, hr⟩ : ∃ r, r = rightB p t := ⟨_, rfl⟩
  rw [← hr]
  unfold rightB at hr
  have HR := hid hr
  have LK := hid fun (W : World) (b : Nat) (hb : W.heap[b]? = some (.map sortsE 6)) => look_okT Tryz.underlying121 s (fnV fn) hb hs
  have hd2 : depthN t ≤ 102 := by unfold depthN; have := maxD_le; exact maxN_le _
  have hz2 : sizeD 100 t ≤ 20000000000 := by have := sizeD_le 100 t; unfold bigD at ht; omega
  obtain ⟨d, hd⟩ : ∃ d, depthN t = d := ⟨_, rfl⟩
  obtain ⟨z, hz⟩ : ∃ z, sizeD 100 t = z := ⟨_, rfl⟩
  rw [hd] at CD HR hd2
  rw [hz] at CZ HR hz2
  have HG := hid (heap_alloc_at (w := w) rfl (.cells #[.int .i64 t.kind, .string ⟨t.text.toArray⟩, .slice a1 t.kids.length cap1, .int .i64 t.pos] 49))
  clear hr hp hd hz ht hs
  go_enter Tryz.func91, Tryz.ntmps91
  go_wp2_with (fail)
  refine (sorts_any _).mono ?_
  rintro e w1 ⟨b, rfl, hb, X1⟩
  have lk := LK.out w1 b hb
  unfold fnV at lk
  have c0 := cell_at (X1.heap HG.out fun h => h) 0
  have c1 := cell_at (X1.heap HG.out fun h => h) 1
  have c2 := cell_at (X1.heap HG.out fun h => h) 2
  have c3 := cell_at (X1.heap HG.out fun h => h) 3
  simp only [List.getElem?_toArray, List.getElem?_cons_zero, List.getElem?_cons_succ] at c0 c1 c2 c3
  have HG := hid (X1.heap HG.out fun h => h)
  have X1 := hid (((Ext.refl none' w).alloc _).trans X1)
  clear hb
  go_wp2_with (fail)
  refine (CD.out _ X1.out).mono ?_
  rintro e w2 ⟨rfl, X2⟩
  have HG := hid (X2.heap HG.out fun h => h)
  have c0 := cell_at HG.out 0
  have c1 := cell_at HG.out 1
  have c2 := cell_at HG.out 2
  have c3 := cell_at HG.out 3
  simp only [List.getElem?_toArray, List.getElem?_cons_zero, List.getElem?_cons_succ] at c0 c1 c2 c3
  have X2 := hid (X1.out.trans X2)
  clear lk
  by_cases hd1 : d ≤ 100
  · have q1 : ((d : Int) ≤ 100) := by omega
    have HD1 : Hid (decide (d ≤ 100) = true) := hid (decide_eq_true hd1)
    clear hd1
    go_wp2_with (fail)
    refine (CZ.out _ X2.out).mono ?_
    rintro e w3 ⟨rfl, X3⟩
    have HG := hid (X3.heap HG.out fun h => h)
    have c0 := cell_at HG.out 0
    have c1 := cell_at HG.out 1
    have c2 := cell_at HG.out 2
    have c3 := cell_at HG.out 3
    simp only [List.getElem?_toArray, List.getElem?_cons_zero, List.getElem?_cons_succ] at c0 c1 c2 c3
    have X3 := hid (X2.out.trans X3)
    by_cases hz1 : z ≤ 65536
    · have q2 : ((z : Int) ≤ 65536) := by omega
      have HZ1 : Hid (decide (z ≤ 65536) = true) := hid (decide_eq_true hz1)
      clear hz1
      go_wp2_with (fail)
      refine (CP.out _ X3.out).mono ?_
      rintro e w4 ⟨rfl, X4⟩
      have X4 := hid (X3.out.trans X4)
      go_wp2_with (fail)
      go_ret
      exact ⟨by rw [HR.out, HD1.out, HZ1.out]; cases p <;> rfl, X4.out⟩
    · have q2 : ¬ ((z : Int) ≤ 65536) := by omega
      have HZ1 : Hid (decide (z ≤ 65536) = false) := hid (decide_eq_false hz1)
      clear hz1
      go_wp2_with (fail)
      go_ret
      exact ⟨by rw [HR.out, HD1.out, HZ1.out]; rfl, X3.out⟩
  · have q1 : ¬ ((d : Int) ≤ 100) := by omega
    have HD1 : Hid (decide (d ≤ 100) = false) := hid (decide_eq_false hd1)
    clear hd1
    go_wp2_with (fail)
    go_ret
    exact ⟨by rw [HR.out, HD1.out]; rfl, X2.out⟩
end Go.Proofs.YtbhpmmofgdppdaaGreatDoor
/-
  show.Text.
-/
namespace Go.Proofs.YtbhpmmofgdppdaaGreatDoor
open Go.RowKit Go.Lib Go.BigFrame
def shower0 : Value := .agg #[.int .i64 0, .bool false]
def tellE : Array MapEntry := #[⟨.string ⟨sDecl.toArray⟩, fnV 87, 0⟩, ⟨.string ⟨sType.toArray⟩, fnV 88, 1⟩, ⟨.string ⟨sExpr.toArray⟩, .func (.func 89) #[shower0] #[], 2⟩, ⟨.string ⟨sStmt.toArray⟩, .func (.func 90) #[shower0] #[], 3⟩]
theorem look_T {w : World} {r i clock : Nat} {es : Array MapEntry} {mt et : TypeId} (hu : Tryz.prog.underlying mt = some (.map 9 et)) (n : List UInt8) (v : Value) (hb : w.heap[r]? = some (.map es clock)) (hf : Instr.findNow .string (.string ⟨n.toArray⟩) es.toList 0 = some (some (i, v))) :
    (Instr.lookup mt (.map (some r)) (.string ⟨n.toArray⟩) false).run Tryz.prog w = .ok v w := by
  have hc : ∀ b, (Instr.checkKey b 10000 9 (.string ⟨n.toArray⟩)).run Tryz.prog w = .ok () w := fun b => MapKept.run_checkKey (k := .string ⟨n.toArray⟩) Tryz.underlying9 (by simp [MapKept.IsKey]) b 9999
  simp [Instr.lookup, run_underlying hu, MapKept.run_getObj_map hb, hc, MapKept.run_findKey Tryz.underlying9 hf, Result.andThen]
/-- What show.Text returns: the text, or that it is no right tree. -/
def TextPost (p : Bool) (q : List UInt8) (w : World) (e : Ending) (w' : World) : Prop := e = .returned (.tuple #[.string ⟨(if p then q else []).toArray⟩, .int .i64 (if p then 0 else 9)]) ∧ Ext none' w w'
theorem run_eq_nilF (fn : Nat) (first : Array Value) (W : World) : (binOp .eql 83 (.func (.func fn) first #[]) .nilFunc).run Tryz.prog W = .ok (.bool false) W := by kernel_rfl
set_option maxRecDepth 100000 in
set_option maxHeartbeats 1600000 in
theorem text_any (s : List UInt8) (j fn : Nat) (first : Array Value) (hs : Instr.findNow .string (.string ⟨s.toArray⟩) tellE.toList 0 = some (some (j, .func (.func fn) first #[]))) (hfn : ∀ args w, (callFunc fn args).run Tryz.prog w = .ok (.enter fn args) w) (t : Nd) (p : Bool) (q : List UInt8)
    (v : Value) (w : World) (hv : NdV none' w t v) (hr : ∀ W x, NdV none' W t x → Calls Tryz.prog 91 #[x, .string ⟨s.toArray⟩] W (BoolP p W)) (hq : p = true → ∀ W x, NdV none' W t x → Calls Tryz.prog fn (first ++ #[x]) W (StrPost q W)) : Calls Tryz.prog 61 #[v, .string ⟨s.toArray⟩] w (TextPost p q w) := by
  have CR := hid fun W (X : Ext none' w W) => hr W v (hv.ext X fun _ _ h => h)
  have CQ := hid fun (hp : p = true) W (X : Ext none' w W) => hq hp W v (hv.ext X fun _ _ h => h)
  obtain ⟨x, rfl, hx⟩ := hv
  obtain ⟨a1, cap1, rfl, _⟩ := hx
  obtain ⟨N, hN⟩ : ∃ N, N = w.alloc (.cells #[.int .i64 t.kind, .string ⟨t.text.toArray⟩, .slice a1 t.kids.length cap1, .int .i64 t.pos] 49) := ⟨_, rfl⟩
  have hXN : Ext none' w N := by rw [hN]; exact (Ext.refl _ _).alloc _
  have hGN : N.heap[w.heap.size]? = some (.cells #[.int .i64 t.kind, .string ⟨t.text.toArray⟩, .slice a1 t.kids.length cap1, .int .i64 t.pos] 49 (0, 0)) := by rw [hN]; exact heap_alloc_at rfl _
  have hmm := @run_makeMap Tryz.prog
  have hz : N.heap.size = w.heap.size + 1 := by rw [hN]; simp
  have b0 : (N.alloc (.map #[] 0)).heap[w.heap.size + 1]? = some (.map #[] 0) := heap_alloc_at hz.symm _
  have x0 : Ext none' N (N.alloc (.map #[] 0)) := (Ext.refl _ _).alloc _
  have hu := Tryz.underlying107
  obtain ⟨W1, e1, b1, f1⟩ := insT_ex hu sDecl (fnV 87) b0 rfl
  have x1 := f1 N x0 (by omega)
  obtain ⟨W2, e2, b2, f2⟩ := insT_ex hu sType (fnV 88) b1 rfl
  have x2 := f2 N x1 (by omega)
  obtain ⟨W3, e3, b3, f3⟩ := insT_ex hu sExpr (.func (.func 89) #[shower0] #[]) b2 rfl
  have x3 := f3 N x2 (by omega)
  obtain ⟨W4, e4, b4, f4⟩ := insT_ex hu sStmt (.func (.func 90) #[shower0] #[]) b3 rfl
  have x4 := f4 N x3 (by omega)
  have lk := look_T hu s _ b4 hs
  have G := hid (x4.heap hGN fun h => h)
  have X := hid (hXN.trans x4)
  have c0 := cell_at G.out 0
  have c1 := cell_at G.out 1
  have c2 := cell_at G.out 2
  have c3 := cell_at G.out 3
  simp only [List.getElem?_toArray, List.getElem?_cons_zero, List.getElem?_cons_succ] at c0 c1 c2 c3
  simp only [sDecl, sType, sExpr, sStmt, fnV, shower0] at e1 e2 e3 e4
  rw [hN] at e1
  clear hz b0 x0 b1 x1 b2 x2 b3 x3 b4 x4 f1 f2 f3 f4 hu hGN hXN hr hq hs hN
  go_enter Tryz.func61, Tryz.ntmps61
  have hne := run_eq_nilF fn first
  go_wp2_with (fail)
  refine (CR.out _ X.out).mono ?_
  rintro e w1 ⟨rfl, X1⟩
  have G := hid (X1.heap G.out fun h => h)
  have X1 := hid (X.out.trans X1)
  have c0 := cell_at G.out 0
  have c1 := cell_at G.out 1
  have c2 := cell_at G.out 2
  have c3 := cell_at G.out 3
  simp only [List.getElem?_toArray, List.getElem?_cons_zero, List.getElem?_cons_succ] at c0 c1 c2 c3
  clear hne lk e1 e2 e3 e4 hmm
  cases p with
  | false =>
    go_wp2_with (fail)
    go_ret2
    exact ⟨rfl, X1.out⟩
  | true =>
    have CC := hid (CQ.out rfl w1 X1.out)
    clear CQ
    go_wp2_with (fail)
    refine CC.out.mono ?_
    rintro e w2 ⟨rfl, X2⟩
    have X2 := hid (X1.out.trans X2)
    go_wp2_with (fail)
    go_ret2
    exact ⟨rfl, X2.out⟩
theorem typeRight_any (f : Nat) (hf : f ≤ bigD) (t : Nd) (ht : t.size ≤ f) (v : Value) (w : World) (hv : NdV none' w t v) : Calls Tryz.prog 91 #[v, .string ⟨sType.toArray⟩] w (BoolP (rightB (tyF nmB f t) t) w) :=
  right_any sType 2 136 rfl (Go.Proofs.enters_of Tryz.func136 (by kernel_rfl) rfl) t (Nat.le_trans ht hf) _ v w hv fun W x hx => isType_any f hf t ht x W hx
theorem typeText_any (f : Nat) (hf : f ≤ bigD) (t : Nd) (ht : t.size ≤ f) (v : Value) (w : World) (hv : NdV none' w t v) : Calls Tryz.prog 61 #[v, .string ⟨sType.toArray⟩] w (TextPost (rightB (tyF nmB f t) t) (typF f t) w) :=
  text_any sType 1 88 #[] rfl (Go.Proofs.enters_of Tryz.func88 (by kernel_rfl) rfl) t _ _ v w hv (fun W x hx => typeRight_any f hf t ht x W hx) fun hp W x hx => typ_any f hf t ⟨ht, by
    unfold rightB at hp
    simp only [Bool.and_eq_true] at hp
    exact hp.2.2⟩ x W hx
end Go.Proofs.YtbhpmmofgdppdaaGreatDoor
/-
  kinds.Tree of a right tree's type; kinds.Text.
-/
namespace Go.Proofs.YtbhpmmofgdppdaaGreatDoor
open Go.RowKit Go.Lib Go.BigFrame
theorem kid_eq {t : Nd} {i : Nat} (h : i < t.kids.length) : t.kid i = t.kids[i] := by unfold Nd.kid; rw [List.getD_eq_getElem?_getD, List.getElem?_eq_getElem h]; rfl
theorem tree_any (ps : List (List UInt8)) : ∀ (f : Nat), f ≤ bigD → ∀ (n : Nd), TyD f n → ∀ (A : Nat → Prop) (v : Value) (w : World), (∀ b, A b → b < w.heap.size) → TyV none' w (ofK ps f n) v → Calls Tryz.prog 29 #[v] w (NdPA A w (strip n)) := by
  intro f
  induction f with
  | zero => intro _ n hn; have := n.size_pos; have := hn.1; omega
  | succ f ih =>
    intro hf n hn A v w hA hv
    have H := ih (by omega)
    obtain ⟨hs, ht⟩ := hn
    rw [tyF] at ht
    rw [ofK] at hv
    have hkl := n.kids_len
    have hkd : ∀ x ∈ n.kids, (strip x).kind = x.kind := fun x _ => strip_kind x
    rw [strip_eq]
    by_cases h10 : n.kind = 10
    · rw [if_pos h10] at hv ht
      rw [h10]
      simp only [Bool.and_eq_true, List.all_eq_true] at ht
      split at hv
      · rename_i hc
        simp only [Bool.and_eq_true, List.isEmpty_iff] at hc
        rw [hc.1]
        exact tree_name 4 (by omega) n.text [] [] rfl (Nat.zero_le _) (fun i h => by simp at h) (fun r h => by cases h) A v w hA hv
      · split at hv
        · rename_i hc
          simp only [Bool.and_eq_true, List.isEmpty_iff] at hc
          rw [hc.1]
          exact tree_name 1 (by omega) n.text [] [] rfl (Nat.zero_le _) (fun i h => by simp at h) (fun r h => by cases h) A v w hA hv
        · refine tree_name 3 (by omega) n.text _ _ (by rw [List.length_map, List.length_map]) (by rw [List.length_map]; omega) ?_ ?_ A v w hA hv
          · intro i h1 h2 B W x hB hx
            rw [List.length_map] at h1
            rw [List.getElem_map] at hx ⊢
            have hm := List.getElem_mem h1
            exact H _ ⟨by have := Nd.size_kid hm; omega, ht.2 _ hm⟩ B x W hB hx
          · intro r hr
            obtain ⟨y, hy, rfl⟩ := List.mem_map.1 hr
            rw [strip_kind]
            have := tyF_kind (ht.2 _ hy)
            omega
    · rw [if_neg h10] at hv ht
      by_cases h11 : n.kind = 11
      · rw [if_pos h11] at hv ht
        obtain ⟨y, hy, hty⟩ := one_kid (ofB_parts ht).2.2
        rw [h11, (ofB_parts ht).2.1, hy]
        rw [hy] at hv
        have hys := Nd.size_kid (t := n) (x := y) (by rw [hy]; simp)
        refine tree_slice (ofK ps f y) (strip y) ?_ ?_ A v w hA hv
        · intro i h1 h2 B W x hB hx
          have h1' : i < 1 := h1
          obtain rfl : i = 0 := by omega
          exact H y ⟨by omega, hty⟩ B x W hB hx
        · rw [strip_kind]
          have := tyF_kind hty
          omega
      · rw [if_neg h11] at hv ht
        by_cases h12 : n.kind = 12
        · rw [if_pos h12] at ht
          obtain ⟨_, htx, l, r, hk, hlk, hlt, hps, hr⟩ := sigB_parts ht
          have e0 : n.kid 0 = l := by unfold Nd.kid; rw [hk]; rfl
          have e1 : n.kid 1 = r := by unfold Nd.kid; rw [hk]; rfl
          have hsl : l.size < n.size := Nd.size_kid (t := n) (x := l) (by rw [hk]; simp)
          have hsr : r.size < n.size := Nd.size_kid (t := n) (x := r) (by rw [hk]; simp)
          rw [e0, e1] at hv
          have hll := l.kids_len
          have es : strip l = .mk 6 [] ((l.kids.map fun p => strip (p.kid 0)).map parN) 0 := by
            rw [strip_eq, hlk, hlt, List.map_map]
            congr 1
            refine List.map_congr_left fun p hp => ?_
            obtain ⟨h1, h2, y, hy, _⟩ := hps p hp
            have h2' : p.text = [] := by unfold noT at h2; simpa using h2
            rw [strip_eq, h1, h2', hy]
            have : p.kid 0 = y := by unfold Nd.kid; rw [hy]; rfl
            simp [parN, this]
          rw [h12, htx, hk, List.map_cons, List.map_cons, List.map_nil, es]
          have hpd : ∀ p ∈ l.kids, TyD f (p.kid 0) := fun p hp => by
            obtain ⟨_, _, y, hy, hty⟩ := hps p hp
            have e : p.kid 0 = y := by unfold Nd.kid; rw [hy]; rfl
            have s1 := Nd.size_kid hp
            have s2 : y.size < p.size := Nd.size_kid (by rw [hy]; simp)
            rw [e]
            exact ⟨by omega, hty⟩
          refine tree_func _ _ _ _ (by rw [List.length_map, List.length_map]) (by rw [List.length_map]; omega) ?_ ?_ ?_ A v w hA hv
          · intro i h1 h2 B W x hB hx
            by_cases hi : i < l.kids.length
            · rw [List.getElem_append_left (by rw [List.length_map]; exact hi), List.getElem_map] at hx ⊢
              exact H _ (hpd _ (List.getElem_mem hi)) B x W hB hx
            · rw [List.length_append, List.length_map, List.length_singleton] at h1
              obtain rfl : i = l.kids.length := by omega
              rw [List.getElem_append_right (by rw [List.length_map]; exact Nat.le_refl _)] at hx ⊢
              simp only [List.length_map, Nat.sub_self, List.getElem_cons_zero] at hx ⊢
              rcases hr with hr | hr
              · rw [if_pos (emptyB_kind hr)] at hx
                rw [strip_empty hr]
                exact tree_void B x W hB hx
              · have hk0 := tyF_kind hr
                rw [if_neg (by omega)] at hx
                exact H r ⟨by omega, hr⟩ B x W hB hx
          · intro q hq
            obtain ⟨p, hp, rfl⟩ := List.mem_map.1 hq
            rw [strip_kind]
            have := tyF_kind (hpd p hp).2
            omega
          · intro h0
            rw [strip_kind] at h0
            rw [if_pos h0]
            rfl
        · rw [if_neg h12] at ht
          cases ht
set_option maxRecDepth 100000 in
theorem ktext_any (ps : List (List UInt8)) (f : Nat) (hf : f ≤ bigD) (n : Nd) (hs : n.size ≤ f) (ht : tyF nmB f n = true) (hss : (strip n).size ≤ f) (v : Value) (w : World) (hv : TyV none' w (ofK ps f n) v) :
    Calls Tryz.prog 31 #[v] w (StrPost (if rightB (tyF nmB f (strip n)) (strip n) then typF f (strip n) else []) w) := by
  have CT := hid fun W (X : Ext none' w W) => tree_any ps f hf n ⟨hs, ht⟩ none' v W (fun _ h => h.elim) (hv.ext X fun _ _ h => h)
  have CX := hid fun W u (hu : NdV none' W (strip n) u) => typeText_any f hf (strip n) hss u W hu
  obtain ⟨x, rfl, hx⟩ := hv
  obtain ⟨a1, cap1, rfl, _⟩ := hx
  obtain ⟨t, ht⟩ : ∃ t, strip n = t := ⟨_, rfl⟩
  rw [ht] at CT CX ⊢
  obtain ⟨p, hp⟩ : ∃ p, rightB (tyF nmB f t) t = p := ⟨_, rfl⟩
  obtain ⟨q, hq⟩ : ∃ q, typF f t = q := ⟨_, rfl⟩
  rw [hp, hq] at CX ⊢
  obtain ⟨T, hT⟩ : ∃ T, ofK ps f n = T := ⟨_, rfl⟩
  rw [hT] at CT ⊢
  clear ht hp hq hT hs hss
  obtain ⟨s, hs⟩ : ∃ s, (if p = true then q else []) = s := ⟨_, rfl⟩
  obtain ⟨z, hz⟩ : ∃ z : Int, (if p = true then 0 else 9) = z := ⟨_, rfl⟩
  unfold TextPost at CX
  rw [hs, hz] at CX
  rw [hs]
  clear hs hz
  go_enter Tryz.func31, Tryz.ntmps31
  go_wp2_with (fail)
  refine (CT.out _ ((Ext.refl _ _).alloc _)).mono ?_
  rintro e w1 ⟨u, rfl, hu, X1⟩
  have X1 := hid (((Ext.refl none' w).alloc _).trans X1)
  have CC := hid (CX.out w1 u hu)
  obtain ⟨y, rfl, hy⟩ := hu
  obtain ⟨a2, cap2, rfl, _⟩ := hy
  go_wp2_with (fail)
  refine CC.out.mono ?_
  rintro e w2 ⟨rfl, X2⟩
  have X2 := hid (X1.out.trans X2)
  go_wp2_with (fail)
  go_ret
  exact ⟨rfl, X2.out⟩
end Go.Proofs.YtbhpmmofgdppdaaGreatDoor
/-
  A region that draws its order: quiet operations first, then a chain and two operations without edges (allocations) in each order, then a tail. What holds between is one relation, so that each operation is walked once.
-/
namespace Go.Proofs.YtbhpmmofgdppdaaGreatDoor
open Go.RowKit Go.Lib
section
variable {P : Program} {ops : Array Oper} {Q : Exit → Act → World → Prop} {md : Region.Mode} {S : World → Prop} {E : Nat → Bool}
/-- What has come up: the first i of the chain; j1; j2. -/
def mixSt (n : Nat) (base : Array Bool) (chain : List Nat) (j1 j2 : Nat) (i : Nat) (x y : Bool) : Array Bool :=
  ((List.range n).map fun k => base.getD k false || (chain.take i).contains k || (x && k == j1) || (y && k == j2)).toArray
def mixOne (md : Region.Mode) (ops : Array Oper) (base : Array Bool) (chain : List Nat) (j1 j2 : Nat) (i : Nat) (x y : Bool) : Bool :=
  let L := mixSt ops.size base chain j1 j2
  let r := Region.ready md ops (L i x y)
  (decide (i = chain.length) && x && y || !r.isEmpty) &&
  (decide (i = chain.length) && x && y || r.all (fun k => (decide (i < chain.length) && k == chain.getD i 0) || (!x && k == j1) || (!y && k == j2))) &&
  (decide (chain.length ≤ i) || (L i x y).setIfInBounds (chain.getD i 0) true == L (i + 1) x y) && (x || (L i x y).setIfInBounds j1 true == L i true y) && (y || (L i x y).setIfInBounds j2 true == L i x true)
def mixAll (md : Region.Mode) (ops : Array Oper) (base : Array Bool) (chain : List Nat) (j1 j2 : Nat) : Bool :=
  (List.range (chain.length + 1)).all fun i => mixOne md ops base chain j1 j2 i false false && mixOne md ops base chain j1 j2 i false true && mixOne md ops base chain j1 j2 i true false && mixOne md ops base chain j1 j2 i true true
theorem mixAll_at {base : Array Bool} {chain : List Nat} {j1 j2 : Nat} (h : mixAll md ops base chain j1 j2 = true) (i : Nat) (hi : i ≤ chain.length) (x y : Bool) : mixOne md ops base chain j1 j2 i x y = true := by
  unfold mixAll at h
  rw [List.all_eq_true] at h
  have := h i (List.mem_range.2 (by omega))
  simp only [Bool.and_eq_true] at this
  cases x <;> cases y
  · exact this.1.1.1
  · exact this.1.1.2
  · exact this.1.2
  · exact this.2
theorem phaseM (l : List Oper) (hl : l.toArray = ops) (hs : Region.noSelect ops = true) (hQ : ∀ (dst : Option Tmp) v c a w, Q (.panic c) (a.put dst v) w → Q (.panic c) a w) (base : Array Bool) (chain : List Nat) (j1 j2 : Nat) (t : Bq) (hM : mixAll md ops base chain j1 j2 = true)
    (ht : treeQB md ops E t (mixSt ops.size base chain j1 j2 chain.length true true) = true) (hE : ∀ j ∈ t.early, E j = false) (I : Nat → Bool → Bool → Act → World → Prop)
    (hc : ∀ i, i < chain.length → ∀ x y, (Region.ready md ops (mixSt ops.size base chain j1 j2 i x y)).contains (chain.getD i 0) = true → ∀ a w, I i x y a w → stepT P l Q S (chain.getD i 0) true (I (i + 1) x y) a w)
    (h1 : ∀ i, i ≤ chain.length → ∀ y a w, I i false y a w → stepT P l Q S j1 true (I i true y) a w)
    (h2 : ∀ i, i ≤ chain.length → ∀ x a w, I i x false a w → stepT P l Q S j2 true (I i x true) a w)
    (he : ∀ a w, I chain.length true true a w → wpTreeQ P l Q S t a w) :
    ∀ (m i : Nat) (x y : Bool), i ≤ chain.length → m = (chain.length - i) + (if x then 0 else 1) + (if y then 0 else 1) → ∀ (a : Act) (w : World), Down md ops (mixSt ops.size base chain j1 j2 i x y) → I i x y a w → wpAnyE P md ops Q S E (m + t.depth) (mixSt ops.size base chain j1 j2 i x y) a w := by
  intro m
  induction m with
  | zero =>
    intro i x y hi hm a w hd hI
    have hx : x = true := by cases x <;> cases y <;> simp at hm ⊢
    have hy : y = true := by cases x <;> cases y <;> simp at hm ⊢
    subst hx hy
    obtain rfl : i = chain.length := by simp at hm; omega
    rw [Nat.zero_add]
    exact phaseQ l hl hs hQ t _ a w ht hE hd (he a w hI)
  | succ m ih =>
    intro i x y hi hm a w hd hI
    have hk := mixAll_at hM i hi x y
    unfold mixOne at hk
    simp only [Bool.and_eq_true] at hk
    obtain ⟨⟨⟨⟨k1, k2⟩, k3⟩, k4⟩, k5⟩ := hk
    have hne : (decide (i = chain.length) && x && y) = false := by
      cases x <;> cases y <;> simp at hm ⊢
      omega
    rw [hne, Bool.false_or] at k1 k2
    rw [Nat.add_right_comm]
    refine ⟨fun h0 => (by rw [h0] at k1; simp at k1), fun k hkr => ?_⟩
    rw [List.all_eq_true] at k2
    have hk2 := k2 k hkr
    simp only [Bool.or_eq_true, Bool.and_eq_true, decide_eq_true_eq, beq_iff_eq, Bool.not_eq_true'] at hk2
    rcases hk2 with (⟨hlt, rfl⟩ | ⟨rfl, rfl⟩) | ⟨rfl, rfl⟩
    · have e3 : (mixSt ops.size base chain j1 j2 i x y).setIfInBounds (chain.getD i 0) true = mixSt ops.size base chain j1 j2 (i + 1) x y := by
        rcases Bool.or_eq_true _ _ ▸ k3 with h | h
        · rw [decide_eq_true_eq] at h; omega
        · exact beq_iff_eq.1 h
      refine stepT_op l hl hkr (fun h => by cases h) (fun a' w' hI' => ?_) (hc i hlt x y (by rw [List.contains_eq_mem, decide_eq_true_eq]; exact hkr) a w hI)
      have hd' := hd.step hkr
      rw [e3] at hd' ⊢
      exact ih (i + 1) x y (by omega) (by omega) a' w' hd' hI'
    · have e4 : (mixSt ops.size base chain k j2 i false y).setIfInBounds k true = mixSt ops.size base chain k j2 i true y := by simpa using k4
      refine stepT_op l hl hkr (fun h => by cases h) (fun a' w' hI' => ?_) (h1 i hi y a w hI)
      have hd' := hd.step hkr
      rw [e4] at hd' ⊢
      refine ih i true y hi ?_ a' w' hd' hI'
      simp at hm ⊢
      omega
    · have e5 : (mixSt ops.size base chain j1 k i x false).setIfInBounds k true = mixSt ops.size base chain j1 k i x true := by simpa using k5
      refine stepT_op l hl hkr (fun h => by cases h) (fun a' w' hI' => ?_) (h2 i hi x a w hI)
      have hd' := hd.step hkr
      rw [e5] at hd' ⊢
      refine ih i x true hi ?_ a' w' hd' hI'
      simp at hm ⊢
      omega
/-- All that is checked of a region by running it. -/
def mixedMB (ops : Array Oper) (lq chain : List Nat) (j1 j2 : Nat) (t : Bq) : Bool :=
  let E : Nat → Bool := fun j => !t.early.contains j
  let L0 := Array.replicate ops.size false
  let base := listedA lq L0
  Region.noSelect ops && readyA .any ops lq L0 && (lq.all fun i => (List.range ops.size).all fun j => E j || waitsB .any ops ops.size j i) && mixSt ops.size base chain j1 j2 0 false false == base &&
  mixAll .any ops base chain j1 j2 && treeQB .any ops E t (mixSt ops.size base chain j1 j2 chain.length true true) && lq.length + (chain.length + 2 + t.depth) == ops.size
theorem region_m {id : Nat} {a : Act} {w : World} {l : List Oper} (F : Nat → Prop) (w0 : World) (lq chain : List Nat) (j1 j2 : Nat) (t : Bq) (hm : P.follows .mixedOrders = true) (hB : mixedMB l.toArray lq chain j1 j2 t = true)
    (hQ : ∀ (dst : Option Tmp) v c a w, Q (.panic c) (a.put dst v) w → Q (.panic c) a w) (I : Nat → Bool → Bool → Act → World → Prop)
    (hS : In F w0 w.drew) (h : wpQuiet P l.toArray (fun w' => ∃ t : LaterF F w0, w' = t.w) (fun a' => I 0 false false a' w.drew) (sel l lq) a)
    (hc : ∀ i, i < chain.length → ∀ x y, (Region.ready .any l.toArray (mixSt l.toArray.size (listedA lq (Array.replicate l.toArray.size false)) chain j1 j2 i x y)).contains (chain.getD i 0) = true → ∀ a w, I i x y a w → stepT P l Q (In F w0) (chain.getD i 0) true (I (i + 1) x y) a w)
    (h1 : ∀ i, i ≤ chain.length → ∀ y a w, I i false y a w → stepT P l Q (In F w0) j1 true (I i true y) a w)
    (h2 : ∀ i, i ≤ chain.length → ∀ x a w, I i x false a w → stepT P l Q (In F w0) j2 true (I i x true) a w)
    (he : ∀ a w, I chain.length true true a w → wpTreeQ P l Q (In F w0) t a w) : (Code.region id l.toArray true).wp P Q a w := by
  simp only [mixedMB, Bool.and_eq_true, beq_iff_eq] at hB
  obtain ⟨⟨⟨⟨⟨⟨g1, g2⟩, g3⟩, g4⟩, g5⟩, g6⟩, g7⟩ := hB
  refine wp_region_any hm (wpAny_of_E (S := In F w0) (E := fun j => !t.early.contains j) _ _ _ _ ?_)
  rw [← g7]
  rw [← g7] at g2
  have hd0 : Down .any l.toArray (Array.replicate (lq.length + (chain.length + 2 + t.depth)) false) := fun k ok _ hl => by
    rw [getD_replicate] at hl
    cases hl
  refine phaseA l rfl g1 hQ hS _ (chain.length + 2 + t.depth) lq _ a g2 g3 hd0 h ?_
  intro a' h'
  have hd1 := down_listed lq _ g2 hd0
  rw [g7] at hd1 ⊢
  rw [← g4] at hd1
  have := phaseM l rfl g1 hQ _ chain j1 j2 t g5 g6 (fun j hj => by simp [hj]) I hc h1 h2 he (chain.length + 2) 0 false false (Nat.zero_le _) (by simp) a' _ hd1 h'
  rw [g4] at this
  exact this
end
end Go.Proofs.YtbhpmmofgdppdaaGreatDoor
