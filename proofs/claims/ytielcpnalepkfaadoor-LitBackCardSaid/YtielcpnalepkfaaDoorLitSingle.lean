import Derived.Test.YtielcpnalepkfaaDoorLitNumP
import Derived.Test.YtielcpnalepkfaaDoorLitQuote
import Derived.WideMake
namespace Go.Proofs.YtielcpnalepkfaaDoor
open Go.RowKit Go.Lib Go.BigFrame
/-- A world with another object in a block. -/
def putO (w : World) (r : Nat) (o : Obj) : World := { w with heap := w.heap.setIfInBounds r o }
theorem putO_at {w : World} {r : Nat} {o o' : Obj} (h : w.heap[r]? = some o') : (putO w r o).heap[r]? = some o := by
  have := heap_lt h
  simp [putO, this]
theorem Ext.putO {F : Nat → Prop} {a w : World} (h : Ext F a w) {r : Nat} (hr : a.heap.size ≤ r) (o : Obj) : Ext F a (putO w r o) :=
  h.trans' (G := fun i => i = r) ⟨rfl, rfl, rfl, by simp [Go.Proofs.YtielcpnalepkfaaDoor.putO], fun k _ hn => by simp [Go.Proofs.YtielcpnalepkfaaDoor.putO, Ne.symm hn]⟩ fun i hi hg => by subst hg; omega
theorem run_ins {w : World} {r : Nat} {es : Array MapEntry} {clock : Nat} (k v : Int) (hb : w.heap[r]? = some (.map es clock)) (hf : Instr.findNow (.int .u8) (.int .u8 k) es.toList 0 = some none) :
    (Instr.mapUpdate 82 (.map (some r)) (.int .u8 k) (.int .u8 v)).run Tryd.prog w = .ok () (putO w r (.map (es.push ⟨.int .u8 k, .int .u8 v, clock⟩) (clock + 1))) := by
  have hc : (Instr.checkKey false 10000 5 (.int .u8 k)).run Tryd.prog w = .ok () w := MapKept.run_checkKey (k := .int .u8 k) Tryd.underlying5 (by simp [MapKept.IsKey]) false 9999
  simp [Instr.mapUpdate, run_underlying Tryd.underlying82, MapKept.run_getObj_map hb, hc, MapKept.run_findKey Tryd.underlying5 hf, MapKept.run_setObj_map _ hb, Result.andThen, putO]
theorem ins_ex {w : World} {r : Nat} {es : Array MapEntry} {clock : Nat} (k v : Int) (hb : w.heap[r]? = some (.map es clock)) (hf : Instr.findNow (.int .u8) (.int .u8 k) es.toList 0 = some none) :
    ∃ w', (Instr.mapUpdate 82 (.map (some r)) (.int .u8 k) (.int .u8 v)).run Tryd.prog w = .ok () w' ∧ w'.heap[r]? = some (.map (es.push ⟨.int .u8 k, .int .u8 v, clock⟩) (clock + 1)) ∧
      ∀ (a : World), Ext none' a w → a.heap.size ≤ r → Ext none' a w' :=
  ⟨_, run_ins k v hb hf, putO_at hb, fun _ h hr => h.putO hr _⟩
/-- The signs that stand for a byte behind a backslash. -/
def singleE : Array MapEntry := #[⟨.int .u8 97, .int .u8 7, 0⟩, ⟨.int .u8 98, .int .u8 8, 1⟩, ⟨.int .u8 102, .int .u8 12, 2⟩, ⟨.int .u8 110, .int .u8 10, 3⟩, ⟨.int .u8 114, .int .u8 13, 4⟩, ⟨.int .u8 116, .int .u8 9, 5⟩, ⟨.int .u8 118, .int .u8 11, 6⟩, ⟨.int .u8 92, .int .u8 92, 7⟩, ⟨.int .u8 34, .int .u8 34, 8⟩]
def singleP (c : Nat) : Option Nat := if c = 97 then some 7 else if c = 98 then some 8 else if c = 102 then some 12 else if c = 110 then some 10 else if c = 114 then some 13 else if c = 116 then some 9 else if c = 118 then some 11 else if c = 92 then some 92 else if c = 34 then some 34 else none
def SinglePost (w : World) (e : Ending) (w' : World) : Prop := ∃ r, e = .returned (.map (some r)) ∧ w'.heap[r]? = some (.map singleE 9) ∧ Ext none' w w'
set_option maxRecDepth 100000 in
set_option maxHeartbeats 800000 in
theorem single_any (w : World) : Calls Tryd.prog 48 #[] w (SinglePost w) := by
  have hmm := @run_makeMap Tryd.prog
  have b0 : (w.alloc (.map #[] 0)).heap[w.heap.size]? = some (.map #[] 0) := heap_alloc_at rfl _
  have x0 : Ext none' w (w.alloc (.map #[] 0)) := (Ext.refl _ _).alloc _
  obtain ⟨W1, e1, b1, f1⟩ := ins_ex 97 7 b0 rfl
  have x1 := f1 w x0 (Nat.le_refl _)
  obtain ⟨W2, e2, b2, f2⟩ := ins_ex 98 8 b1 rfl
  have x2 := f2 w x1 (Nat.le_refl _)
  obtain ⟨W3, e3, b3, f3⟩ := ins_ex 102 12 b2 rfl
  have x3 := f3 w x2 (Nat.le_refl _)
  obtain ⟨W4, e4, b4, f4⟩ := ins_ex 110 10 b3 rfl
  have x4 := f4 w x3 (Nat.le_refl _)
  obtain ⟨W5, e5, b5, f5⟩ := ins_ex 114 13 b4 rfl
  have x5 := f5 w x4 (Nat.le_refl _)
  obtain ⟨W6, e6, b6, f6⟩ := ins_ex 116 9 b5 rfl
  have x6 := f6 w x5 (Nat.le_refl _)
  obtain ⟨W7, e7, b7, f7⟩ := ins_ex 118 11 b6 rfl
  have x7 := f7 w x6 (Nat.le_refl _)
  obtain ⟨W8, e8, b8, f8⟩ := ins_ex 92 92 b7 rfl
  have x8 := f8 w x7 (Nat.le_refl _)
  obtain ⟨W9, e9, b9, f9⟩ := ins_ex 34 34 b8 rfl
  have x9 := f9 w x8 (Nat.le_refl _)
  have B := hid b9
  have X := hid x9
  clear b0 x0 b1 x1 b2 x2 b3 x3 b4 x4 b5 x5 b6 x6 b7 x7 b8 x8 b9 x9 f1 f2 f3 f4 f5 f6 f7 f8 f9
  go_enter Tryd.func48, Tryd.ntmps48
  go_wp2
  go_ret
  exact ⟨_, rfl, B.out, X.out⟩
theorem single_find (c : Nat) : Instr.findNow (.int .u8) (.int .u8 (c : Nat)) singleE.toList 0 = some none ∧ singleP c = none ∨ ∃ i v, Instr.findNow (.int .u8) (.int .u8 (c : Nat)) singleE.toList 0 = some (some (i, .int .u8 (v : Nat))) ∧ singleP c = some v := by
  by_cases k0 : c = 97
  · subst k0; exact .inr ⟨0, 7, rfl, rfl⟩
  by_cases k1 : c = 98
  · subst k1; exact .inr ⟨1, 8, rfl, rfl⟩
  by_cases k2 : c = 102
  · subst k2; exact .inr ⟨2, 12, rfl, rfl⟩
  by_cases k3 : c = 110
  · subst k3; exact .inr ⟨3, 10, rfl, rfl⟩
  by_cases k4 : c = 114
  · subst k4; exact .inr ⟨4, 13, rfl, rfl⟩
  by_cases k5 : c = 116
  · subst k5; exact .inr ⟨5, 9, rfl, rfl⟩
  by_cases k6 : c = 118
  · subst k6; exact .inr ⟨6, 11, rfl, rfl⟩
  by_cases k7 : c = 92
  · subst k7; exact .inr ⟨7, 92, rfl, rfl⟩
  by_cases k8 : c = 34
  · subst k8; exact .inr ⟨8, 34, rfl, rfl⟩
  left
  refine ⟨?_, by unfold singleP; simp only [k0, k1, k2, k3, k4, k5, k6, k7, k8, if_false]⟩
  have g : ∀ z : Int, (c : Int) ≠ z → (((c : Nat) : Int) == z) = false := fun z h => by simpa using h
  have h0 := g 97 (by omega)
  have h1 := g 98 (by omega)
  have h2 := g 102 (by omega)
  have h3 := g 110 (by omega)
  have h4 := g 114 (by omega)
  have h5 := g 116 (by omega)
  have h6 := g 118 (by omega)
  have h7 := g 92 (by omega)
  have h8 := g 34 (by omega)
  unfold singleE
  simp only [Instr.findNow, Instr.sameNow, if_true, h0, h1, h2, h3, h4, h5, h6, h7, h8]
theorem look_single {w : World} {r : Nat} (c : Nat) (hb : w.heap[r]? = some (.map singleE 9)) :
    (Instr.lookup 82 (.map (some r)) (.int .u8 (c : Nat)) true).run Tryd.prog w = .ok (.tuple (match singleP c with
      | some v => #[.int .u8 (v : Nat), .bool true]
      | none => #[.int .u8 0, .bool false])) w := by
  have hc : ∀ b, (Instr.checkKey b 10000 5 (.int .u8 (c : Nat))).run Tryd.prog w = .ok () w := fun b => MapKept.run_checkKey (k := .int .u8 (c : Nat)) Tryd.underlying5 (by simp [MapKept.IsKey]) b 9999
  rcases single_find c with ⟨hf, hs⟩ | ⟨i, v, hf, hs⟩
  · rw [hs]
    simp [Instr.lookup, run_underlying Tryd.underlying82, MapKept.run_getObj_map hb, hc, MapKept.run_findKey Tryd.underlying5 hf, Result.andThen, Tryd.zeroValue5]
  · rw [hs]
    simp [Instr.lookup, run_underlying Tryd.underlying82, MapKept.run_getObj_map hb, hc, MapKept.run_findKey Tryd.underlying5 hf, Result.andThen]
end Go.Proofs.YtielcpnalepkfaaDoor
