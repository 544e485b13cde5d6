import Derived.Test.YthoeengfgkfchaaKiBeh2
import Derived.Test.YthoeengfgkfchaaSeP
import Derived.WideMake
namespace Go.Proofs.Ythoeengfgkfchaa
open Go.RowKit Go.Lib Go.BigFrame
/-- A world with another object in a block. -/
def putO (w : World) (r : Nat) (o : Obj) : World := { w with heap := w.heap.setIfInBounds r o }
theorem putO_at {w : World} {r : Nat} {o o' : Obj} (h : w.heap[r]? = some o') : (putO w r o).heap[r]? = some o := by
  have := heap_lt h
  simp [putO, this]
theorem Ext.putO {F : Nat → Prop} {a w : World} (h : Ext F a w) {r : Nat} (hr : a.heap.size ≤ r) (o : Obj) : Ext F a (putO w r o) :=
  h.trans' (G := fun i => i = r) ⟨rfl, rfl, rfl, by simp [Go.Proofs.Ythoeengfgkfchaa.putO], fun k _ hn => by simp [Go.Proofs.Ythoeengfgkfchaa.putO, Ne.symm hn]⟩ fun i hi hg => by subst hg; omega
theorem run_insS {w : World} {r : Nat} {es : Array MapEntry} {clock : Nat} (k : List UInt8) (v : Bool) (hb : w.heap[r]? = some (.map es clock)) (hf : Instr.findNow .string (.string ⟨k.toArray⟩) es.toList 0 = some none) :
    (Instr.mapUpdate 95 (.map (some r)) (.string ⟨k.toArray⟩) (.bool v)).run Try.prog w = .ok () (putO w r (.map (es.push ⟨.string ⟨k.toArray⟩, .bool v, clock⟩) (clock + 1))) := by
  have hc : (Instr.checkKey false 10000 9 (.string ⟨k.toArray⟩)).run Try.prog w = .ok () w := MapKept.run_checkKey (k := .string ⟨k.toArray⟩) Try.underlying9 (by simp [MapKept.IsKey]) false 9999
  simp [Instr.mapUpdate, run_underlying Try.underlying95, MapKept.run_getObj_map hb, hc, MapKept.run_findKey Try.underlying9 hf, MapKept.run_setObj_map _ hb, Result.andThen, putO]
theorem insS_ex {w : World} {r : Nat} {es : Array MapEntry} {clock : Nat} (k : List UInt8) (v : Bool) (hb : w.heap[r]? = some (.map es clock)) (hf : Instr.findNow .string (.string ⟨k.toArray⟩) es.toList 0 = some none) :
    ∃ w', (Instr.mapUpdate 95 (.map (some r)) (.string ⟨k.toArray⟩) (.bool v)).run Try.prog w = .ok () w' ∧ w'.heap[r]? = some (.map (es.push ⟨.string ⟨k.toArray⟩, .bool v, clock⟩) (clock + 1)) ∧
      ∀ (a : World), Ext none' a w → a.heap.size ≤ r → Ext none' a w' :=
  ⟨_, run_insS k v hb hf, putO_at hb, fun _ h hr => h.putO hr _⟩
def basicsE : Array MapEntry := #[⟨.string ⟨nInt.toArray⟩, .bool true, 0⟩, ⟨.string ⟨nStr.toArray⟩, .bool true, 1⟩, ⟨.string ⟨nBool.toArray⟩, .bool true, 2⟩]
def BasicsPost (w : World) (e : Ending) (w' : World) : Prop := ∃ r, e = .returned (.map (some r)) ∧ w'.heap[r]? = some (.map basicsE 3) ∧ Ext none' w w'
set_option maxRecDepth 100000 in
set_option maxHeartbeats 800000 in
theorem basics_any (w : World) : Calls Try.prog 39 #[] w (BasicsPost w) := by
  have hmm := @run_makeMap Try.prog
  have b0 : (w.alloc (.map #[] 0)).heap[w.heap.size]? = some (.map #[] 0) := heap_alloc_at rfl _
  have x0 : Ext none' w (w.alloc (.map #[] 0)) := (Ext.refl _ _).alloc _
  obtain ⟨W1, e1, b1, f1⟩ := insS_ex nInt true b0 rfl
  have x1 := f1 w x0 (Nat.le_refl _)
  obtain ⟨W2, e2, b2, f2⟩ := insS_ex nStr true b1 rfl
  have x2 := f2 w x1 (Nat.le_refl _)
  obtain ⟨W3, e3, b3, f3⟩ := insS_ex nBool true b2 rfl
  have x3 := f3 w x2 (Nat.le_refl _)
  have B := hid b3
  have X := hid x3
  simp only [nInt, nStr, nBool] at e1 e2 e3
  clear b0 x0 b1 x1 b2 x2 b3 x3 f1 f2 f3
  go_enter Try.func39, Try.ntmps39
  go_wp2
  go_ret
  exact ⟨_, rfl, B.out, X.out⟩
theorem beqB (a b : List UInt8) : ((⟨a.toArray⟩ : ByteArray) == ⟨b.toArray⟩) = (a == b) := by
  show (a.toArray == b.toArray) = (a == b)
  simp
theorem basics_find (n : List UInt8) : Instr.findNow .string (.string ⟨n.toArray⟩) basicsE.toList 0 = some none ∧ basicB n = false ∨ ∃ i, Instr.findNow .string (.string ⟨n.toArray⟩) basicsE.toList 0 = some (some (i, .bool true)) ∧ basicB n = true := by
  by_cases k0 : n = nInt
  · subst k0; exact .inr ⟨0, rfl, rfl⟩
  by_cases k1 : n = nStr
  · subst k1; exact .inr ⟨1, rfl, rfl⟩
  by_cases k2 : n = nBool
  · subst k2; exact .inr ⟨2, rfl, rfl⟩
  left
  have h0 : (n == nInt) = false := by simpa using k0
  have h1 : (n == nStr) = false := by simpa using k1
  have h2 : (n == nBool) = false := by simpa using k2
  refine ⟨?_, by unfold basicB; rw [h0, h1, h2]; rfl⟩
  unfold basicsE
  simp only [Instr.findNow, Instr.sameNow, beqB, h0, h1, h2]
theorem look_basics {w : World} {r : Nat} (n : List UInt8) (hb : w.heap[r]? = some (.map basicsE 3)) :
    (Instr.lookup 95 (.map (some r)) (.string ⟨n.toArray⟩) false).run Try.prog w = .ok (.bool (basicB n)) w := by
  have hc : ∀ b, (Instr.checkKey b 10000 9 (.string ⟨n.toArray⟩)).run Try.prog w = .ok () w := fun b => MapKept.run_checkKey (k := .string ⟨n.toArray⟩) Try.underlying9 (by simp [MapKept.IsKey]) b 9999
  rcases basics_find n with ⟨hf, hs⟩ | ⟨i, hf, hs⟩
  · rw [hs]
    simp [Instr.lookup, run_underlying Try.underlying95, MapKept.run_getObj_map hb, hc, MapKept.run_findKey Try.underlying9 hf, Result.andThen, Try.zeroValue4]
  · rw [hs]
    simp [Instr.lookup, run_underlying Try.underlying95, MapKept.run_getObj_map hb, hc, MapKept.run_findKey Try.underlying9 hf, Result.andThen]
end Go.Proofs.Ythoeengfgkfchaa
