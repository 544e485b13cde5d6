import Derived.Test.YtmlhkgocilpobaaUnHas
/-
  What is left of unify's untyped: the map of places; plain: what it does.
-/
namespace Go.Proofs.Ytmlhkgocilpobaa
open Go.RowKit Go.Lib Go.BigFrame
def LateIs : List Nat → List MapEntry → Prop
  | [], [] => True
  | k :: r, e :: s => e.key = .int .i64 (k : Nat) ∧ e.val = .bool true ∧ LateIs r s
  | _, _ => False
theorem LateIs.find {d : IntKind} (k : Nat) : ∀ {late : List Nat} {es : List MapEntry} (o : Nat), LateIs late es → (Instr.findNow (.int d) (.int .i64 (k : Nat)) es o = some none ∧ k ∉ late) ∨ ∃ i, Instr.findNow (.int d) (.int .i64 (k : Nat)) es o = some (some (i, .bool true)) ∧ k ∈ late
  | [], [], o, _ => .inl ⟨rfl, by simp⟩
  | a :: r, e :: s, o, h => by
    obtain ⟨hk, hv, h⟩ := h
    obtain ⟨ek, ev, ec⟩ := e
    simp only at hk hv
    subst hk hv
    by_cases e1 : k = a
    · subst e1
      exact .inr ⟨o, by simp [Instr.findNow, Instr.sameNow], by simp⟩
    · have e2 : ((k : Int) == (a : Int)) = false := by simp only [beq_eq_false_iff_ne]; omega
      rcases LateIs.find k (o + 1) h with ⟨h1, h2⟩ | ⟨i, h1, h2⟩
      · exact .inl ⟨by simp only [Instr.findNow, Instr.sameNow, if_true, e2]; exact h1, by simp [e1, h2]⟩
      · exact .inr ⟨i, by simp only [Instr.findNow, Instr.sameNow, if_true, e2]; exact h1, by simp [h2]⟩
  | [], _ :: _, _, h => h.elim
  | _ :: _, [], _, h => h.elim
theorem LateIs.snoc (k c : Nat) : ∀ {late : List Nat} {es : List MapEntry}, LateIs late es → LateIs (late ++ [k]) (es ++ [⟨.int .i64 (k : Nat), .bool true, c⟩])
  | [], [], _ => ⟨rfl, rfl, trivial⟩
  | _ :: _, _ :: _, h => ⟨h.1, h.2.1, LateIs.snoc k c h.2.2⟩
  | [], _ :: _, h => h.elim
  | _ :: _, [], h => h.elim
def putOM (w : World) (r : Nat) (o : Obj) : World := { w with heap := w.heap.setIfInBounds r o }
theorem putOM_at {w : World} {r : Nat} {o o' : Obj} (h : w.heap[r]? = some o') : (putOM w r o).heap[r]? = some o := by
  have hl := (Array.getElem?_eq_some_iff.1 h).1
  show (w.heap.setIfInBounds r o)[r]? = some o
  rw [Array.getElem?_setIfInBounds_self_of_lt hl]
theorem Ext.putOM {F : Nat → Prop} {a w : World} (h : Ext F a w) {r : Nat} (hr : F r ∨ a.heap.size ≤ r) (o : Obj) : Ext F a (putOM w r o) := by
  refine ⟨h.os, h.tape, h.output, by show a.heap.size ≤ (w.heap.setIfInBounds r o).size; rw [Array.size_setIfInBounds]; exact h.size, fun k hk hn => ?_⟩
  have e : k ≠ r := fun e => by
    subst e
    rcases hr with h | h
    · exact hn h
    · omega
  show (w.heap.setIfInBounds r o)[k]? = a.heap[k]?
  rw [Array.getElem?_setIfInBounds_ne (Ne.symm e)]
  exact h.block k hk hn
theorem run_insI {w : World} {r k : Nat} {es : Array MapEntry} {clock : Nat} (hb : w.heap[r]? = some (.map es clock)) (hf : ∀ d, Try.prog.underlying 3 = some (.int d) → Instr.findNow (.int d) (.int .i64 (k : Nat)) es.toList 0 = some none) :
    (Instr.mapUpdate 63 (.map (some r)) (.int .i64 (k : Nat)) (.bool true)).run Try.prog w = .ok () (putOM w r (.map (es.push ⟨.int .i64 (k : Nat), .bool true, clock⟩) (clock + 1))) := by
  have hc : (Instr.checkKey false 10000 3 (.int .i64 (k : Nat))).run Try.prog w = .ok () w := MapKept.run_checkKey (k := .int .i64 (k : Nat)) Try.underlying3 (by simp [MapKept.IsKey]) false 9999
  simp [Instr.mapUpdate, run_underlying Try.underlying63, MapKept.run_getObj_map hb, hc, MapKept.run_findKey Try.underlying3 (hf _ Try.underlying3), MapKept.run_setObj_map _ hb, Result.andThen, putOM]
theorem look_late {w : World} {r k : Nat} {late : List Nat} {es : Array MapEntry} {clock : Nat} (hb : w.heap[r]? = some (.map es clock)) (hl : LateIs late es.toList) :
    (Instr.lookup 63 (.map (some r)) (.int .i64 (k : Nat)) false).run Try.prog w = .ok (.bool (decide (k ∈ late))) w := by
  have hc : ∀ b, (Instr.checkKey b 10000 3 (.int .i64 (k : Nat))).run Try.prog w = .ok () w := fun b => MapKept.run_checkKey (k := .int .i64 (k : Nat)) Try.underlying3 (by simp [MapKept.IsKey]) b 9999
  rcases hl.find (d := .i64) k 0 with ⟨hf, hs⟩ | ⟨i, hf, hs⟩
  · rw [decide_eq_false hs]
    simp [Instr.lookup, run_underlying Try.underlying63, MapKept.run_getObj_map hb, hc, MapKept.run_findKey Try.underlying3 hf, Result.andThen, Try.zeroValue4]
  · rw [decide_eq_true hs]
    simp [Instr.lookup, run_underlying Try.underlying63, MapKept.run_getObj_map hb, hc, MapKept.run_findKey Try.underlying3 hf, Result.andThen]
/-! ### plain -/
def basicT (t : Ty) : Ty := .mk 1 t.name []
def lateStep (row : List (List UInt8)) (p t : Ty) (b : List Ty) (late : List Nat) : Option (List Ty × List Nat) :=
  if t.kind ≠ 2 ∨ ownP row p < 0 then some (b, late)
  else if (b.getD (ownP row p).toNat Ty.zero).kind = 0 then some (b.set (ownP row p).toNat (basicT t), late ++ [(ownP row p).toNat])
  else if (ownP row p).toNat ∈ late ∧ sameP 100 (b.getD (ownP row p).toNat Ty.zero) (basicT t) = false then none
  else some (b, late)
def untypedAt (row : List (List UInt8)) (ps ts : List Ty) (b : List Ty) : Nat → Option (List Ty × List Nat)
  | 0 => some (b, [])
  | i + 1 => match untypedAt row ps ts b i with
    | none => none
    | some (c, l) => lateStep row (ps.getD i Ty.zero) (ts.getD i Ty.zero) c l
theorem untypedAt_none {row : List (List UInt8)} {ps ts : List Ty} {b : List Ty} {i : Nat} (h : untypedAt row ps ts b i = none) : ∀ n, i ≤ n → untypedAt row ps ts b n = none := by
  intro n
  induction n with
  | zero => intro hi; have : i = 0 := by omega
            subst this; exact h
  | succ n ih =>
    intro hi
    by_cases e : i = n + 1
    · subst e; exact h
    · rw [untypedAt, ih (by omega)]
theorem own_nat {row : List (List UInt8)} {t : Ty} (h : 0 ≤ ownP row t) : (ownP row t).toNat < row.length := own_lt h
theorem lateStep_inv {row : List (List UInt8)} {p t : Ty} {b c : List Ty} {late l : List Nat} (hl : b.length = row.length) (hi : ∀ k ∈ late, (b.getD k Ty.zero).kind = 1) (h : lateStep row p t b late = some (c, l)) : c.length = row.length ∧ ∀ k ∈ l, (c.getD k Ty.zero).kind = 1 := by
  unfold lateStep at h
  split at h
  · injection h with h; injection h with h1 h2; subst h1 h2; exact ⟨hl, hi⟩
  · rename_i hz
    split at h
    · injection h with h
      injection h with h1 h2
      subst h1 h2
      have hj := own_nat (row := row) (t := p) (by omega)
      refine ⟨by rw [List.length_set]; exact hl, fun k hk => ?_⟩
      rw [List.getD_eq_getElem?_getD, List.getElem?_set]
      by_cases e : (ownP row p).toNat = k
      · rw [if_pos e, if_pos (by omega)]; rfl
      · rw [if_neg e]
        rcases List.mem_append.1 hk with hk | hk
        · have := hi k hk; rw [List.getD_eq_getElem?_getD] at this; exact this
        · rw [List.mem_singleton] at hk; exact absurd hk.symm e
    · split at h
      · cases h
      · injection h with h; injection h with h1 h2; subst h1 h2; exact ⟨hl, hi⟩
theorem untypedAt_inv {row : List (List UInt8)} {ps ts : List Ty} {bs : List Ty} (hl : bs.length = row.length) : ∀ (i : Nat) {b : List Ty} {late : List Nat}, untypedAt row ps ts bs i = some (b, late) → b.length = row.length ∧ ∀ k ∈ late, (b.getD k Ty.zero).kind = 1
  | 0, b, late, h => by
    rw [untypedAt] at h
    injection h with h; injection h with h1 h2; subst h1 h2
    exact ⟨hl, fun k hk => by cases hk⟩
  | i + 1, b, late, h => by
    rw [untypedAt] at h
    cases hq : untypedAt row ps ts bs i with
    | none => rw [hq] at h; cases h
    | some q =>
      obtain ⟨c, l⟩ := q
      rw [hq] at h
      simp only at h
      have := untypedAt_inv hl i hq
      exact lateStep_inv this.1 this.2 h
end Go.Proofs.Ytmlhkgocilpobaa
