import Derived.Test.YtmlhkgocilpobaaUnLate
/-
  unify.Find, plain.
-/
namespace Go.Proofs.Ytmlhkgocilpobaa
open Go.RowKit Go.Lib Go.BigFrame
def pairStep (ds : List Df) (row : List (List UInt8)) (p t : Ty) (b : List Ty) : Option (List Ty) :=
  if t.kind = 2 then some b
  else if (fullP ds p).kind ≠ 0 ∧ (fullP ds t).kind ≠ 0 then
    if (fitsP ds row 100 (fullP ds p) (fullP ds t) b).1 then some (fitsP ds row 100 (fullP ds p) (fullP ds t) b).2 else none
  else none
def findAt (ds : List Df) (row : List (List UInt8)) (ps ts b : List Ty) : Nat → Option (List Ty)
  | 0 => some b
  | i + 1 => match findAt ds row ps ts b i with
    | none => none
    | some c => pairStep ds row (ps.getD i Ty.zero) (ts.getD i Ty.zero) c
theorem findAt_none {ds : List Df} {row : List (List UInt8)} {ps ts b : List Ty} {i : Nat} (h : findAt ds row ps ts b i = none) : ∀ n, i ≤ n → findAt ds row ps ts b n = none := by
  intro n
  induction n with
  | zero => intro hi; have : i = 0 := by omega
            subst this; exact h
  | succ n ih =>
    intro hi
    by_cases e : i = n + 1
    · subst e; exact h
    · rw [findAt, ih (by omega)]
def by0 (ds : List Df) (row : List (List UInt8)) : List Ty := (List.replicate row.length Ty.zero).map (fullP ds)
def endP (o : Option (List Ty × List Nat)) : Option (List Ty) := match o with
  | none => none
  | some (c, _) => if hasI (fun t : Ty => t.kind == 0) c then none else some c
def tailP (row : List (List UInt8)) (ps ts : List Ty) : Option (List Ty) → Option (List Ty)
  | none => none
  | some b => endP (untypedAt row ps ts b ts.length)
def findP (ds : List Df) (row : List (List UInt8)) (ps ts : List Ty) : Option (List Ty) :=
  if twiceP row = true ∨ ps.length ≠ ts.length then none
  else tailP row ps ts (findAt ds row ps ts (by0 ds row) ts.length)
theorem made_sl {w : World} {g n : Nat} {fz : Nat × Nat} (A : Nat → Prop) (hA : ¬ A g) (h : w.heap[g]? = some (.cells (madeCells #[.int .i64 0, .string ⟨#[]⟩, .slice none 0 0] (3 * n)) 33 fz)) : IsSl 3 IsTy A w (.slice (some ⟨g, 0, none⟩) n n) (List.replicate n Ty.zero) := by
  have hl : (List.replicate n Ty.zero).length = n := List.length_replicate ..
  refine ⟨_, n, by rw [hl], by rw [hl]; exact Nat.le_refl _, (fun h => by cases h), fun _ => ⟨g, 0, rfl, hA, heap_lt h, fun i hi => ⟨[.int .i64 0, .string ⟨#[]⟩, .slice none 0 0], ?_, ?_⟩⟩⟩
  · rw [hl] at hi
    have key : ∀ k, k < 3 → (madeCells #[Value.int .i64 0, .string ⟨#[]⟩, .slice none 0 0] (3 * n))[i * 3 + k]? = (#[Value.int .i64 0, .string ⟨#[]⟩, .slice none 0 0] : Array Value)[k]? := fun k hk => by
      have hm : (i * 3 + k) % 3 = k := by omega
      unfold madeCells
      rw [Array.getElem?_map, Array.getElem?_range, if_pos (by omega)]
      have : (#[Value.int .i64 0, Value.string ⟨#[]⟩, Value.slice none 0 0] : Array Value).size = 3 := rfl
      simp only [Option.map_some, this, hm]
      rcases k with _ | _ | _ | k
      · rfl
      · rfl
      · rfl
      · omega
    intro j v hj
    have hj3 : j < 3 := (List.getElem?_eq_some_iff.1 hj).1
    rw [cell_at h, Nat.zero_add, key j hj3]
    rcases j with _ | _ | _ | j
    · exact hj
    · exact hj
    · exact hj
    · omega
  · rw [List.getElem_replicate]
    exact IsTy.of (IsSl.nil _ _ _ _)
end Go.Proofs.Ytmlhkgocilpobaa
