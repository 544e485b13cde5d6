/-
  What came in, opened: slices of things of any make, out of the row's reading.
-/
import Derived.Test.YtmlhkgocilpobaaTy
import Derived.Test.YtmlhkgocilpobaaProg
import Derived.Deep.Slices
import Derived.ChangeMaps5
namespace Go.Proofs.Ytmlhkgocilpobaa
open Go.RowKit Go.Lib Go.ChangeShapes Go.WideShapes
section
variable {H : Type} {enc : TypeId × Value → H} {P : Program} {w : World} {spare : Nat → Bool} {held : Bool}
theorem cells_at {b off : Nat} {n : Nat} {cs : List Value} (h : w.cells? 0 ⟨b, off, none⟩ n = some cs) : cs.length = n ∧ Cells w b off cs := by
  obtain ⟨_, h1, h2⟩ := World.cells?_some h
  refine ⟨h1, fun j v hj => ?_⟩
  have hjn : j < n := by have := (List.getElem?_eq_some_iff.1 hj).1; omega
  have := h2 j hjn
  rw [hj] at this
  have e : (⟨b, off, none⟩ : Addr).add j = ⟨b, off + j, none⟩ := by unfold Addr.add; split <;> simp_all
  rw [e] at this
  exact this
theorem open_sl {α : Type} {sz : Nat} {R : Lay α} (Q : α → DataW H → Prop) (hsz : 0 < sz) {t e : TypeId} (ht : P.underlying t = some (.slice e)) (hc : P.cellsOf e = sz)
    (he : ∀ (n : Nat) (cs : List Value) (x : DataW H × List MemPlace), DataW.trod enc P w 0 spare held n e cs = some x → ∃ a, R none' w a cs ∧ Q a x.1)
    {fuel : Nat} {cs : List Value} {x : DataW H × List MemPlace} (h : DataW.trod enc P w 0 spare held fuel t cs = some x) :
    ∃ v xs, cs = [v] ∧ IsSl sz R none' w v xs ∧ ((x.1 = .nil ∧ xs = []) ∨ ∃ ds sp, x.1 = .slice ds sp ∧ ds.length = xs.length ∧ ∀ i (h1 : i < xs.length) (h2 : i < ds.length), Q xs[i] ds[i]) := by
  rcases Go.Deep.open_slice ht h with ⟨rfl, rfl⟩ | ⟨a, len, cap, m, n, D, Pl, rfl, hb, hl, hm, hmm, rfl, hx⟩
  · exact ⟨_, [], rfl, IsSl.nil _ _ _ _, .inl ⟨rfl, rfl⟩⟩
  · have hlm : len ≤ m := by rw [hmm]; split <;> omega
    have key : ∀ i : Fin len, ∃ q : α × List Value, w.cells? 0 (a.add (i.1 * sz)) sz = some q.2 ∧ R none' w q.1 q.2 ∧ Q q.1 (D i.1) := fun i => by
      obtain ⟨cs', h1, h2⟩ := hx i.1 (by have := i.2; omega)
      obtain ⟨y, hy1, hy2⟩ := he n cs' _ h2
      rw [hc] at h1
      exact ⟨(y, cs'), h1, hy1, hy2⟩
    obtain ⟨f, hf⟩ := Classical.axiomOfChoice key
    refine ⟨_, List.ofFn fun i => (f i).1, rfl, ⟨some a, cap, by rw [List.length_ofFn], by rw [List.length_ofFn]; exact hl, (fun h => by cases h), fun hne => ?_⟩, .inr ⟨_, _, rfl, by simp, fun i h1 h2 => ?_⟩⟩
    · have hpos : 0 < len := by
        rcases Nat.eq_zero_or_pos len with h | h
        · subst h; simp at hne
        · exact h
      obtain ⟨b, off, spot⟩ := a
      have hs : spot = none ∧ b < w.heap.size := by
        obtain ⟨_, h1, h2⟩ := World.cells?_some (hf ⟨0, hpos⟩).1
        have h3 := h2 0 hsz
        have hlen : 0 < (f ⟨0, hpos⟩).2.length := by omega
        rw [List.getElem?_eq_getElem hlen] at h3
        have e0 : ((⟨b, off, spot⟩ : Addr).add (0 * sz)).add 0 = ⟨b, off, spot⟩ := by simp [Addr.add]
        simp only [e0] at h3
        exact ⟨World.cell?_spot h3, World.block_lt_of_cell? w _ h3⟩
      obtain ⟨rfl, hbw⟩ := hs
      refine ⟨b, off, rfl, fun h => h, hbw, fun i hi => ?_⟩
      rw [List.length_ofFn] at hi
      have hfi := hf ⟨i, hi⟩
      have e : (⟨b, off, none⟩ : Addr).add (i * sz) = ⟨b, off + i * sz, none⟩ := by unfold Addr.add; split <;> simp_all
      have h1 := hfi.1
      simp only [e] at h1
      exact ⟨_, (cells_at h1).2, by rw [List.getElem_ofFn]; exact hfi.2.1⟩
    · rw [List.length_ofFn] at h1
      have h3 := (hf ⟨i, h1⟩).2.2
      rw [List.getElem_ofFn]
      simpa using h3
theorem open_strsL {t e : TypeId} (ht : P.underlying t = some (.slice e)) (he : P.underlying e = some .string) (hc : P.cellsOf e = 1) {fuel : Nat} {cs : List Value} {x : DataW H × List MemPlace} (h : DataW.trod enc P w 0 spare held fuel t cs = some x) :
    ∃ v l, cs = [v] ∧ IsStrs none' w v l := by
  obtain ⟨v, xs, h1, h2, _⟩ := open_sl (α := List UInt8) (R := IsStr) (fun _ _ => True) (by omega) ht hc (fun n cs x hx => by
    obtain ⟨s, rfl, _⟩ := DataW.trod_string he hx
    exact ⟨s.data.toList, by unfold IsStr; simp, trivial⟩) h
  exact ⟨v, xs, h1, h2⟩
end
end Go.Proofs.Ytmlhkgocilpobaa
