/-
  Chapter 12's Ask, opened: a row of names, patterns, types.
-/
import Derived.Test.YtmlhkgocilpobaaOpenTy
namespace Go.Proofs.Ytmlhkgocilpobaa
open Go.RowKit Go.Lib Go.ChangeShapes Go.WideShapes
theorem four_len : ∀ {cs : List Value}, cs.length = 4 → ∃ b0 b1 b2 b3, cs = [b0, b1, b2, b3]
  | [b0, b1, b2, b3], _ => ⟨b0, b1, b2, b3, rfl⟩
section
variable {H : Type} {enc : TypeId × Value → H} {w : World} {spare : Nat → Bool} {held : Bool}
theorem open_tys (K : Nat) {fuel : Nat} {cs : List Value} {x : DataW H × List MemPlace} (hK : Rows.uptoBulk x.1 ≤ K) (h : DataW.trod enc Try.prog w 0 spare held fuel 24 cs = some x) : ∃ v ts, cs = [v] ∧ IsSl 3 IsTy none' w v ts ∧ ∀ t ∈ ts, t.size ≤ K := by
  obtain ⟨v, ts, e, hsl, hq⟩ := open_slK (α := Ty) (sz := 3) (R := IsTy) (fun t r => t.size ≤ Rows.uptoBulk r) (by omega) Try.underlying24 (by kernel_rfl) K (fun n cs x hx h => open_ty _ _ _ _ (Nat.le_refl _) h) h hK
  refine ⟨v, ts, e, hsl, fun t ht => ?_⟩
  rcases hq with ⟨_, rfl⟩ | ⟨rs, sp, e, hlen, hq⟩
  · cases ht
  · obtain ⟨i, hi, rfl⟩ := List.getElem_of_mem ht
    have h1 := hq i hi (by omega)
    have h2 := bulk_mem (List.getElem_mem (show i < rs.length by omega))
    rw [e, Rows.uptoBulk] at hK
    omega
set_option maxRecDepth 100000 in
theorem open_ask12 (K : Nat) {fuel : Nat} {cs : List Value} {x : DataW H × List MemPlace} (hK : Rows.uptoBulk x.1 ≤ K) (h : DataW.trod enc Try.prog w 0 spare held fuel 26 cs = some x) :
    ∃ rv row pv ps tv ts a n c, cs = [rv, pv, tv, .slice a n c] ∧ IsStrs none' w rv row ∧ IsSl 3 IsTy none' w pv ps ∧ IsSl 3 IsTy none' w tv ts ∧ (∀ t ∈ ps, t.size ≤ K) ∧ ∀ t ∈ ts, t.size ≤ K := by
  obtain ⟨y0, y1, y2, y3, m, rfl, hl, t0, t1, t2, t3⟩ := Go.Joins.trod_struct4 Try.underlying26 h
  have e4 : Try.prog.cellsOf 26 = 4 := by kernel_rfl
  rw [e4] at hl
  obtain ⟨b0, b1, b2, b3, rfl⟩ := four_len hl
  have ks : Try.prog.cellsOf 9 = 1 := by kernel_rfl
  have kn : Try.prog.cellsOf 23 = 1 := by kernel_rfl
  have kt : Try.prog.cellsOf 24 = 1 := by kernel_rfl
  simp only [kn, kt, List.drop_zero, List.take_succ_cons, List.take_zero, List.drop_succ_cons] at t0 t1 t2 t3
  simp only [Rows.uptoBulk, Rows.uptoBulkAll] at hK
  obtain ⟨rv, row, e0, hr⟩ := open_strsL Try.underlying23 Try.underlying9 ks t0
  obtain ⟨pv, ps, e1, hp, hp2⟩ := open_tys K (by omega) t1
  obtain ⟨tv, ts, e2, ht, ht2⟩ := open_tys K (by omega) t2
  obtain ⟨bv, bs, e3, hb, _⟩ := open_tys K (by omega) t3
  obtain ⟨a, c, rfl, _⟩ := hb
  injection e3 with e3 _
  injection e0 with e0 _
  injection e1 with e1 _
  injection e2 with e2 _
  subst e0 e1 e2 e3
  exact ⟨_, row, _, ps, _, ts, a, _, c, rfl, hr, hp, ht, hp2, ht2⟩
end
end Go.Proofs.Ytmlhkgocilpobaa
