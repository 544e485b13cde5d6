/-
  A node, opened with its bulk.
-/
import Derived.Test.YtbhpmmofgdppdaaGreatDoorZAw
import Derived.Test.YtbhpmmofgdppdaaGreatDoorZAc
namespace Go.Proofs.YtbhpmmofgdppdaaGreatDoor
open Go.RowKit Go.Lib Go.ChangeShapes Go.WideShapes
theorem four_len' : ∀ {cs : List Value}, cs.length = 4 → ∃ c0 c1 c2 c3, cs = [c0, c1, c2, c3]
  | [c0, c1, c2, c3], _ => ⟨c0, c1, c2, c3, rfl⟩
section
variable {H : Type} {enc : TypeId × Value → H} {w : World} {spare : Nat → Bool} {held : Bool}
/-- A tree, and that it is no larger than its reading's bulk. -/
theorem open_nd (K : Nat) : ∀ (fuel : Nat) (cs : List Value) (x : DataW H × List MemPlace), Rows.uptoBulk x.1 ≤ K → DataW.trod enc Tryz.prog w 0 spare held fuel 49 cs = some x → ∃ t : Nd, IsNd none' w t cs ∧ t.size ≤ Rows.uptoBulk x.1 := by
  induction K with
  | zero =>
    intro fuel cs x hK h
    obtain ⟨y0, y1, y2, y3, m, rfl, _⟩ := Go.Joins.trod_struct4 Tryz.underlying49 h
    simp only [Rows.uptoBulk] at hK
    omega
  | succ K ih =>
    intro fuel cs x hK h
    obtain ⟨y0, y1, y2, y3, m, rfl, hl, t0, t1, t2, t3⟩ := Go.Joins.trod_struct4 Tryz.underlying49 h
    have e4 : Tryz.prog.cellsOf 49 = 4 := by kernel_rfl
    rw [e4] at hl
    obtain ⟨c0, c1, c2, c3, rfl⟩ := four_len' hl
    have ks : Tryz.prog.cellsOf 9 = 1 := by kernel_rfl
    have ki : Tryz.prog.cellsOf 3 = 1 := by kernel_rfl
    have ka : Tryz.prog.cellsOf 47 = 1 := by kernel_rfl
    simp only [ki, ks, ka, List.drop_zero, List.take_succ_cons, List.take_zero, List.drop_succ_cons] at t0 t1 t2 t3
    obtain ⟨k, e0, _⟩ := DataW.trod_int Tryz.underlying3 t0
    obtain ⟨n, e1, _⟩ := DataW.trod_string Tryz.underlying9 t1
    obtain ⟨p, e3, _⟩ := DataW.trod_int Tryz.underlying3 t3
    simp only [Rows.uptoBulk, Rows.uptoBulkAll] at hK ⊢
    obtain ⟨v, l, e2, hsl, hq⟩ := open_slK (α := Nd) (sz := 4) (R := IsNd) (fun t d => t.size ≤ Rows.uptoBulk d) (by omega) Tryz.underlying47 e4 K (fun n cs x hx h => ih n cs x (by omega) h) t2 (by omega)
    injection e0 with e0 _
    injection e1 with e1 _
    injection e2 with e2 _
    injection e3 with e3 _
    subst e0 e1 e2 e3
    have hsum : Nd.sizeL l + 1 ≤ Rows.uptoBulk y2.1 := by
      rcases hq with ⟨e, rfl⟩ | ⟨ds, sp, e, hlen, hq⟩
      · rw [e]; simp [Rows.uptoBulk, Nd.sizeL]
      · rw [e, Rows.uptoBulk]
        have := bulk_sum (F := Nd.sizeL) (f := Nd.size) rfl (fun _ _ => rfl) l ds hlen hq
        omega
    refine ⟨.mk k n.data.toList l p, ?_, ?_⟩
    · have := IsNd.of (k := k) (n := n.data.toList) (p := p) hsl
      simpa using this
    · rw [Nd.size]; omega
end
end Go.Proofs.YtbhpmmofgdppdaaGreatDoor
