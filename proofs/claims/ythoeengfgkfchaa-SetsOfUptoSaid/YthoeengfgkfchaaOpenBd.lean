/-
  What the laws of sets are given, opened with its bulk: constraints, bounds, asks.
-/
import Derived.Test.YthoeengfgkfchaaOpenTy
import Derived.Test.YthoeengfgkfchaaSeOpen
namespace Go.Proofs.Ythoeengfgkfchaa
open Go.RowKit Go.Lib Go.ChangeShapes Go.WideShapes
theorem bulk_len2 {H : Type} : ∀ ds : List (DataW H), (∀ i (h : i < ds.length), 2 ≤ Rows.uptoBulk ds[i]) → 2 * ds.length ≤ Rows.uptoBulkAll ds
  | [], _ => Nat.zero_le _
  | d :: s, h => by
    rw [Rows.uptoBulkAll, List.length_cons]
    have h1 := h 0 (by simp)
    have h2 := bulk_len2 s (fun i hi => h (i + 1) (Nat.succ_lt_succ hi))
    simp only [List.getElem_cons_zero] at h1
    omega
theorem four_len : ∀ {cs : List Value}, cs.length = 4 → ∃ c0 c1 c2 c3, cs = [c0, c1, c2, c3]
  | [c0, c1, c2, c3], _ => ⟨c0, c1, c2, c3, rfl⟩
section
variable {H : Type} {enc : TypeId × Value → H} {w : World} {spare : Nat → Bool} {held : Bool}
theorem open_tmsK {fuel : Nat} {cs : List Value} {x : DataW H × List MemPlace} (h : DataW.trod enc Try.prog w 0 spare held fuel 24 cs = some x) : ∃ v l, cs = [v] ∧ IsSl 2 IsTm none' w v l ∧ 2 * l.length ≤ Rows.uptoBulk x.1 := by
  obtain ⟨v, xs, h1, h2, hq⟩ := open_sl (α := Tm) (sz := 2) (R := IsTm) (fun _ d => 2 ≤ Rows.uptoBulk d) (by omega) Try.underlying24 (by kernel_rfl) (fun n cs x hx => by
    obtain ⟨y0, y1, m, rfl, hl, t0, t1⟩ := trod_struct2 Try.underlying77 hx
    have e2 : Try.prog.cellsOf 77 = 2 := by kernel_rfl
    rw [e2] at hl
    obtain ⟨c0, c1, rfl⟩ : ∃ c0 c1, cs = [c0, c1] := two_len hl
    have kb : Try.prog.cellsOf 4 = 1 := by kernel_rfl
    have ks : Try.prog.cellsOf 9 = 1 := by kernel_rfl
    simp only [kb, ks, List.drop_zero, List.take_succ_cons, List.take_zero, List.drop_succ_cons] at t0 t1
    obtain ⟨b, e0, e0'⟩ := DataW.trod_bool (Try.underlying4) t0
    obtain ⟨s, e1, e1'⟩ := DataW.trod_string (Try.underlying9) t1
    injection e0 with e0 _
    injection e1 with e1 _
    subst e0 e1
    refine ⟨⟨b, s.data.toList⟩, by unfold IsTm; simp, ?_⟩
    rw [e0', e1'.1]
    simp only [Rows.uptoBulk, Rows.uptoBulkAll]
    omega) h
  refine ⟨v, xs, h1, h2, ?_⟩
  rcases hq with ⟨_, rfl⟩ | ⟨rs, sp, e, hlen, hq⟩
  · simp
  · rw [e, Rows.uptoBulk]
    have := bulk_len2 rs (fun i hi => hq i (by omega) hi)
    omega
/-- Constraints of names: none has more terms than the reading's bulk. -/
theorem open_bds (K : Nat) {fuel : Nat} {cs : List Value} {x : DataW H × List MemPlace} (hK : Rows.uptoBulk x.1 ≤ K) (h : DataW.trod enc Try.prog w 0 spare held fuel 23 cs = some x) : ∃ v bs, cs = [v] ∧ IsSl 4 IsBd none' w v bs ∧ ∀ b ∈ bs, 2 * b.set.terms.length ≤ K := by
  obtain ⟨v, bs, e, hsl, hq⟩ := open_sl (α := Bd) (sz := 4) (R := IsBd) (fun b r => 2 * b.set.terms.length ≤ Rows.uptoBulk r) (by omega) Try.underlying23 (by kernel_rfl) (fun n cs x hx => by
    obtain ⟨y0, y1, m, rfl, hl, t0, t1⟩ := trod_struct2 Try.underlying74 hx
    have e4 : Try.prog.cellsOf 74 = 4 := by kernel_rfl
    rw [e4] at hl
    obtain ⟨b0, b1, b2, b3, rfl⟩ := four_len hl
    obtain ⟨z0, z1, z2, m2, ez, _, u0, u1, u2⟩ := Go.Deep.trod_struct3 Try.underlying26 t1
    have k26 : Try.prog.cellsOf 26 = 3 := by kernel_rfl
    have kb : Try.prog.cellsOf 4 = 1 := by kernel_rfl
    have ks : Try.prog.cellsOf 9 = 1 := by kernel_rfl
    have kt : Try.prog.cellsOf 24 = 1 := by kernel_rfl
    simp only [k26, kb, ks, kt, List.drop_zero, List.take_succ_cons, List.take_zero, List.drop_succ_cons] at t0 u0 u1 u2
    obtain ⟨n, e0, _⟩ := DataW.trod_string Try.underlying9 t0
    obtain ⟨sa, e1, _⟩ := DataW.trod_bool Try.underlying4 u0
    obtain ⟨sc, e2, _⟩ := DataW.trod_bool Try.underlying4 u1
    obtain ⟨tv, st, e3, hst, hbk⟩ := open_tmsK u2
    injection e0 with e0 _
    injection e1 with e1 _
    injection e2 with e2 _
    injection e3 with e3 _
    subst e0 e1 e2 e3
    refine ⟨⟨n.data.toList, ⟨sa, sc, st⟩⟩, ⟨_, by simp, hst⟩, ?_⟩
    rw [ez]
    simp only [Rows.uptoBulk, Rows.uptoBulkAll]
    omega) h
  refine ⟨v, bs, e, hsl, fun b hb => ?_⟩
  rcases hq with ⟨_, rfl⟩ | ⟨rs, sp, e, hlen, hq⟩
  · cases hb
  · obtain ⟨i, hi, rfl⟩ := List.getElem_of_mem hb
    have h1 := hq i hi (by omega)
    have h2 := bulk_mem (List.getElem_mem (show i < rs.length by omega))
    rw [e, Rows.uptoBulk] at hK
    omega
/-- An ask: its constraint and its type. -/
theorem open_askT (K : Nat) {fuel : Nat} {cs : List Value} {x : DataW H × List MemPlace} (hK : Rows.uptoBulk x.1 ≤ K) (h : DataW.trod enc Try.prog w 0 spare held fuel 32 cs = some x) :
    ∃ (s : Cn) (t : Ty) (a0 a1 a2 : Option Addr) (n2 c0 c1 c2 : Nat), cs = [.bool s.all, .bool s.cmp, .slice a0 s.terms.length c0, .int .i64 t.kind, .string ⟨t.name.toArray⟩, .slice a1 t.args.length c1, .slice a2 n2 c2] ∧
      IsSl 2 IsTm none' w (.slice a0 s.terms.length c0) s.terms ∧ IsSl 3 IsTy none' w (.slice a1 t.args.length c1) t.args ∧ t.size ≤ K := by
  obtain ⟨y0, y1, y2, m, rfl, hl, t0, t1, t2⟩ := Go.Deep.trod_struct3 Try.underlying32 h
  have e7 : Try.prog.cellsOf 32 = 7 := by kernel_rfl
  rw [e7] at hl
  obtain ⟨b0, b1, b2, b3, b4, b5, b6, rfl⟩ : ∃ b0 b1 b2 b3 b4 b5 b6, cs = [b0, b1, b2, b3, b4, b5, b6] := seven_len hl
  simp only [Rows.uptoBulk, Rows.uptoBulkAll] at hK
  have k26 : Try.prog.cellsOf 26 = 3 := by kernel_rfl
  have k29 : Try.prog.cellsOf 29 = 3 := by kernel_rfl
  have kb : Try.prog.cellsOf 4 = 1 := by kernel_rfl
  have kt : Try.prog.cellsOf 24 = 1 := by kernel_rfl
  have kn : Try.prog.cellsOf 30 = 1 := by kernel_rfl
  simp only [k26, k29, kn, List.drop_zero, List.take_succ_cons, List.take_zero, List.drop_succ_cons] at t0 t1 t2
  obtain ⟨z0, z1, z2, m2, _, _, u0, u1, u2⟩ := Go.Deep.trod_struct3 Try.underlying26 t0
  simp only [kb, kt, List.drop_zero, List.take_succ_cons, List.take_zero, List.drop_succ_cons] at u0 u1 u2
  obtain ⟨t, hty, hts⟩ := open_ty K _ _ _ (by omega) t1
  obtain ⟨xv, e3, hx⟩ := hty.parts
  obtain ⟨sa, e0, _⟩ := DataW.trod_bool Try.underlying4 u0
  obtain ⟨sc, e1, _⟩ := DataW.trod_bool Try.underlying4 u1
  obtain ⟨tv, st, e2, hst⟩ := open_tms u2
  obtain ⟨a2, n2, c2, e6⟩ : ∃ a2 n2 c2, [b6] = [Value.slice a2 n2 c2] := by
    rcases Go.Deep.open_slice Try.underlying30 t2 with ⟨e, _⟩ | ⟨a, len, cap, _, _, _, _, e, _⟩
    · exact ⟨none, 0, 0, e⟩
    · exact ⟨some a, len, cap, e⟩
  obtain ⟨a0, c0, rfl, w0⟩ := hst
  obtain ⟨a1, c1, rfl, w1⟩ := hx
  injection e0 with e0 _
  injection e1 with e1 _
  injection e2 with e2 _
  injection e3 with e3 e4
  injection e4 with e4 e5
  injection e5 with e5 _
  injection e6 with e6 _
  subst e0 e1 e2 e3 e4 e5 e6
  exact ⟨⟨sa, sc, st⟩, t, a0, a1, a2, n2, c0, c1, c2, rfl, ⟨_, _, rfl, w0⟩, ⟨_, _, rfl, w1⟩, by omega⟩
end
end Go.Proofs.Ythoeengfgkfchaa
