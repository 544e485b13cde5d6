/-
  What the laws of sets are given, opened: constraints and asks, out of the row's reading.
-/
import Derived.Test.YthoeengfgkfchaaOpen
import Derived.Test.YthoeengfgkfchaaSeTm
import Derived.Deep.Strs
namespace Go.Proofs.Ythoeengfgkfchaa
open Go.RowKit Go.Lib Go.ChangeShapes Go.WideShapes
theorem two_len : ∀ {cs : List Value}, cs.length = 2 → ∃ c0 c1, cs = [c0, c1]
  | [c0, c1], _ => ⟨c0, c1, rfl⟩
theorem seven_len : ∀ {cs : List Value}, cs.length = 7 → ∃ b0 b1 b2 b3 b4 b5 b6, cs = [b0, b1, b2, b3, b4, b5, b6]
  | [b0, b1, b2, b3, b4, b5, b6], _ => ⟨b0, b1, b2, b3, b4, b5, b6, rfl⟩
section
variable {H : Type} {enc : TypeId × Value → H} {w : World} {spare : Nat → Bool} {held : Bool}
theorem open_tms {fuel : Nat} {cs : List Value} {x : DataW H × List MemPlace} (h : DataW.trod enc Try.prog w 0 spare held fuel 24 cs = some x) : ∃ v l, cs = [v] ∧ IsSl 2 IsTm none' w v l := by
  obtain ⟨v, xs, h1, h2, _⟩ := open_sl (α := Tm) (sz := 2) (R := IsTm) (fun _ _ => True) (by omega) Try.underlying24 (by kernel_rfl) (fun n cs x hx => by
    obtain ⟨y0, y1, m, rfl, hl, t0, t1⟩ := trod_struct2 Try.underlying77 hx
    have e2 : Try.prog.cellsOf 77 = 2 := by kernel_rfl
    rw [e2] at hl
    obtain ⟨c0, c1, rfl⟩ : ∃ c0 c1, cs = [c0, c1] := two_len hl
    obtain ⟨b, e0, _⟩ := DataW.trod_bool (Try.underlying4) t0
    obtain ⟨s, e1, _⟩ := DataW.trod_string (Try.underlying9) t1
    have k0 : Try.prog.cellsOf 4 = 1 := by kernel_rfl
    have k1 : Try.prog.cellsOf 9 = 1 := by kernel_rfl
    simp only [k0, k1, List.drop_zero, List.take_succ_cons, List.take_zero, List.drop_succ_cons, List.cons.injEq, and_true] at e0 e1
    subst e0 e1
    exact ⟨⟨b, s.data.toList⟩, by unfold IsTm; simp, trivial⟩) h
  exact ⟨v, xs, h1, h2⟩
/-- An ask: seven cells. -/
theorem open_ask {fuel : Nat} {cs : List Value} {x : DataW H × List MemPlace} (h : DataW.trod enc Try.prog w 0 spare held fuel 32 cs = some x) :
    ∃ (s : Cn) (names : List (List UInt8)) (k : Int) (n : List UInt8) (a0 a1 a2 : Option Addr) (n1 c0 c1 c2 : Nat), cs = [.bool s.all, .bool s.cmp, .slice a0 s.terms.length c0, .int .i64 k, .string ⟨n.toArray⟩, .slice a1 n1 c1, .slice a2 names.length c2] ∧
      IsSl 2 IsTm none' w (.slice a0 s.terms.length c0) s.terms ∧ IsStrs none' w (.slice a2 names.length c2) names := by
  obtain ⟨y0, y1, y2, m, rfl, hl, t0, t1, t2⟩ := Go.Deep.trod_struct3 Try.underlying32 h
  have e7 : Try.prog.cellsOf 32 = 7 := by kernel_rfl
  rw [e7] at hl
  obtain ⟨b0, b1, b2, b3, b4, b5, b6, rfl⟩ : ∃ b0 b1 b2 b3 b4 b5 b6, cs = [b0, b1, b2, b3, b4, b5, b6] := seven_len hl
  obtain ⟨z0, z1, z2, m2, _, _, u0, u1, u2⟩ := Go.Deep.trod_struct3 Try.underlying26 t0
  obtain ⟨x0, x1, x2, m3, _, _, v0, v1, v2⟩ := Go.Deep.trod_struct3 Try.underlying29 t1
  have k26 : Try.prog.cellsOf 26 = 3 := by kernel_rfl
  have k29 : Try.prog.cellsOf 29 = 3 := by kernel_rfl
  have kb : Try.prog.cellsOf 4 = 1 := by kernel_rfl
  have ks : Try.prog.cellsOf 9 = 1 := by kernel_rfl
  have ki : Try.prog.cellsOf 3 = 1 := by kernel_rfl
  have kt : Try.prog.cellsOf 24 = 1 := by kernel_rfl
  have ka : Try.prog.cellsOf 27 = 1 := by kernel_rfl
  have kn : Try.prog.cellsOf 30 = 1 := by kernel_rfl
  simp only [k26, k29, kb, ks, ki, kt, ka, kn, List.drop_zero, List.take_succ_cons, List.take_zero, List.drop_succ_cons] at u0 u1 u2 v0 v1 v2 t2
  obtain ⟨sa, e0, _⟩ := DataW.trod_bool Try.underlying4 u0
  obtain ⟨sc, e1, _⟩ := DataW.trod_bool Try.underlying4 u1
  obtain ⟨tv, st, e2, hst⟩ := open_tms u2
  obtain ⟨k, e3, _⟩ := DataW.trod_int Try.underlying3 v0
  obtain ⟨n, e4, _⟩ := DataW.trod_string Try.underlying9 v1
  obtain ⟨a1, n1, c1, e5⟩ : ∃ a1 n1 c1, [b5] = [Value.slice a1 n1 c1] := by
    rcases Go.Deep.open_slice Try.underlying27 v2 with ⟨e, _⟩ | ⟨a, len, cap, _, _, _, _, e, _⟩
    · exact ⟨none, 0, 0, e⟩
    · exact ⟨some a, len, cap, e⟩
  obtain ⟨nv, names, e6, hn⟩ := open_strsL Try.underlying30 Try.underlying9 ks t2
  obtain ⟨a0, c0, rfl, w0⟩ := hst
  obtain ⟨a2, c2, rfl, w2⟩ := hn
  injection e0 with e0 _
  injection e1 with e1 _
  injection e2 with e2 _
  injection e3 with e3 _
  injection e4 with e4 _
  injection e5 with e5 _
  injection e6 with e6 _
  subst e0 e1 e2 e3 e4 e5 e6
  exact ⟨⟨sa, sc, st⟩, names, k, n.data.toList, a0, a1, a2, n1, c0, c1, c2, by simp, ⟨_, _, rfl, w0⟩, ⟨_, _, rfl, w2⟩⟩
end
end Go.Proofs.Ythoeengfgkfchaa
