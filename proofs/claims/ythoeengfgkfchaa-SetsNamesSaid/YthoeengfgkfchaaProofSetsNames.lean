/-
  SetsNames: for every input that can be read, the law's function returns true, and its arguments read behind the call as they did before it. No condition.
  The frame of this text is the kit's shell (proof-skeleton.mjs); the walk is this claim's own.
-/
import Derived.Test.YthoeengfgkfchaaRows
import Derived.WalkKit
import Derived.ProofKit
import Derived.OpenShut
import Derived.ShutString
import Derived.ChangeOld
import Derived.Below
import Derived.Test.YthoeengfgkfchaaSeNames
import Derived.Test.YthoeengfgkfchaaSeOpen
namespace Go.Proofs.Ythoeengfgkfchaa.setsNames
open Go.ChangeShapes Go.WideShapes Go.ChangeAt Go.RowKit
open Go.ChangeMaps (open_string shut_string)
set_option linter.unusedVariables false

theorem own : ownKnob Try.prog.godebug = none := by kernel_rfl
theorem laidOut : laidOutB Try.prog = true := by kernel_rfl

theorem walk (s : Cn) (names : List (List UInt8)) (k : Int) (n : List UInt8) (a0 a1 a2 : Option Addr) (n1 c0 c1 c2 : Nat) (more : List UInt8) (w : World)
    (h0 : IsSl 2 IsTm none' w (.slice a0 s.terms.length c0) s.terms) (h2 : IsStrs none' w (.slice a2 names.length c2) names) :
    Calls Try.prog 5 #[.agg #[.bool s.all, .bool s.cmp, .slice a0 s.terms.length c0, .int .i64 k, .string ⟨n.toArray⟩, .slice a1 n1 c1, .slice a2 names.length c2], .string ⟨more.toArray⟩] w fun e w' => e = .returned (.bool true) ∧ Below w.heap.size w w' := by
  by_cases h : 20 < s.terms.length ∨ 20 < names.length
  · exact (law_names_long s names k n a0 a1 a2 n1 c0 c1 c2 more w h).mono fun e w' h => ⟨h.1, h.2.below (Nat.le_refl _) fun _ _ h => h⟩
  · exact (law_names s names k n a0 a1 a2 n1 c0 c1 c2 more w (by omega) (by omega) h0 h2).mono fun e w' h => ⟨h.1, h.2.below (Nat.le_refl _) fun _ _ h => h⟩

/-! ### THE ROW's STEP: WRITTEN OUT: LEAVE IT -/
set_option maxRecDepth 100000 in
theorem lifted (os : Os) (started : os.Started) (H : Type) (enc : TypeId × Value → H) :
    ReturnsInHanded {} Try.checked os 5 .any (Rows.setsNamesSpec.pre6 enc Try.prog Try.f5 Rows.setsNamesRow.domain false) (Rows.setsNamesSpec.post enc Try.prog Try.f5 false true false false) := by
  refine returnsInHanded_of_change (C := Try.checked) own started (by kernel_rfl) Try.func5
    (ChangeSpec.witness6 (enc := enc) (C := Try.checked) false ⟨#[], #[.agg #[.bool false, .bool false, .slice none 0 0, .int .i64 0, .string ⟨#[]⟩, .slice none 0 0, .slice none 0 0], .string ⟨#[]⟩], []⟩ 8 (by kernel_rfl) (by kernel_rfl) (by kernel_rfl) (by kernel_rfl)) ?_
  intro W base args ds gs before hval0 hW hcnd _
  have hval : ∀ (j : Nat) t v, Try.f5.params[j]? = some t → args[j]? = some v → Value.okWide Try.prog W .any base t v := hval0
  have hW' := hW
  obtain ⟨p, q, hA0, hV, rfl, hfz, hnd⟩ := hW
  have hA : DataW.TrodAll enc Try.prog W 0 (fun _ => true) true Try.f5.params.toList args.toList ds p := hA0
  rw [Try.params5] at hA hval
  obtain ⟨v0, vs0, d0, ds0, p0, q0, hargs, rfl, rfl, h0, r0⟩ := trodAll_cons hA
  obtain ⟨v1, vs1, d1, ds1, p1, q1, rfl, rfl, rfl, h1, r1⟩ := trodAll_cons r0
  obtain ⟨rfl, rfl, rfl⟩ := trodAll_nil r1
  obtain rfl : args = #[v0, v1] := by cases args; simp_all
  obtain ⟨rfl, rfl⟩ := trodVars_none hV
  have k0 := h0
  have k1 := h1
  have lt0 : ∀ x ∈ p0, x.block < W.heap.size := by obtain ⟨m, hm⟩ := k0; exact DataW.trod_lt m _ _ _ hm
  have lt1 : ∀ x ∈ p1, x.block < W.heap.size := by obtain ⟨m, hm⟩ := k1; exact DataW.trod_lt m _ _ _ hm
  obtain ⟨cs0, rfl, _⟩ := okWide_struct Try.underlying32 (hval 0 32 v0 rfl rfl)
  obtain ⟨mo, rfl⟩ := okWide_string Try.underlying9 (hval 1 9 v1 rfl rfl)
  obtain ⟨m0, hm0⟩ := h0
  obtain ⟨s, names, k, n, a0, a1, a2, n1, c0, c1, c2, e0, w0, w2⟩ := open_ask hm0
  simp only [Value.cells] at e0
  obtain rfl : cs0 = #[.bool s.all, .bool s.cmp, .slice a0 s.terms.length c0, .int .i64 k, .string ⟨n.toArray⟩, .slice a1 n1 c1, .slice a2 names.length c2] := by
    cases cs0
    exact congrArg Array.mk e0
  clear hA0 hval0
  have hmo : mo = ⟨mo.data.toList.toArray⟩ := by simp
  rw [hmo]
  refine (walk s names k n a0 a1 a2 n1 c0 c1 c2 mo.data.toList W w0 w2).mono fun e W' ⟨he, bel⟩ => ?_
  subst he
  rw [← hmo]
  exact ⟨_, rfl, _, _, _, [], _, [], hW', trodAll_mk1 (shut_bool Try.underlying4 _), (trodAll_cons_mk (Below.trod laidOut (by kernel_rfl) (of_decide_eq_true (by kernel_rfl)) k0 bel lt0) (trodAll_cons_mk (Below.trod laidOut (by kernel_rfl) (of_decide_eq_true (by kernel_rfl)) k1 bel lt1) trodAll_mk0)), rfl, bel.frame _, fun h => by cases h⟩

theorem over : Rows.setsNamesRow.holds Try.pinned (OpenSpec.ofChange Rows.setsNamesSpec) :=
  OpenClaim.holds_of_wide 5 Try.f5 rfl rfl rfl rfl rfl rfl rfl ⟨rfl, rfl, rfl, rfl, rfl⟩ rfl rfl rfl rfl rfl (by kernel_rfl) Try.func5 (by kernel_rfl)
    (of_decide_eq_true (by kernel_rfl)) (by unfold Func.isWrapper; first | (rw [if_pos (by decide +kernel)]; kernel_rfl) | (rw [if_neg (by decide +kernel)]; exact ⟨rfl, rfl⟩))
    (fun os started H enc _ => lifted os started H enc)

/-- THE STATEMENT -/
theorem proved : Rows.SetsNamesSaid := over
#print axioms proved
end Go.Proofs.Ythoeengfgkfchaa.setsNames
