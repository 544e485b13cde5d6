/-
  UnifyMore: for every input of bulk at most 1048576, the law's function returns true, and its arguments read behind the call as they did before it.
  Condition: the bulk of what comes in (the statement's second form).
  The frame of this text is the kit's shell; the walk is this claim's own.
-/
import Derived.Test.YtmlhkgocilpobaaRows
import Derived.WalkKit
import Derived.ProofKit
import Derived.OpenShut
import Derived.ShutString
import Derived.JoinedCond
import Derived.Below
import Derived.Test.YtmlhkgocilpobaaUnMore
import Derived.Test.YtmlhkgocilpobaaUnMoreT
import Derived.Test.YtmlhkgocilpobaaOpenAsk
namespace Go.Proofs.Ytmlhkgocilpobaa.unifyMore
open Go.ChangeShapes Go.WideShapes Go.ChangeAt Go.RowKit
open Go.ChangeMaps (open_string shut_string)
set_option linter.unusedVariables false

theorem own : ownKnob Try.prog.godebug = none := by kernel_rfl
theorem laidOut : laidOutB Try.prog = true := by kernel_rfl

theorem walk (ds : List Df) (row : List (List UInt8)) (ps ts : List Ty) (hsz : ∀ d ∈ ds, d.ty.size ≤ bigD) (hpz : ∀ t ∈ ps, t.size ≤ bigD) (htz : ∀ t ∈ ts, t.size ≤ bigD) (dv rv pv tv : Value) (a9 : Option Addr) (n9 c9 : Nat) (w : World)
    (hd : IsSl 6 IsDf none' w dv ds) (hr : IsStrs none' w rv row) (hp : IsSl 3 IsTy none' w pv ps) (ht : IsSl 3 IsTy none' w tv ts) :
    Calls Try.prog 3 #[dv, .agg #[rv, pv, tv, .slice a9 n9 c9]] w fun e w' => e = .returned (.bool true) ∧ Below w.heap.size w w' := by
  by_cases h : lightP ds = false ∨ 10 < row.length ∨ fewP ps = false ∨ fewP ts = false
  · exact (law_um_true ds row ps ts hsz hpz htz dv rv pv tv a9 n9 c9 w hd hr hp ht h).mono fun e w' h => ⟨h.1, h.2.below (Nat.le_refl _) fun _ _ h => h⟩
  · have tr : ∀ {b : Bool}, ¬ b = false → b = true := fun {b} h => by cases b; exact absurd rfl h; rfl
    rw [not_or, not_or, not_or] at h
    exact (law_um ds row ps ts hsz hpz htz dv rv pv tv a9 n9 c9 w hd hr hp ht (tr h.1) (by omega) (tr h.2.2.1) (tr h.2.2.2)).mono fun e w' h => ⟨h.1, h.2.below (Nat.le_refl _) fun _ _ h => h⟩

set_option maxRecDepth 100000 in
theorem contract (H : Type) (enc : TypeId × Value → H) (W : World) (base : Nat) (args : Array Value) (ds gs : List (DataW H)) (before : List MemPlace)
    (hval : ∀ (j : Nat) t v, Try.f3.params[j]? = some t → args[j]? = some v → Value.okWide Try.prog W .any base t v)
    (hW : DataW.Whole enc Try.prog Try.f3.params.toList Rows.unifyMoreSpec.vars false W args.toList ds gs before) (hk : Rows.uptoSmall H (ds ++ gs) = true) :
    Calls Try.prog 3 args W fun e W' => ∃ v, e = .returned v ∧ Rows.unifyMoreSpec.post enc Try.prog Try.f3 false true false false W args v W' := by
  have hW' := hW
  obtain ⟨p, q, hA0, hV, rfl, hfz, hnd⟩ := hW
  have hA : DataW.TrodAll enc Try.prog W 0 (fun _ => true) true Try.f3.params.toList args.toList ds p := hA0
  rw [Try.params3] at hA hval
  obtain ⟨v0, vs0, d0, ds0, p0, q0, hargs, rfl, rfl, h0, r0⟩ := trodAll_cons hA
  obtain ⟨v1, vs1, d1, ds1, p1, q1, rfl, rfl, rfl, h1, r1⟩ := trodAll_cons r0
  obtain ⟨rfl, rfl, rfl⟩ := trodAll_nil r1
  obtain rfl : args = #[v0, v1] := by cases args; simp_all
  obtain ⟨rfl, rfl⟩ := trodVars_none hV
  have hkk : Rows.uptoBulkAll ([d0, d1] ++ []) ≤ 1048576 := of_decide_eq_true hk
  simp only [List.append_nil, Rows.uptoBulkAll] at hkk
  obtain ⟨K, hK⟩ : ∃ K : Nat, 1048576 = K := ⟨_, rfl⟩
  have hKm : K + 1 ≤ maxLen := by rw [← hK]; unfold maxLen; omega
  rw [hK] at hkk
  clear hk
  have k0 := h0
  have k1 := h1
  have lt0 : ∀ x ∈ p0, x.block < W.heap.size := by obtain ⟨m, hm⟩ := k0; exact DataW.trod_lt m _ _ _ hm
  have lt1 : ∀ x ∈ p1, x.block < W.heap.size := by obtain ⟨m, hm⟩ := k1; exact DataW.trod_lt m _ _ _ hm
  obtain ⟨o0, l0, n0, rfl⟩ := okWide_slice Try.underlying22 (hval 0 22 v0 rfl rfl)
  obtain ⟨cs1, rfl, _⟩ := okWide_struct Try.underlying26 (hval 1 26 v1 rfl rfl)
  obtain ⟨m0, hm0⟩ := h0
  obtain ⟨m1, hm1⟩ := h1
  have hb : K ≤ bigD := by unfold bigD; omega
  obtain ⟨dv, dl, e0, hd, hsz⟩ := open_defs K (by simp only; omega) hm0
  obtain ⟨rv, row, pv, ps, tv, ts, a, n, c, e1, hr, hp, ht, hpz, htz⟩ := open_ask12 K (by simp only; omega) hm1
  simp only [Value.cells] at e0 e1
  injection e0 with e0 _
  subst e0
  obtain rfl : cs1 = #[rv, pv, tv, .slice a n c] := by
    cases cs1
    exact congrArg Array.mk e1
  clear hA0
  refine (walk dl row ps ts (fun d h => Nat.le_trans (hsz d h) hb) (fun t h => Nat.le_trans (hpz t h) hb) (fun t h => Nat.le_trans (htz t h) hb) _ rv pv tv a n c W hd hr hp ht).mono fun e W' ⟨he, bel⟩ => ?_
  subst he
  exact ⟨_, rfl, _, _, _, [], _, [], hW', trodAll_mk1 (shut_bool Try.underlying4 _), (trodAll_cons_mk (Below.trod laidOut (by kernel_rfl) (of_decide_eq_true (by kernel_rfl)) k0 bel lt0) (trodAll_cons_mk (Below.trod laidOut (by kernel_rfl) (of_decide_eq_true (by kernel_rfl)) k1 bel lt1) trodAll_mk0)), rfl, bel.frame _, fun h => by cases h⟩

set_option maxRecDepth 100000 in
theorem lifted (os : Os) (started : os.Started) (H : Type) (enc : TypeId × Value → H) (F : Stop.Interp) :
    ReturnsInHanded {} Try.checked os 3 .any ((Rows.OpenSpec.upto Rows.unifyMoreSpec).pre6 enc Try.prog Try.f3 Rows.unifyMoreUptoRow.domain false) (((Rows.OpenSpec.upto Rows.unifyMoreSpec).at F).post enc Try.prog Try.f3 false true false false) := by
  refine returnsInHanded_of_cond (C := Try.checked) (s := Rows.OpenSpec.upto Rows.unifyMoreSpec) (k := Rows.uptoSmall) rfl own started (by kernel_rfl) Try.func3
    (OpenSpec.witness (enc := enc) (C := Try.checked) (s := Rows.OpenSpec.upto Rows.unifyMoreSpec) (k := Rows.uptoSmall) rfl false ⟨#[], #[.slice none 0 0, .agg #[.slice none 0 0, .slice none 0 0, .slice none 0 0, .slice none 0 0]], []⟩ 8 (by kernel_rfl) (by kernel_rfl) (by kernel_rfl)
      (x := ([.nil, .agg [.nil, .nil, .nil, .nil]], [], [])) (by kernel_rfl) rfl (by kernel_rfl)) ?_
  intro W base args ds gs before hval hW _ hk _
  exact contract H enc W base args ds gs before hval hW hk

/-- THE STATEMENT -/
theorem proved : Rows.UnifyMoreUptoSaid :=
  OpenClaim.holds_of_cond 3 Try.f3 rfl rfl rfl rfl rfl rfl rfl ⟨rfl, rfl, rfl, rfl, rfl⟩ rfl rfl rfl rfl rfl (by kernel_rfl) Try.func3 (by kernel_rfl)
    (of_decide_eq_true (by kernel_rfl)) (by unfold Func.isWrapper; first | (rw [if_pos (by decide +kernel)]; kernel_rfl) | (rw [if_neg (by decide +kernel)]; exact ⟨rfl, rfl⟩))
    (fun os started H enc _ F => lifted os started H enc F)
#print axioms proved
end Go.Proofs.Ytmlhkgocilpobaa.unifyMore
