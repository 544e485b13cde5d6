/-
  SetsMore: for every input of bulk at most 1048576, the law's function returns true, and its arguments read behind the call as they did before it.
  Condition: the bulk of what comes in (the statement's second form).
  The frame of this text is the kit's shell; the walk is this claim's own.
-/
import Derived.Test.YthoeengfgkfchaaRows
import Derived.WalkKit
import Derived.ProofKit
import Derived.OpenShut
import Derived.ShutString
import Derived.JoinedCond
import Derived.Below
import Derived.Test.YthoeengfgkfchaaSeMore2
import Derived.Test.YthoeengfgkfchaaOpenBd
namespace Go.Proofs.Ythoeengfgkfchaa.setsMore
open Go.ChangeShapes Go.WideShapes Go.ChangeAt Go.RowKit
open Go.ChangeMaps (open_string shut_string)
set_option linter.unusedVariables false

theorem own : ownKnob Try.prog.godebug = none := by kernel_rfl
theorem laidOut : laidOutB Try.prog = true := by kernel_rfl

theorem walk (ds : List Df) (bs : List Bd) (s : Cn) (t : Ty) (hsz : ∀ d ∈ ds, d.ty.size ≤ bigD) (ht : t.size ≤ bigD) (hbs : ∀ b ∈ bs, b.set.terms.length ≤ 1000000) (dv bv : Value) (a0 a1 a2 : Option Addr) (n2 c0 c1 c2 : Nat) (w : World) (hd : IsSl 6 IsDf none' w dv ds) (hb : IsSl 4 IsBd none' w bv bs)
    (hs : IsSl 2 IsTm none' w (.slice a0 s.terms.length c0) s.terms) (hv : IsSl 3 IsTy none' w (.slice a1 t.args.length c1) t.args) :
    Calls Try.prog 3 #[dv, bv, .agg #[.bool s.all, .bool s.cmp, .slice a0 s.terms.length c0, .int .i64 t.kind, .string ⟨t.name.toArray⟩, .slice a1 t.args.length c1, .slice a2 n2 c2]] w fun e w' => e = .returned (.bool true) ∧ Below w.heap.size w w' := by
  by_cases h : lightP ds = false ∨ 20 < bs.length ∨ 20 < s.terms.length ∨ 60 < t.size
  · exact (law_more_true ds bs s t hsz ht dv bv a0 a1 a2 n2 c0 c1 c2 w hd hb hv h).mono fun e w' h => ⟨h.1, h.2.below (Nat.le_refl _) fun _ _ h => h⟩
  · have h1 : lightP ds = true := by
      cases hl : lightP ds with
      | true => rfl
      | false => exact absurd (.inl hl) h
    exact (law_more ds bs s t hsz hbs dv bv a0 a1 a2 n2 c0 c1 c2 w hd hb hs hv h1 (by omega) (by omega) (by omega)).mono fun e w' h => ⟨h.1, h.2.below (Nat.le_refl _) fun _ _ h => h⟩

set_option maxRecDepth 100000 in
theorem contract (H : Type) (enc : TypeId × Value → H) (W : World) (base : Nat) (args : Array Value) (ds gs : List (DataW H)) (before : List MemPlace)
    (hval : ∀ (j : Nat) t v, Try.f3.params[j]? = some t → args[j]? = some v → Value.okWide Try.prog W .any base t v)
    (hW : DataW.Whole enc Try.prog Try.f3.params.toList Rows.setsMoreSpec.vars false W args.toList ds gs before) (hk : Rows.uptoSmall H (ds ++ gs) = true) :
    Calls Try.prog 3 args W fun e W' => ∃ v, e = .returned v ∧ Rows.setsMoreSpec.post enc Try.prog Try.f3 false true false false W args v W' := by
  have hW' := hW
  obtain ⟨p, q, hA0, hV, rfl, hfz, hnd⟩ := hW
  have hA : DataW.TrodAll enc Try.prog W 0 (fun _ => true) true Try.f3.params.toList args.toList ds p := hA0
  rw [Try.params3] at hA hval
  obtain ⟨v0, vs0, d0, ds0, p0, q0, hargs, rfl, rfl, h0, r0⟩ := trodAll_cons hA
  obtain ⟨v1, vs1, d1, ds1, p1, q1, rfl, rfl, rfl, h1, r1⟩ := trodAll_cons r0
  obtain ⟨v2, vs2, d2, ds2, p2, q2, rfl, rfl, rfl, h2, r2⟩ := trodAll_cons r1
  obtain ⟨rfl, rfl, rfl⟩ := trodAll_nil r2
  obtain rfl : args = #[v0, v1, v2] := by cases args; simp_all
  obtain ⟨rfl, rfl⟩ := trodVars_none hV
  have hkk : Rows.uptoBulkAll ([d0, d1, d2] ++ []) ≤ 1048576 := of_decide_eq_true hk
  simp only [List.append_nil, Rows.uptoBulkAll] at hkk
  have hb : 1048576 ≤ bigD := by unfold bigD; omega
  obtain ⟨K, hK⟩ : ∃ K : Nat, 1048576 = K := ⟨_, rfl⟩
  rw [hK] at hkk hb
  clear hk
  have k0 := h0
  have k1 := h1
  have k2 := h2
  have lt0 : ∀ x ∈ p0, x.block < W.heap.size := by obtain ⟨m, hm⟩ := k0; exact DataW.trod_lt m _ _ _ hm
  have lt1 : ∀ x ∈ p1, x.block < W.heap.size := by obtain ⟨m, hm⟩ := k1; exact DataW.trod_lt m _ _ _ hm
  have lt2 : ∀ x ∈ p2, x.block < W.heap.size := by obtain ⟨m, hm⟩ := k2; exact DataW.trod_lt m _ _ _ hm
  obtain ⟨o0, l0, n0, rfl⟩ := okWide_slice Try.underlying22 (hval 0 22 v0 rfl rfl)
  obtain ⟨o1, l1, n1, rfl⟩ := okWide_slice Try.underlying23 (hval 1 23 v1 rfl rfl)
  obtain ⟨cs2, rfl, _⟩ := okWide_struct Try.underlying32 (hval 2 32 v2 rfl rfl)
  obtain ⟨m0, hm0⟩ := h0
  obtain ⟨m1, hm1⟩ := h1
  obtain ⟨m2, hm2⟩ := h2
  obtain ⟨dv, dl, e0, hd, hsz⟩ := open_defs K (by simp only; omega) hm0
  obtain ⟨bv, bl, e1, hbd, hbs⟩ := open_bds K (by simp only; omega) hm1
  obtain ⟨s, t, a0, a1, a2, n2, c0, c1, c2, e2, hs, ht, hts⟩ := open_askT K (by simp only; omega) hm2
  simp only [Value.cells] at e0 e1 e2
  injection e0 with e0 _
  injection e1 with e1 _
  subst e0 e1
  obtain rfl : cs2 = #[.bool s.all, .bool s.cmp, .slice a0 s.terms.length c0, .int .i64 t.kind, .string ⟨t.name.toArray⟩, .slice a1 t.args.length c1, .slice a2 n2 c2] := by
    cases cs2
    exact congrArg Array.mk e2
  clear hA0
  have hK2 : K ≤ 2000000 := by omega
  refine (walk dl bl s t (fun d h => Nat.le_trans (hsz d h) hb) (Nat.le_trans hts hb) (fun b h => by have := hbs b h; omega) _ _ a0 a1 a2 n2 c0 c1 c2 W hd hbd hs ht).mono fun e W' ⟨he, bel⟩ => ?_
  subst he
  exact ⟨_, rfl, _, _, _, [], _, [], hW', trodAll_mk1 (shut_bool Try.underlying4 _), (trodAll_cons_mk (Below.trod laidOut (by kernel_rfl) (of_decide_eq_true (by kernel_rfl)) k0 bel lt0) (trodAll_cons_mk (Below.trod laidOut (by kernel_rfl) (of_decide_eq_true (by kernel_rfl)) k1 bel lt1) (trodAll_cons_mk (Below.trod laidOut (by kernel_rfl) (of_decide_eq_true (by kernel_rfl)) k2 bel lt2) trodAll_mk0))), rfl, bel.frame _, fun h => by cases h⟩

set_option maxRecDepth 100000 in
theorem lifted (os : Os) (started : os.Started) (H : Type) (enc : TypeId × Value → H) (F : Stop.Interp) :
    ReturnsInHanded {} Try.checked os 3 .any ((Rows.OpenSpec.upto Rows.setsMoreSpec).pre6 enc Try.prog Try.f3 Rows.setsMoreUptoRow.domain false) (((Rows.OpenSpec.upto Rows.setsMoreSpec).at F).post enc Try.prog Try.f3 false true false false) := by
  refine returnsInHanded_of_cond (C := Try.checked) (s := Rows.OpenSpec.upto Rows.setsMoreSpec) (k := Rows.uptoSmall) rfl own started (by kernel_rfl) Try.func3
    (OpenSpec.witness (enc := enc) (C := Try.checked) (s := Rows.OpenSpec.upto Rows.setsMoreSpec) (k := Rows.uptoSmall) rfl false ⟨#[], #[.slice none 0 0, .slice none 0 0, .agg #[.bool false, .bool false, .slice none 0 0, .int .i64 0, .string ⟨#[]⟩, .slice none 0 0, .slice none 0 0]], []⟩ 8 (by kernel_rfl) (by kernel_rfl) (by kernel_rfl)
      (x := ([.nil, .nil, .agg [.agg [.lit (.bool false), .lit (.bool false), .nil], .agg [.lit (.int .i64 0), .lit (.string []), .nil], .nil]], [], [])) (by kernel_rfl) rfl (by kernel_rfl)) ?_
  intro W base args ds gs before hval hW _ hk _
  exact contract H enc W base args ds gs before hval hW hk

/-- THE STATEMENT -/
theorem proved : Rows.SetsMoreUptoSaid :=
  OpenClaim.holds_of_cond 3 Try.f3 rfl rfl rfl rfl rfl rfl rfl ⟨rfl, rfl, rfl, rfl, rfl⟩ rfl rfl rfl rfl rfl (by kernel_rfl) Try.func3 (by kernel_rfl)
    (of_decide_eq_true (by kernel_rfl)) (by unfold Func.isWrapper; first | (rw [if_pos (by decide +kernel)]; kernel_rfl) | (rw [if_neg (by decide +kernel)]; exact ⟨rfl, rfl⟩))
    (fun os started H enc _ F => lifted os started H enc F)
#print axioms proved
end Go.Proofs.Ythoeengfgkfchaa.setsMore
