/-
  SetsOf: for every input of bulk at most 1048576, the law's function returns true, and its arguments read behind the call as they did before it.
  Condition: the bulk of what comes in (the statement's second form).
  The frame of this text is the kit's shell; the walk is this claim's own.
-/
import Derived.Test.YthoeengfgkfchaaRows
import Derived.WalkKit
import Derived.ProofKit
import Derived.OpenShut
import Derived.ShutString
import Derived.JoinedCond
import Derived.Below
import Derived.Test.YthoeengfgkfchaaSeOfLaw
import Derived.Test.YthoeengfgkfchaaOpenBd
import Derived.Test.YthoeengfgkfchaaOpenNd
namespace Go.Proofs.Ythoeengfgkfchaa.setsOf
open Go.ChangeShapes Go.WideShapes Go.ChangeAt Go.RowKit
open Go.ChangeMaps (open_string shut_string)
set_option linter.unusedVariables false

theorem own : ownKnob Try.prog.godebug = none := by kernel_rfl
theorem laidOut : laidOutB Try.prog = true := by kernel_rfl

theorem walk (n : Nd) (bs : List Bd) (name : List UInt8) (hsz : n.size ≤ bigD) (hbs : ∀ b ∈ bs, b.set.terms.length ≤ 1000000) (v bv : Value) (w : World) (hv : NdV none' w n v) (hb : IsSl 4 IsBd none' w bv bs) :
    Calls Try.prog 6 #[v, bv, .string ⟨name.toArray⟩] w fun e w' => e = .returned (.bool true) ∧ Below w.heap.size w w' := by
  by_cases h : 200 < sizeD 1000 n ∨ 20 < bs.length
  · exact (law_of_true n bs name hsz v bv w hv hb h).mono fun e w' h => ⟨h.1, h.2.below (Nat.le_refl _) fun _ _ h => h⟩
  · exact (law_of n bs name hsz hbs v bv w hv hb (by omega) (by omega)).mono fun e w' h => ⟨h.1, h.2.below (Nat.le_refl _) fun _ _ h => h⟩

set_option maxRecDepth 100000 in
theorem contract (H : Type) (enc : TypeId × Value → H) (W : World) (base : Nat) (args : Array Value) (ds gs : List (DataW H)) (before : List MemPlace)
    (hval : ∀ (j : Nat) t v, Try.f6.params[j]? = some t → args[j]? = some v → Value.okWide Try.prog W .any base t v)
    (hW : DataW.Whole enc Try.prog Try.f6.params.toList Rows.setsOfSpec.vars false W args.toList ds gs before) (hk : Rows.uptoSmall H (ds ++ gs) = true) :
    Calls Try.prog 6 args W fun e W' => ∃ v, e = .returned v ∧ Rows.setsOfSpec.post enc Try.prog Try.f6 false true false false W args v W' := by
  have hW' := hW
  obtain ⟨p, q, hA0, hV, rfl, hfz, hnd⟩ := hW
  have hA : DataW.TrodAll enc Try.prog W 0 (fun _ => true) true Try.f6.params.toList args.toList ds p := hA0
  rw [Try.params6] at hA hval
  obtain ⟨v0, vs0, d0, ds0, p0, q0, hargs, rfl, rfl, h0, r0⟩ := trodAll_cons hA
  obtain ⟨v1, vs1, d1, ds1, p1, q1, rfl, rfl, rfl, h1, r1⟩ := trodAll_cons r0
  obtain ⟨v2, vs2, d2, ds2, p2, q2, rfl, rfl, rfl, h2, r2⟩ := trodAll_cons r1
  obtain ⟨rfl, rfl, rfl⟩ := trodAll_nil r2
  obtain rfl : args = #[v0, v1, v2] := by cases args; simp_all
  obtain ⟨rfl, rfl⟩ := trodVars_none hV
  have hkk : Rows.uptoBulkAll ([d0, d1, d2] ++ []) ≤ 1048576 := of_decide_eq_true hk
  simp only [List.append_nil, Rows.uptoBulkAll] at hkk
  have hb : 1048576 ≤ bigD := by unfold bigD; omega
  obtain ⟨K, hK⟩ : ∃ K : Nat, 1048576 = K := ⟨_, rfl⟩
  rw [hK] at hkk hb
  clear hk
  have k0 := h0
  have k1 := h1
  have k2 := h2
  have lt0 : ∀ x ∈ p0, x.block < W.heap.size := by obtain ⟨m, hm⟩ := k0; exact DataW.trod_lt m _ _ _ hm
  have lt1 : ∀ x ∈ p1, x.block < W.heap.size := by obtain ⟨m, hm⟩ := k1; exact DataW.trod_lt m _ _ _ hm
  have lt2 : ∀ x ∈ p2, x.block < W.heap.size := by obtain ⟨m, hm⟩ := k2; exact DataW.trod_lt m _ _ _ hm
  obtain ⟨cs0, rfl, _⟩ := okWide_struct Try.underlying59 (hval 0 59 v0 rfl rfl)
  obtain ⟨o1, l1, n1, rfl⟩ := okWide_slice Try.underlying23 (hval 1 23 v1 rfl rfl)
  obtain ⟨nm, rfl⟩ := okWide_string Try.underlying9 (hval 2 9 v2 rfl rfl)
  obtain ⟨m0, hm0⟩ := h0
  obtain ⟨m1, hm1⟩ := h1
  obtain ⟨t, hnd, hts⟩ := open_nd K _ _ _ (by simp only; omega) hm0
  obtain ⟨kv, e0, hkv⟩ := hnd.parts
  obtain ⟨bv, bl, e1, hbd, hbs⟩ := open_bds K (by simp only; omega) hm1
  simp only [Value.cells] at e0 e1
  injection e1 with e1 _
  subst e1
  obtain rfl : cs0 = #[.int .i64 t.kind, .string ⟨t.text.toArray⟩, kv, .int .i64 t.pos] := by
    cases cs0
    exact congrArg Array.mk e0
  clear hA0
  have hK2 : K ≤ 2000000 := by omega
  have hnm : nm = ⟨nm.data.toList.toArray⟩ := by simp
  rw [hnm]
  refine (walk t bl nm.data.toList (by simp only at hts; omega) (fun b h => by have := hbs b h; omega) _ _ W ⟨_, rfl, hkv⟩ hbd).mono fun e W' ⟨he, bel⟩ => ?_
  subst he
  rw [← hnm]
  exact ⟨_, rfl, _, _, _, [], _, [], hW', trodAll_mk1 (shut_bool Try.underlying4 _), (trodAll_cons_mk (Below.trod laidOut (by kernel_rfl) (of_decide_eq_true (by kernel_rfl)) k0 bel lt0) (trodAll_cons_mk (Below.trod laidOut (by kernel_rfl) (of_decide_eq_true (by kernel_rfl)) k1 bel lt1) (trodAll_cons_mk (Below.trod laidOut (by kernel_rfl) (of_decide_eq_true (by kernel_rfl)) k2 bel lt2) trodAll_mk0))), rfl, bel.frame _, fun h => by cases h⟩

set_option maxRecDepth 100000 in
theorem lifted (os : Os) (started : os.Started) (H : Type) (enc : TypeId × Value → H) (F : Stop.Interp) :
    ReturnsInHanded {} Try.checked os 6 .any ((Rows.OpenSpec.upto Rows.setsOfSpec).pre6 enc Try.prog Try.f6 Rows.setsOfUptoRow.domain false) (((Rows.OpenSpec.upto Rows.setsOfSpec).at F).post enc Try.prog Try.f6 false true false false) := by
  refine returnsInHanded_of_cond (C := Try.checked) (s := Rows.OpenSpec.upto Rows.setsOfSpec) (k := Rows.uptoSmall) rfl own started (by kernel_rfl) Try.func6
    (OpenSpec.witness (enc := enc) (C := Try.checked) (s := Rows.OpenSpec.upto Rows.setsOfSpec) (k := Rows.uptoSmall) rfl false ⟨#[], #[.agg #[.int .i64 0, .string ⟨#[]⟩, .slice none 0 0, .int .i64 0], .slice none 0 0, .string ⟨#[]⟩], []⟩ 8 (by kernel_rfl) (by kernel_rfl) (by kernel_rfl)
      (x := ([.agg [.lit (.int .i64 0), .lit (.string []), .nil, .lit (.int .i64 0)], .nil, .lit (.string [])], [], [])) (by kernel_rfl) rfl (by kernel_rfl)) ?_
  intro W base args ds gs before hval hW _ hk _
  exact contract H enc W base args ds gs before hval hW hk

/-- THE STATEMENT -/
theorem proved : Rows.SetsOfUptoSaid :=
  OpenClaim.holds_of_cond 6 Try.f6 rfl rfl rfl rfl rfl rfl rfl ⟨rfl, rfl, rfl, rfl, rfl⟩ rfl rfl rfl rfl rfl (by kernel_rfl) Try.func6 (by kernel_rfl)
    (of_decide_eq_true (by kernel_rfl)) (by unfold Func.isWrapper; first | (rw [if_pos (by decide +kernel)]; kernel_rfl) | (rw [if_neg (by decide +kernel)]; exact ⟨rfl, rfl⟩))
    (fun os started H enc _ F => lifted os started H enc F)
#print axioms proved
end Go.Proofs.Ythoeengfgkfchaa.setsOf
