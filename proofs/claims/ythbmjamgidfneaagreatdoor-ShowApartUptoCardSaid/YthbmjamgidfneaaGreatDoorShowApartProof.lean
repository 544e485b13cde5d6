/-
  ShowApart, its second form, as a tied card: for every input of bulk at most 1048576, the law's function returns true, and each argument reads behind the call as it did before it. The two tables of unicode/utf8 read as the program's text lays them: the card ties that.
  Condition: the bulk of what comes in (the statement's second form). The frame of this text is the kit's shell and its worked proof of a laid row; the walk is this claim's own.
-/
import Derived.Test.YthbmjamgidfneaaGreatDoorRows
import Derived.Test.YthbmjamgidfneaaGreatDoorCards
import Derived.Test.YthbmjamgidfneaaGreatDoorTie
import Derived.WalkKit
import Derived.ProofKit
import Derived.OpenShut
import Derived.ShutString
import Derived.ChangeOld
import Derived.Below
import Derived.Lib.LaidIn
import Derived.Lib.LaidU8T
import Derived.PinnedBridge
import Derived.Deep.DeepHandedRow
import Derived.Deep.DeepWitnessRowRef
import Derived.SevenTiedAt
import Derived.Test.YthbmjamgidfneaaGreatDoorVBa
namespace Go.Proofs.YthbmjamgidfneaaGreatDoor.showApart
open Go.ChangeShapes Go.WideShapes Go.ChangeAt Go.RowKit Go.Shelf Go.Lib
open Go.ChangeMaps (open_string shut_string)
set_option linter.unusedVariables false

theorem own : ownKnob Tryz.prog.godebug = none := by kernel_rfl
theorem laidOut : laidOutB Tryz.prog = true := by kernel_rfl

def u8_ren : Go.Shelf.Ren := ⟨fun n => n, fun | 5 => 5 | 119 => 109 | 138 => 111 | 139 => 112 | n => n, fun | 3 => 0 | 4 => 1 | n => n⟩
theorem u8_types : Go.Proofs.U8Types Tryz.prog u8_ren := { t5 := Tryz.underlying5, t119 := Tryz.underlying109, t138 := Tryz.underlying111, t139 := Tryz.underlying112 }
theorem u8_extra : Go.Proofs.U8Extra Tryz.prog u8_ren := ⟨by kernel_rfl, by kernel_rfl, by kernel_rfl, by kernel_rfl, by kernel_rfl, by kernel_rfl, by kernel_rfl⟩
theorem acc_eq : (Rows.laid_unicode_utf8_acceptRanges : DataW Unit) = acceptData := by kernel_rfl
theorem first_eq : Rows.laid_unicode_utf8_first = firstData := Pinned.utf8First_eq

/-- A world for the witness: the settled one, the two variables holding what their initialisers lay. -/
noncomputable def laidWorld (os : Os) : World :=
  let w0 := World.holding Tryz.prog os ⟨#[], #[], []⟩
  let put (h : Array Obj) (g : Nat) (cs : Array Value) : Array Obj := h.modify g fun
    | .cells _ t frozen => .cells cs t frozen
    | o => o
  let h1 := put w0.heap 0 (Lib.firstTab.map fun z => Value.int .u8 z).toArray
  let h2 := put h1 1 ((List.range 16).flatMap fun i => [Value.int .u8 (Lib.accLo i), Value.int .u8 (Lib.accHi i)]).toArray
  { w0 with heap := h2 }
theorem laid_met (os : Os) (args : Array Value) : laidMet Tryz.prog Rows.showApartUptoRow.laid ((laidWorld os).forCall (fun _ _ => 0) ⟨#[], args, []⟩).memory :=
  (LaidIn.of_run (l := [("unicode/utf8.acceptRanges", Rows.laid_unicode_utf8_acceptRanges), ("unicode/utf8.first", Rows.laid_unicode_utf8_first)]) [0, 1] 8 (by kernel_rfl) (by kernel_rfl) (by kernel_rfl) (by kernel_rfl)).met

abbrev spec : OpenSpec := Rows.OpenSpec.upto Rows.showApartSpec
theorem witness_row (os : Os) {H : Type} (enc : TypeId × Value → H) :
    spec.preRow enc Tryz.prog Tryz.f4 Rows.showApartUptoRow.domain false Rows.showApartUptoRow.laid ((laidWorld os).forCall (fun _ _ => 0) ⟨#[], #[.agg #[.int .i64 0, .string ⟨#[]⟩, .slice none 0 0, .int .i64 0], .agg #[.int .i64 0, .string ⟨#[]⟩, .slice none 0 0, .int .i64 0]], []⟩).memory #[.agg #[.int .i64 0, .string ⟨#[]⟩, .slice none 0 0, .int .i64 0], .agg #[.int .i64 0, .string ⟨#[]⟩, .slice none 0 0, .int .i64 0]] := by
  have hw : (DataW.whole enc Tryz.prog ((laidWorld os).forCall (fun _ _ => 0) ⟨#[], #[.agg #[.int .i64 0, .string ⟨#[]⟩, .slice none 0 0, .int .i64 0], .agg #[.int .i64 0, .string ⟨#[]⟩, .slice none 0 0, .int .i64 0]], []⟩).memory Tryz.f4.params.toList spec.vars false (#[.agg #[.int .i64 0, .string ⟨#[]⟩, .slice none 0 0, .int .i64 0], .agg #[.int .i64 0, .string ⟨#[]⟩, .slice none 0 0, .int .i64 0]] : Array Value).toList 8).map (fun x => (x.1, x.2.1)) =
      some ([.agg [.lit (.int .i64 0), .lit (.string []), .nil, .lit (.int .i64 0)], .agg [.lit (.int .i64 0), .lit (.string []), .nil, .lit (.int .i64 0)]], []) := by kernel_rfl
  obtain ⟨⟨x1, x2, x3⟩, hx, hx1⟩ := Option.map_eq_some_iff.1 hw
  simp only [Prod.mk.injEq] at hx1
  obtain ⟨rfl, rfl⟩ := hx1
  exact OpenSpec.preRow_of_cond 8 hx (by kernel_rfl) (fun k hk => by cases hk; kernel_rfl) (by kernel_rfl) (laid_met os _)

theorem walk (n0 : Nd) (z0 : n0.size ≤ 1048576) (v0 : Value) (n1 : Nd) (z1 : n1.size ≤ 1048576) (v1 : Value) (w : World) (hT : Lib.Utf8Tabs 0 1 w) (hm : MaxL w) (hs : n0.size + n1.size ≤ 1048576) (h0 : NdV none' w n0 v0) (h1 : NdV none' w n1 v1) :
    Calls Tryz.prog 4 #[v0, v1] w fun e w' => e = .returned (.bool true) ∧ Below w.heap.size w w' := by
  exact (law_apart n0 n1 hs v0 v1 w hm h0 h1).mono fun e w' h => h.out

set_option maxRecDepth 100000 in
set_option maxHeartbeats 2000000 in
theorem lifted (os : Os) (started : os.Started) (H : Type) (enc : TypeId × Value → H) (F : Stop.Interp) :
    ReturnsInHanded {} Tryz.checked os 4 .any (spec.preRow enc Tryz.prog Tryz.f4 Rows.showApartUptoRow.domain false Rows.showApartUptoRow.laid) ((spec.at F).post enc Tryz.prog Tryz.f4 false true false false) := by
  refine returnsInHanded_of_row (C := Tryz.checked) (s := spec) own started (by kernel_rfl) Tryz.func4
    (witness_row_atRef (enc := enc) (C := Tryz.checked) false (laidWorld os) #[.agg #[.int .i64 0, .string ⟨#[]⟩, .slice none 0 0, .int .i64 0], .agg #[.int .i64 0, .string ⟨#[]⟩, .slice none 0 0, .int .i64 0]] rfl (by kernel_rfl) (by kernel_rfl) (by kernel_rfl) (witness_row os enc)) ?_
  intro W base args ds gs before hval0 hW _ hcond _ hL hSh _
  have hk : Rows.uptoSmall H (ds ++ gs) = true := hcond _ rfl
  have hval : ∀ (j : Nat) t v, Tryz.f4.params[j]? = some t → args[j]? = some v → Value.okWide Tryz.prog W .any base t v := hval0
  have hW' := hW
  obtain ⟨p, q, hA0, hV, rfl, hfz, hnd⟩ := hW
  have hA : DataW.TrodAll enc Tryz.prog W 0 (fun _ => true) true Tryz.f4.params.toList args.toList ds p := hA0
  rw [Tryz.params4] at hA hval
  obtain ⟨v0, vs0, d0, ds0, p0, q0, hargs, rfl, rfl, h0, r0⟩ := trodAll_cons hA
  obtain ⟨v1, vs1, d1, ds1, p1, q1, rfl, rfl, rfl, h1, r1⟩ := trodAll_cons r0
  obtain ⟨rfl, rfl, rfl⟩ := trodAll_nil r1
  obtain rfl : args = #[v0, v1] := by cases args; simp_all
  obtain ⟨rfl, rfl⟩ := trodVars_none hV
  have hkk : Rows.uptoBulkAll ([d0, d1] ++ []) ≤ 1048576 := of_decide_eq_true hk
  simp only [List.append_nil, Rows.uptoBulkAll] at hkk
  obtain ⟨K, hK⟩ : ∃ K : Nat, 1048576 = K := ⟨_, rfl⟩
  rw [hK] at hkk
  clear hk
  have k0 := h0
  have k1 := h1
  have lt0 : ∀ x ∈ p0, x.block < W.heap.size := by obtain ⟨m, hm⟩ := k0; exact DataW.trod_lt m _ _ _ hm
  have lt1 : ∀ x ∈ p1, x.block < W.heap.size := by obtain ⟨m, hm⟩ := k1; exact DataW.trod_lt m _ _ _ hm
  obtain ⟨cs0, rfl, _⟩ := okWide_struct Tryz.underlying24 (hval 0 24 v0 rfl rfl)
  obtain ⟨cs1, rfl, _⟩ := okWide_struct Tryz.underlying24 (hval 1 24 v1 rfl rfl)
  obtain ⟨m0, hm0⟩ := h0
  obtain ⟨m1, hm1⟩ := h1
  obtain ⟨t0, hty0, hts0⟩ := open_nd K _ _ _ (by simp only; omega) hm0
  obtain ⟨tv0, e0, htv0⟩ := hty0.parts
  simp only [Value.cells] at e0
  obtain rfl : cs0 = #[.int .i64 t0.kind, .string ⟨t0.text.toArray⟩, tv0, .int .i64 t0.pos] := by
    cases cs0
    exact congrArg Array.mk e0
  obtain ⟨t1, hty1, hts1⟩ := open_nd K _ _ _ (by simp only; omega) hm1
  obtain ⟨tv1, e1, htv1⟩ := hty1.parts
  simp only [Value.cells] at e1
  obtain rfl : cs1 = #[.int .i64 t1.kind, .string ⟨t1.text.toArray⟩, tv1, .int .i64 t1.pos] := by
    cases cs1
    exact congrArg Array.mk e1
  clear hA0 hval0
  have r1 : VarReads Tryz.prog W "unicode/utf8.acceptRanges" Rows.laid_unicode_utf8_acceptRanges := Lib.laidMet.reads hL (.head _)
  have r2 : VarReads Tryz.prog W "unicode/utf8.first" Rows.laid_unicode_utf8_first := Lib.laidMet.reads hL (.tail _ (.head _))
  rw [acc_eq] at r1
  rw [first_eq] at r2
  have hT : Lib.Utf8Tabs 0 1 W := Go.Proofs.utf8Tabs_of_readsT u8_types u8_extra r2 r1
  refine (walk t0 (by rw [hK]; simp only at hts0; omega) _ t1 (by rw [hK]; simp only at hts1; omega) _ W hT (maxL_of_shaped hSh) (by rw [hK]; simp only at hts0 hts1; omega) ⟨_, rfl, htv0⟩ ⟨_, rfl, htv1⟩).mono fun e W' ⟨he, bel⟩ => ?_
  subst he
  exact ⟨_, rfl, _, _, _, [], _, [], hW', trodAll_mk1 (shut_bool Tryz.underlying4 _), (trodAll_cons_mk (Below.trod laidOut (by kernel_rfl) (of_decide_eq_true (by kernel_rfl)) k0 bel lt0) (trodAll_cons_mk (Below.trod laidOut (by kernel_rfl) (of_decide_eq_true (by kernel_rfl)) k1 bel lt1) trodAll_mk0)), rfl, bel.frame _, fun h => by cases h⟩

theorem over : Rows.showApartUptoRow.holds Tryz.pinned (Rows.OpenSpec.upto Rows.showApartSpec) :=
  OpenClaim.holds_of_cond 4 Tryz.f4 rfl rfl rfl rfl rfl rfl rfl ⟨rfl, rfl, rfl, rfl, rfl⟩ rfl rfl rfl rfl rfl (by kernel_rfl) Tryz.func4 (by kernel_rfl)
    (of_decide_eq_true (by kernel_rfl)) (by unfold Func.isWrapper; first | (rw [if_pos (by decide +kernel)]; kernel_rfl) | (rw [if_neg (by decide +kernel)]; exact ⟨rfl, rfl⟩))
    (fun os started H enc _ F0 => by rw [OpenClaim.pre_eq_preRow]; exact lifted os started H enc F0)

/-- The tied card. -/
theorem proved : Rows.ShowApartUptoCardSaid :=
  Claim7.holds_tied_plain_at .later [] [.data, .pinned] true (true, "de56db7c69249b512b0647c17f0b79e5f6d579af47fbbaca847b1eff37141903") true
    over (fun _ h => by cases h) (by kernel_rfl) (fun _ h => by cases h) showApartUpto_row_tie rfl ⟨rfl, rfl⟩ (by kernel_rfl) rfl
    (fun f fn hf hfn => by
      obtain rfl : f = 4 := Option.some.inj ((show Tryz.prog.funcNamed "demotic/demoticlaw07.ShowApart" = some 4 by kernel_rfl).symm.trans hf) |>.symm
      obtain rfl : fn = Tryz.f4 := (Option.some.inj (Tryz.func4.symm.trans hfn)).symm
      exact ⟨by kernel_rfl, fun j t ht => by
        rw [Tryz.params4] at ht
        rcases j with _ | j
        · have h3 : t = 24 := by simpa using ht.symm
          subst h3
          exact (show Tryz.prog.wantsStandIn 24 = false by kernel_rfl)
        · rcases j with _ | j
          · have h3 : t = 24 := by simpa using ht.symm
            subst h3
            exact (show Tryz.prog.wantsStandIn 24 = false by kernel_rfl)
          · simp at ht⟩)
    (by kernel_rfl)
end Go.Proofs.YthbmjamgidfneaaGreatDoor.showApart
