import Derived.Test.YtmlhkgocilpobaaUnMoreP
/-
  demoticlaw12.types: a document's types as the program's, a row of their own.
-/
namespace Go.Proofs.Ytmlhkgocilpobaa
open Go.RowKit Go.Lib Go.BigFrame
structure TypsRel (A : Nat → Prop) (ts : List Ty) (w wr : World) (v : Value) (i : Nat) : Prop where
  row : RowOf 3 33 IsTy A wr w.heap.size v (ts.take i)
  hx : Ext none' w wr
def TypsPost (A : Nat → Prop) (w : World) (ts : List Ty) (e : Ending) (w' : World) : Prop := ∃ u, e = .returned u ∧ RowOf 3 33 IsTy A w' w.heap.size u ts ∧ Ext none' w w'
set_option maxRecDepth 100000 in
set_option maxHeartbeats 3200000 in
theorem types_any (ts : List Ty) (hl : ts.length ≤ 1000000) (hsz : ∀ t ∈ ts, t.size ≤ bigD) (A : Nat → Prop) (v : Value) (w : World) (hv : IsSl 3 IsTy none' w v ts) (hA : ∀ b, A b → b < w.heap.size) : Calls Try.prog 9 #[v] w (TypsPost A w ts) := by
  have HX := hid hv
  obtain ⟨a, cap, rfl, _⟩ := hv
  have HSZ := hid hsz
  have HA := hid hA
  clear hsz hA
  obtain ⟨i0, hi0, hz0, hz1, hz2⟩ := info_parts infoTy
  have I0 := hid hi0
  have I1 := hid hz0
  have I2 := hid hz1
  have I3 := hid hz2
  clear hi0 hz0 hz1 hz2
  go_enter Try.func9, Try.ntmps9
  go_wp2_with fail
  go_loopw [3, 4] (fun v z wr => ∃ (i : Nat), z = .int .i64 (i : Nat) ∧ i ≤ ts.length ∧ Hid (TypsRel A ts w wr v i)) (fun _ z _ => ts.length - (RowKit.intOf z).toNat)
  case atStart => exact ⟨0, rfl, by omega, hid ⟨RowOf.nil _ _ _ _ _ _, Ext.refl _ _⟩⟩
  case round =>
    rename_i v
    obtain ⟨i, rfl, hle, R⟩ := hrel
    obtain ⟨cells, own0, hr0⟩ := R.out.row
    have hln : (ts.take i).length = i := by rw [List.length_take, Nat.min_eq_left hle]
    have OW := hid own0
    have HR0 := hid hr0
    rw [hln] at own0
    have hsh := own_slice own0
    obtain ⟨a1, cap1, rfl⟩ := hsh
    have OWI := hid own0
    have HLN := hid hln
    clear own0 hr0 hln
    by_cases hi : i < ts.length
    · obtain ⟨b, off, cs, rfl, hAb, hbw, hcc, hty⟩ := (HX.out.ext isTy_good R.out.hx fun _ _ h => h.elim).at i hi
      obtain ⟨x', rfl, hx'⟩ := hty.parts
      have HX2 := hid hx'
      obtain ⟨a', cap', rfl, _⟩ := hx'
      have hcc := hid hcc
      have hmem := List.getElem_mem hi
      have hts := HSZ.out _ hmem
      have HAV : Hid (∀ b, plus A (.slice a1 i cap1) b → b < wr.heap.size) := hid fun b hb => by
        rcases hb with hb | hb
        · exact Nat.lt_of_lt_of_le (HA.out b hb) R.out.hx.size
        · exact (OWI.out.lt b hb).2
      have CS := hid (typ_any ts[i] hts (plus A (.slice a1 i cap1)) (.agg #[.int .i64 ts[i].kind, .string ⟨ts[i].name.toArray⟩, .slice a' ts[i].args.length cap']) wr ⟨_, rfl, HX2.out⟩ HAV.out)
      obtain ⟨t, ht⟩ : ∃ t, ts[i] = t := ⟨_, rfl⟩
      have htk : ts.take (i + 1) = ts.take i ++ [t] := by rw [List.take_add_one, List.getElem?_eq_getElem hi, ht]; rfl
      have HTK := hid htk
      rw [ht] at hcc CS
      clear htk hty hts hmem HX2
      clear ht
      have c0 := hcc.out 0 _ rfl
      have c1 := hcc.out 1 _ rfl
      have c2 := hcc.out 2 _ rfl
      simp only [Nat.add_zero] at c0
      go_wp2_with fail
      refine CS.out.mono ?_
      rintro e W2 ⟨u, rfl, ⟨xx, rfl, hxx⟩, X2⟩
      have X2 := hid X2
      have HY := hid hxx
      obtain ⟨a2, cap2, rfl, _⟩ := hxx
      have XD : Hid (Ext none' wr (W2.alloc (.cells #[.int .i64 t.kind, .string ⟨t.name.toArray⟩, .slice a2 t.args.length cap2] 33))) := hid (X2.out.alloc _)
      have XE : Hid (Ext none' W2 (W2.alloc (.cells #[.int .i64 t.kind, .string ⟨t.name.toArray⟩, .slice a2 t.args.length cap2] 33))) := hid ((Ext.refl _ _).alloc _)
      have S2 : Hid (Src Try.prog 3 31 (.slice (some ⟨W2.heap.size, 0, none⟩) 1 1) 1 [.int .i64 t.kind, .string ⟨t.name.toArray⟩, .slice a2 t.args.length cap2] (W2.alloc (.cells #[.int .i64 t.kind, .string ⟨t.name.toArray⟩, .slice a2 t.args.length cap2] 33))) := hid (three_src (P := Try.prog) Try.underlying31 W2 _ _ _ 33 rfl rfl rfl)
      have O2 := hid (ownsRow_ext OWI.out XD.out (fun _ _ h => h))
      have O2' := hid (ownsRow_ext OW.out XD.out (fun _ _ h => h))
      have HSZ3 := hid (show w.heap.size ≤ (W2.alloc (.cells #[.int .i64 t.kind, .string ⟨t.name.toArray⟩, .slice a2 t.args.length cap2] 33)).heap.size from Nat.le_trans R.out.hx.size XD.out.size)
      go_wp2_with (at_builtin; refine wpList_app _ rfl (.tmp 11) (.tmp 17) 31 31 rfl w.heap.size 33 i0 _ 3 48 Try.underlying31 I0.out I1.out I2.out I3.out rfl _ i cells rfl O2.out _ 1 _ rfl S2.out ?_ ?_ ?_ ?_)
      · unfold maxLen; omega
      · omega
      · exact HSZ3.out
      intro v3 w3 own3 grow3 blk3 _
      have N : Hid (TypsRel A ts w w3 v3 (i + 1)) := hid ⟨by
        rw [HTK.out]
        exact RowOf.snoc isTy_good O2'.out (fun j hj => isTy_good.ext (HR0.out j hj) XD.out fun _ _ h => h.elim) (isTy_good.ext (TyV.ty HY.out) XE.out fun _ _ h => h.elim) (by rw [HLN.out]; exact own3) grow3 (by simpa using blk3), (R.out.hx.trans XD.out).grown grow3 (fun g hg => .inr (O2.out.lt g hg).1)⟩
      clear own3 grow3 blk3
      go_wp2_with fail
      go_roundw
      case rel => exact ⟨i + 1, by go_num, by omega, N⟩
      case measure => simp [RowKit.intOf]; omega
    · obtain rfl : i = ts.length := by omega
      have hrow := R.out.row
      rw [List.take_length] at hrow
      have HS := hid hrow
      go_wp2_with fail
      go_ret
      exact ⟨_, rfl, HS.out, R.out.hx⟩
end Go.Proofs.Ytmlhkgocilpobaa
