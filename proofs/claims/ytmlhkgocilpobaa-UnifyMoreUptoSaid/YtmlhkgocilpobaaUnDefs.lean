import Derived.Test.YtmlhkgocilpobaaUnLight
/-
  demoticlaw12.defs: a document's definitions as the program's: the same list.
-/
namespace Go.Proofs.Ytmlhkgocilpobaa
open Go.RowKit Go.Lib Go.BigFrame
theorem infoDf : (Try.prog.info? 48).map (fun i => (i.zero, i.size, i.bytes)) = some (some (.agg #[.string ⟨#[]⟩, .slice none 0 0, .int .i64 0, .string ⟨#[]⟩, .slice none 0 0, .bool false]), 6, 96) := by kernel_rfl
theorem six_src {P : Program} {tx e' : TypeId} (hk : P.underlying tx = some (.slice e')) (w : World) (u0 u1 u2 u3 u4 u5 : Value) (t : TypeId) (h : ∀ u ∈ [u0, u1, u2, u3, u4, u5], u.oneCell' = true) :
    Src P 6 tx (.slice (some ⟨w.heap.size, 0, none⟩) 1 1) 1 [u0, u1, u2, u3, u4, u5] (w.alloc (.cells #[u0, u1, u2, u3, u4, u5] t)) :=
  Src.ofSlice _ hk _ 1 1 [u0, u1, u2, u3, u4, u5] rfl (fun j u hj => by
    have e : (⟨w.heap.size, 0, none⟩ : Addr).add j = ⟨w.heap.size, j, none⟩ := by unfold Addr.add; split <;> simp_all
    rw [e, cell_at (heap_alloc_at rfl _)]
    exact (List.getElem?_toArray ..).trans hj) h
structure DefsRel (A : Nat → Prop) (ds : List Df) (w wr : World) (v : Value) (i : Nat) : Prop where
  row : RowOf 6 48 IsDf A wr w.heap.size v (ds.take i)
  hx : Ext none' w wr
def DefsPost (A : Nat → Prop) (w : World) (ds : List Df) (e : Ending) (w' : World) : Prop := ∃ u, e = .returned u ∧ IsSl 6 IsDf A w' u ds ∧ Ext none' w w'
set_option maxRecDepth 100000 in
set_option maxHeartbeats 3200000 in
theorem defs_any (ds : List Df) (hl : ds.length ≤ 1000000) (hsz : ∀ d ∈ ds, d.ty.size ≤ bigD ∧ d.params.length ≤ 1000000) (A : Nat → Prop) (v : Value) (w : World) (hv : IsSl 6 IsDf none' w v ds) (hA : ∀ b, A b → b < w.heap.size) : Calls Try.prog 7 #[v] w (DefsPost A w ds) := by
  have HX := hid hv
  obtain ⟨a, cap, rfl, _⟩ := hv
  have HSZ := hid hsz
  have HA := hid hA
  clear hsz hA
  obtain ⟨i0, hi0, hz0, hz1, hz2⟩ := info_parts infoDf
  have I0 := hid hi0
  have I1 := hid hz0
  have I2 := hid hz1
  have I3 := hid hz2
  obtain ⟨s0, hs0, hy0, hy1, hy2⟩ := info_parts infoStr
  have J0 := hid hs0
  have J1 := hid hy0
  have J2 := hid hy1
  have J3 := hid hy2
  clear hi0 hz0 hz1 hz2 hs0 hy0 hy1 hy2
  go_enter Try.func7, Try.ntmps7
  go_wp2_with fail
  go_loopw [3, 4] (fun v z wr => ∃ (i : Nat), z = .int .i64 (i : Nat) ∧ i ≤ ds.length ∧ Hid (DefsRel A ds w wr v i)) (fun _ z _ => ds.length - (RowKit.intOf z).toNat)
  case atStart => exact ⟨0, rfl, by omega, hid ⟨RowOf.nil _ _ _ _ _ _, Ext.refl _ _⟩⟩
  case round =>
    rename_i v
    obtain ⟨i, rfl, hle, R⟩ := hrel
    obtain ⟨cells, own0, hr0⟩ := R.out.row
    have hln : (ds.take i).length = i := by rw [List.length_take, Nat.min_eq_left hle]
    have OW := hid own0
    have HR0 := hid hr0
    rw [hln] at own0
    have hsh := own_slice own0
    obtain ⟨a1, cap1, rfl⟩ := hsh
    have OWI := hid own0
    have HLN := hid hln
    clear own0 hr0 hln
    by_cases hi : i < ds.length
    · obtain ⟨b, off, cs, rfl, hAb, hbw, hcc, hdf⟩ := (HX.out.ext isDf_good R.out.hx fun _ _ h => h.elim).at i hi
      obtain ⟨pv, tv, rfl, hpv, htv⟩ := hdf
      have HP := hid hpv
      have HT := hid htv
      obtain ⟨a2, cap2, rfl, _⟩ := htv
      obtain ⟨a3, cap3, rfl, _⟩ := hpv
      have hmem := List.getElem_mem hi
      have hd1 := (HSZ.out _ hmem).1
      have hd2 := (HSZ.out _ hmem).2
      have HAV : Hid (∀ b, plus A (.slice a1 i cap1) b → b < wr.heap.size) := hid fun b hb => by
        rcases hb with hb | hb
        · exact Nat.lt_of_lt_of_le (HA.out b hb) R.out.hx.size
        · exact (OWI.out.lt b hb).2
      have hcc := hid hcc
      obtain ⟨d, hdd⟩ : ∃ d, ds[i] = d := ⟨_, rfl⟩
      have htk : ds.take (i + 1) = ds.take i ++ [d] := by rw [List.take_add_one, List.getElem?_eq_getElem hi, hdd]; rfl
      have HTK := hid htk
      rw [hdd] at hcc hd1 hd2 HP HT
      clear hdd htk hmem
      have CS := hid fun (W : World) (X : Ext none' wr W) => typ_any d.ty hd1 (plus A (.slice a1 i cap1)) (.agg #[.int .i64 d.ty.kind, .string ⟨d.ty.name.toArray⟩, .slice a2 d.ty.args.length cap2]) W ⟨_, rfl, HT.out.ext isTy_good X fun _ _ h => h.elim⟩ (fun b hb => Nat.lt_of_lt_of_le (HAV.out b hb) X.size)
      have y0 := fun t' : LaterF none' wr => (t'.x.cell (p := ⟨b, off + i * 6, none⟩) hbw (fun h => h)).trans (by simpa using hcc.out 0 _ rfl)
      have y1 := fun t' : LaterF none' wr => (t'.x.cell (p := ⟨b, off + i * 6 + 1, none⟩) hbw (fun h => h)).trans (hcc.out 1 _ rfl)
      have y2 := fun t' : LaterF none' wr => (t'.x.cell (p := ⟨b, off + i * 6 + 2, none⟩) hbw (fun h => h)).trans (hcc.out 2 _ rfl)
      have y3 := fun t' : LaterF none' wr => (t'.x.cell (p := ⟨b, off + i * 6 + 3, none⟩) hbw (fun h => h)).trans (hcc.out 3 _ rfl)
      have y4 := fun t' : LaterF none' wr => (t'.x.cell (p := ⟨b, off + i * 6 + 4, none⟩) hbw (fun h => h)).trans (hcc.out 4 _ rfl)
      have y5 := fun t' : LaterF none' wr => (t'.x.cell (p := ⟨b, off + i * 6 + 5, none⟩) hbw (fun h => h)).trans (hcc.out 5 _ rfl)
      go_upto_region 5 with (fail)
      refine region_tree none' wr [0, 1, 2, 3, 4, 5, 7, 8, 9, 10, 11, 13, 14, 15, 16, 17, 19, 20, 21, 22, 23] (.one 6 true (.one 12 true (.one 18 true (.one 24 true (.one 25 true (.one 26 false (.one 27 false .fin))))))) (by kernel_rfl) (by kernel_rfl) (fun dst v c a w h => by cases dst <;> exact h) (Ext.refl _ _) ?_
      simp only [sel, List.getElem?_cons_succ, List.getElem?_cons_zero]
      repeat (go_big_quiet_step (fail))
      refine wpQuiet_nil ?_
      simp only [wpTree, stepT, sel, List.getElem?_cons_succ, List.getElem?_cons_zero]
      clear y0 y1 y2 y3 y4 y5
      go_wp2_with fail
      have XB := hid ((Ext.refl none' wr).alloc (.cells #[] 9 (0, 0))).drew
      have OB : Hid ((wr.alloc (.cells #[] 9 (0, 0))).drew.ownsRow wr.heap.size 9 1 (.slice (some ⟨wr.heap.size, 0, none⟩) 0 0) 0 []) := hid ⟨rfl, .inr ⟨wr.heap.size, 0, #[], rfl, Nat.le_refl _, heap_alloc_at rfl (.cells #[] 9 (0, 0)), Nat.le_refl _, by unfold maxLen; omega, rfl, rfl⟩⟩
      have SB := hid (str_src (P := Try.prog) Try.underlying23 (HP.out.ext isStr_good XB.out (fun _ _ h => h.elim)))
      have HSZ1 := hid XB.out.size
      refine ⟨In.of XB.out, ?_⟩
      refine wpList_app _ rfl (.tmp 17) (.tmp 22) 23 23 rfl wr.heap.size 9 s0 _ 1 16 Try.underlying23 J0.out J1.out J2.out J3.out rfl _ 0 [] rfl OB.out _ d.params.length _ rfl SB.out ?_ ?_ ?_ ?_
      · unfold maxLen; omega
      · omega
      · exact HSZ1.out
      intro v2 W2 own2 grow2 blk2 _
      have X2 := hid (XB.out.grown grow2 (fun g hg => .inr (OB.out.lt g hg).1))
      have HP2 : Hid (IsStrs (plus A (.slice a1 i cap1)) W2 v2 d.params) := hid (RowOf.sl isStr_good (str_row (l := d.params) (by simpa using own2)) (fun b hb h => by have := HAV.out b h; omega))
      clear own2 grow2 blk2 HSZ1
      refine ⟨In.of X2.out, ?_⟩
      go_wp2_with fail
      refine (CS.out _ X2.out).mono ?_
      rintro e W3 ⟨u, rfl, ⟨xx, rfl, hxx⟩, X3⟩
      have HP3 := hid (HP2.out.ext isStr_good X3 (fun _ _ h => h.elim))
      have X3 := hid (X2.out.trans X3)
      have HT3 := hid hxx
      obtain ⟨a4, cap4, rfl, _⟩ := hxx
      obtain ⟨a5, cap5, rfl, _⟩ := HP3.out
      go_wp2_with fail
      refine ⟨In.of X3.out, ?_⟩
      go_wp2_with fail
      refine ⟨In.of X3.out, ?_⟩
      go_wp2_with fail
      obtain ⟨W4, hW4⟩ : ∃ W4, W4 = W3.alloc (.cells #[.string ⟨d.name.toArray⟩, .slice a5 d.params.length cap5, .int .i64 d.ty.kind, .string ⟨d.ty.name.toArray⟩, .slice a4 d.ty.args.length cap4, .bool d.als] 48) := ⟨_, rfl⟩
      have XD : Hid (Ext none' wr W4) := hid (by rw [hW4]; exact X3.out.alloc _)
      have XE : Hid (Ext none' W3 W4) := hid (by rw [hW4]; exact (Ext.refl _ _).alloc _)
      have S2 : Hid (Src Try.prog 6 29 (.slice (some ⟨W3.heap.size, 0, none⟩) 1 1) 1 [.string ⟨d.name.toArray⟩, .slice a5 d.params.length cap5, .int .i64 d.ty.kind, .string ⟨d.ty.name.toArray⟩, .slice a4 d.ty.args.length cap4, .bool d.als] W4) := hid (by rw [hW4]; exact six_src (P := Try.prog) Try.underlying29 W3 _ _ _ _ _ _ 48 (by intro u hu; simp at hu; rcases hu with rfl | rfl | rfl | rfl | rfl | rfl <;> rfl))
      rw [← hW4]
      clear hW4
      refine ⟨In.of XD.out, ?_⟩
      have O2 := hid (ownsRow_ext OWI.out XD.out (fun _ _ h => h))
      have O2' := hid (ownsRow_ext OW.out XD.out (fun _ _ h => h))
      have HSZ3 := hid (show w.heap.size ≤ W4.heap.size from Nat.le_trans R.out.hx.size XD.out.size)
      refine wpList_app _ rfl (.tmp 11) (.tmp 36) 29 29 rfl w.heap.size 48 i0 _ 6 96 Try.underlying29 I0.out I1.out I2.out I3.out rfl _ i cells rfl O2.out _ 1 _ rfl S2.out ?_ ?_ ?_ ?_
      · unfold maxLen; omega
      · omega
      · exact HSZ3.out
      intro v5 w5 own5 grow5 blk5 _
      have N : Hid (DefsRel A ds w w5 v5 (i + 1)) := hid ⟨by
        rw [HTK.out]
        exact RowOf.snoc isDf_good O2'.out (fun j hj => isDf_good.ext (HR0.out j hj) XD.out fun _ _ h => h.elim) ⟨_, _, rfl, HP3.out.ext isStr_good XE.out fun _ _ h => h.elim, HT3.out.ext isTy_good XE.out fun _ _ h => h.elim⟩ (by rw [HLN.out]; exact own5) grow5 blk5, (R.out.hx.trans XD.out).grown grow5 (fun g hg => .inr (O2.out.lt g hg).1)⟩
      clear own5 grow5 blk5
      go_wp2_with fail
      go_roundw
      case rel => exact ⟨i + 1, by go_num, by omega, N⟩
      case measure => simp [RowKit.intOf]; omega
    · obtain rfl : i = ds.length := by omega
      have hrow := R.out.row
      rw [List.take_length] at hrow
      have HS := hid (hrow.sl isDf_good (fun b hb h => by have := HA.out b h; omega))
      go_wp2_with fail
      go_ret
      exact ⟨_, rfl, HS.out, R.out.hx⟩
end Go.Proofs.Ytmlhkgocilpobaa
