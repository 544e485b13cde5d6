import Derived.Test.YthoeengfgkfchaaSeDefs
/-
  demoticlaw11.bounds: a document's constraints as the program's: the same list.
-/
namespace Go.Proofs.Ythoeengfgkfchaa
open Go.RowKit Go.Lib Go.BigFrame
theorem infoBd : (Try.prog.info? 76).map (fun i => (i.zero, i.size, i.bytes)) = some (some (.agg #[.string ⟨#[]⟩, .bool false, .bool false, .slice none 0 0]), 4, 48) := by kernel_rfl
theorem four_src {P : Program} {tx e' : TypeId} (hk : P.underlying tx = some (.slice e')) (w : World) (u0 u1 u2 u3 : Value) (t : TypeId) (h : ∀ u ∈ [u0, u1, u2, u3], u.oneCell' = true) :
    Src P 4 tx (.slice (some ⟨w.heap.size, 0, none⟩) 1 1) 1 [u0, u1, u2, u3] (w.alloc (.cells #[u0, u1, u2, u3] t)) :=
  Src.ofSlice _ hk _ 1 1 [u0, u1, u2, u3] rfl (fun j u hj => by
    have e : (⟨w.heap.size, 0, none⟩ : Addr).add j = ⟨w.heap.size, j, none⟩ := by unfold Addr.add; split <;> simp_all
    rw [e, cell_at (heap_alloc_at rfl _)]
    exact (List.getElem?_toArray ..).trans hj) h
structure BdsRel (A : Nat → Prop) (ds : List Bd) (w wr : World) (v : Value) (i : Nat) : Prop where
  row : RowOf 4 76 IsBd A wr w.heap.size v (ds.take i)
  hx : Ext none' w wr
def BdsPost (A : Nat → Prop) (w : World) (ds : List Bd) (e : Ending) (w' : World) : Prop := ∃ u, e = .returned u ∧ IsSl 4 IsBd A w' u ds ∧ Ext none' w w'
set_option maxRecDepth 100000 in
set_option maxHeartbeats 3200000 in
theorem bounds_any (ds : List Bd) (hl : ds.length ≤ 1000000) (hsz : ∀ d ∈ ds, d.set.terms.length ≤ 1000000) (A : Nat → Prop) (v : Value) (w : World) (hv : IsSl 4 IsBd none' w v ds) (hA : ∀ b, A b → b < w.heap.size) : Calls Try.prog 10 #[v] w (BdsPost A w ds) := by
  have HX := hid hv
  obtain ⟨a, cap, rfl, _⟩ := hv
  have HSZ := hid hsz
  have HA := hid hA
  clear hsz hA
  obtain ⟨i0, hi0, hz0, hz1, hz2⟩ := info_parts infoBd
  have I0 := hid hi0
  have I1 := hid hz0
  have I2 := hid hz1
  have I3 := hid hz2
  clear hi0 hz0 hz1 hz2
  go_enter Try.func10, Try.ntmps10
  go_wp2_with fail
  go_loopw [3, 4] (fun v z wr => ∃ (i : Nat), z = .int .i64 (i : Nat) ∧ i ≤ ds.length ∧ Hid (BdsRel A ds w wr v i)) (fun _ z _ => ds.length - (RowKit.intOf z).toNat)
  case atStart => exact ⟨0, rfl, by omega, hid ⟨RowOf.nil _ _ _ _ _ _, Ext.refl _ _⟩⟩
  case round =>
    rename_i v
    obtain ⟨i, rfl, hle, R⟩ := hrel
    obtain ⟨cells, own0, hr0⟩ := R.out.row
    have hln : (ds.take i).length = i := by rw [List.length_take, Nat.min_eq_left hle]
    have OW := hid own0
    have HR0 := hid hr0
    rw [hln] at own0
    have hsh := own_slice own0
    obtain ⟨a1, cap1, rfl⟩ := hsh
    have OWI := hid own0
    have HLN := hid hln
    clear own0 hr0 hln
    by_cases hi : i < ds.length
    · obtain ⟨b, off, cs, rfl, hAb, hbw, hcc, hdf⟩ := (HX.out.ext isBd_good R.out.hx fun _ _ h => h.elim).at i hi
      obtain ⟨tv, rfl, htv⟩ := hdf
      have HT := hid htv
      obtain ⟨a2, cap2, rfl, _⟩ := htv
      have hmem := List.getElem_mem hi
      have hd1 := HSZ.out _ hmem
      have HAV : Hid (∀ b, plus A (.slice a1 i cap1) b → b < wr.heap.size) := hid fun b hb => by
        rcases hb with hb | hb
        · exact Nat.lt_of_lt_of_le (HA.out b hb) R.out.hx.size
        · exact (OWI.out.lt b hb).2
      have hcc := hid hcc
      obtain ⟨d, hdd⟩ : ∃ d, ds[i] = d := ⟨_, rfl⟩
      have htk : ds.take (i + 1) = ds.take i ++ [d] := by rw [List.take_add_one, List.getElem?_eq_getElem hi, hdd]; rfl
      have HTK := hid htk
      rw [hdd] at hcc hd1 HT
      clear hdd htk hmem
      have CS := hid fun (W : World) (X : Ext none' wr W) => lof_any d.set hd1 (plus A (.slice a1 i cap1)) (.agg #[.bool d.set.all, .bool d.set.cmp, .slice a2 d.set.terms.length cap2]) W ⟨_, rfl, HT.out.ext isTm_good X fun _ _ h => h.elim⟩ (fun b hb => Nat.lt_of_lt_of_le (HAV.out b hb) X.size)
      have y0 := fun t' : LaterF none' wr => (t'.x.cell (p := ⟨b, off + i * 4, none⟩) hbw (fun h => h)).trans (by simpa using hcc.out 0 _ rfl)
      have y1 := fun t' : LaterF none' wr => (t'.x.cell (p := ⟨b, off + i * 4 + 1, none⟩) hbw (fun h => h)).trans (hcc.out 1 _ rfl)
      have y2 := fun t' : LaterF none' wr => (t'.x.cell (p := ⟨b, off + i * 4 + 2, none⟩) hbw (fun h => h)).trans (hcc.out 2 _ rfl)
      have y3 := fun t' : LaterF none' wr => (t'.x.cell (p := ⟨b, off + i * 4 + 3, none⟩) hbw (fun h => h)).trans (hcc.out 3 _ rfl)
      go_upto_region 5 with (fail)
      refine region_tree none' wr [0, 1, 2, 3, 4, 5, 6, 7, 8, 9, 10] (.one 11 true (.one 12 true (.one 13 true (.one 14 false (.one 15 false .fin))))) (by kernel_rfl) (by kernel_rfl) (fun dst v c a w h => by cases dst <;> exact h) (Ext.refl _ _) ?_
      simp only [sel, List.getElem?_cons_succ, List.getElem?_cons_zero]
      repeat (go_big_quiet_step (fail))
      refine wpQuiet_nil ?_
      simp only [wpTree, stepT, sel, List.getElem?_cons_succ, List.getElem?_cons_zero]
      clear y0 y1 y2 y3
      go_wp2_with fail
      refine (CS.out _ (Ext.refl none' wr).drew).mono ?_
      rintro e W3 ⟨u, rfl, ⟨xx, rfl, hxx⟩, X3⟩
      have X3 := hid ((Ext.refl none' wr).drew.trans X3)
      have HT3 := hid hxx
      obtain ⟨a4, cap4, rfl, _⟩ := hxx
      go_wp2_with fail
      refine ⟨In.of X3.out, ?_⟩
      go_wp2_with fail
      refine ⟨In.of X3.out, ?_⟩
      go_wp2_with fail
      obtain ⟨W4, hW4⟩ : ∃ W4, W4 = W3.alloc (.cells #[.string ⟨d.name.toArray⟩, .bool d.set.all, .bool d.set.cmp, .slice a4 d.set.terms.length cap4] 76) := ⟨_, rfl⟩
      have XD : Hid (Ext none' wr W4) := hid (by rw [hW4]; exact X3.out.alloc _)
      have XE : Hid (Ext none' W3 W4) := hid (by rw [hW4]; exact (Ext.refl _ _).alloc _)
      have S2 : Hid (Src Try.prog 4 37 (.slice (some ⟨W3.heap.size, 0, none⟩) 1 1) 1 [.string ⟨d.name.toArray⟩, .bool d.set.all, .bool d.set.cmp, .slice a4 d.set.terms.length cap4] W4) := hid (by rw [hW4]; exact four_src (P := Try.prog) Try.underlying37 W3 _ _ _ _ 76 (by intro u hu; simp at hu; rcases hu with rfl | rfl | rfl | rfl <;> rfl))
      rw [← hW4]
      clear hW4
      refine ⟨In.of XD.out, ?_⟩
      have O2 := hid (ownsRow_ext OWI.out XD.out (fun _ _ h => h))
      have O2' := hid (ownsRow_ext OW.out XD.out (fun _ _ h => h))
      have HSZ3 := hid (show w.heap.size ≤ W4.heap.size from Nat.le_trans R.out.hx.size XD.out.size)
      refine wpList_app _ rfl (.tmp 11) (.tmp 24) 37 37 rfl w.heap.size 76 i0 _ 4 48 Try.underlying37 I0.out I1.out I2.out I3.out rfl _ i cells rfl O2.out _ 1 _ rfl S2.out ?_ ?_ ?_ ?_
      · unfold maxLen; omega
      · omega
      · exact HSZ3.out
      intro v5 w5 own5 grow5 blk5 _
      have N : Hid (BdsRel A ds w w5 v5 (i + 1)) := hid ⟨by
        rw [HTK.out]
        exact RowOf.snoc isBd_good O2'.out (fun j hj => isBd_good.ext (HR0.out j hj) XD.out fun _ _ h => h.elim) ⟨_, rfl, HT3.out.ext isTm_good XE.out fun _ _ h => h.elim⟩ (by rw [HLN.out]; exact own5) grow5 blk5, (R.out.hx.trans XD.out).grown grow5 (fun g hg => .inr (O2.out.lt g hg).1)⟩
      clear own5 grow5 blk5
      go_wp2_with fail
      go_roundw
      case rel => exact ⟨i + 1, by go_num, by omega, N⟩
      case measure => simp [RowKit.intOf]; omega
    · obtain rfl : i = ds.length := by omega
      have hrow := R.out.row
      rw [List.take_length] at hrow
      have HS := hid (hrow.sl isBd_good (fun b hb h => by have := HA.out b h; omega))
      go_wp2_with fail
      go_ret
      exact ⟨_, rfl, HS.out, R.out.hx⟩
end Go.Proofs.Ythoeengfgkfchaa
