import Derived.Test.YtbhpmmofgdppdaaGreatDoorZAv
import Derived.Test.YtbhpmmofgdppdaaGreatDoorZAh
import Derived.Test.YtbhpmmofgdppdaaGreatDoorZAc
import Derived.Test.YtbhpmmofgdppdaaGreatDoorProg
import Derived.Deep.Slices
import Derived.ChangeMaps5
import Derived.Test.YtbhpmmofgdppdaaGreatDoorRows
import Derived.Deep.Strs
import Derived.Lib.SmallJoins
/-
  demoticlaw10.light: are definitions few, and small?
-/
namespace Go.Proofs.YtbhpmmofgdppdaaGreatDoor
open Go.RowKit Go.Lib Go.BigFrame
def smallP (d : Df) : Bool := decide (d.ty.size ≤ 20) && decide (d.params.length ≤ 10)
def lightP (ds : List Df) : Bool := decide (ds.length ≤ 20) && ds.all smallP
set_option maxRecDepth 100000 in
set_option maxHeartbeats 3200000 in
theorem light_any (ds : List Df) (hsz : ∀ d ∈ ds, d.ty.size ≤ bigD) (v : Value) (w : World) (hv : IsSl 6 IsDf none' w v ds) : Calls Tryz.prog 9 #[v] w (BoolP (lightP ds) w) := by
  have HX := hid hv
  obtain ⟨a, cap, rfl, _⟩ := hv
  by_cases hl : 20 < ds.length
  · have q1 : decide (20 < (ds.length : Int)) = true := decide_eq_true (by omega)
    have e1 : Hid (lightP ds = false) := hid (by unfold lightP; rw [decide_eq_false (by omega)]; rfl)
    rw [e1.out]
    go_enter Tryz.func9, Tryz.ntmps9
    go_wp2_with fail
    go_ret
    exact ⟨rfl, Ext.refl _ _⟩
  · have q1 : decide (20 < (ds.length : Int)) = false := decide_eq_false (by omega)
    have hl' : ds.length ≤ 20 := by omega
    have e1 : Hid (lightP ds = ds.all smallP) := hid (by unfold lightP; rw [decide_eq_true hl']; rfl)
    rw [e1.out]
    have HSZ := hid hsz
    obtain ⟨r, hr⟩ : ∃ r, r = ds.all smallP := ⟨_, rfl⟩
    have HR := hid hr
    rw [← hr]
    clear hsz hl e1 hr
    go_enter Tryz.func9, Tryz.ntmps9
    go_wp2_with fail
    go_loopw [3] (fun z wr => ∃ (i : Nat), z = .int .i64 (i : Nat) ∧ i ≤ ds.length ∧ Hid ((ds.take i).all smallP = true) ∧ Hid (Ext none' w wr)) (fun z _ => ds.length - (RowKit.intOf z).toNat)
    case atStart => exact ⟨0, rfl, by omega, hid rfl, hid (Ext.refl _ _)⟩
    case round =>
      obtain ⟨i, rfl, hle, HA, X⟩ := hrel
      by_cases hi : i < ds.length
      · obtain ⟨b, off, cs, rfl, hAb, hbw, hcc, hdf⟩ := (HX.out.ext isDf_good X.out fun _ _ h => h.elim).at i hi
        obtain ⟨pv, tv, rfl, hpv, htv⟩ := hdf
        have c1 := hcc 1 _ rfl
        have c2 := hcc 2 _ rfl
        have c3 := hcc 3 _ rfl
        have c4 := hcc 4 _ rfl
        have hmem := List.getElem_mem hi
        have CS := hid (rsize_any ds[i].ty (HSZ.out _ hmem) none' (.agg #[.int .i64 ds[i].ty.kind, .string ⟨ds[i].ty.name.toArray⟩, tv]) wr ⟨_, rfl, htv⟩)
        have htk : ds.take (i + 1) = ds.take i ++ [ds[i]] := by rw [List.take_add_one, List.getElem?_eq_getElem hi]; rfl
        have hall : ds.all smallP = true → smallP ds[i] = true := fun h => List.all_eq_true.1 h _ hmem
        have hbd : ds[i].ty.size ≤ 20000000000 := HSZ.out _ hmem
        have hd : smallP ds[i] = (decide (ds[i].ty.size ≤ 20) && decide (ds[i].params.length ≤ 10)) := rfl
        obtain ⟨a2, cap2, rfl, _⟩ := htv
        obtain ⟨a3, cap3, rfl, _⟩ := hpv
        have k1' : ∀ t : LaterF none' wr, t.w.cell? ⟨b, off + i * 6 + 1, none⟩ = some (.slice a3 ds[i].params.length cap3) := fun t => (t.x.cell (p := ⟨b, off + i * 6 + 1, none⟩) hbw (fun h => h)).trans c1
        have HALL := hid hall
        have HTK := hid htk
        obtain ⟨d, hdd⟩ : ∃ d, ds[i] = d := ⟨_, rfl⟩
        rw [hdd] at c1 c2 c3 c4 CS HALL HTK hbd hd
        simp only [hdd] at k1'
        have hk1 := hid k1'
        have HTK1 : Hid ((ds.take (i + 1)).all smallP = smallP d) := hid (by rw [HTK.out, List.all_append, HA.out]; simp)
        obtain ⟨p, hp⟩ : ∃ p, d.ty.size = p := ⟨_, rfl⟩
        obtain ⟨m, hm⟩ : ∃ m, d.params.length = m := ⟨_, rfl⟩
        rw [hp] at CS hd hbd
        rw [hm] at hd c1 hk1
        have HD := hid hd
        clear hcc hmem htk hall hdd k1' hd hp hm
        by_cases h1 : p ≤ 20
        · have q2 : decide (20 < (p : Int)) = false := decide_eq_false (by omega)
          by_cases h2 : m ≤ 10
          · have q3 : decide (10 < (m : Int)) = false := decide_eq_false (by omega)
            have e2 : Hid (smallP d = true) := hid (by rw [HD.out, decide_eq_true h1, decide_eq_true h2]; rfl)
            go_wp2_with fail
            refine CS.out.mono ?_
            rintro e w2 ⟨rfl, X2⟩
            have c1 := hk1.out ⟨w2, X2⟩
            simp only at c1
            have X2 := hid (X.out.trans X2)
            go_wp2_with fail
            go_roundw
            case rel => exact ⟨i + 1, by go_num, by omega, hid (by rw [HTK1.out, e2.out]), X2⟩
            case measure => simp [RowKit.intOf]; omega
          · have q3 : decide (10 < (m : Int)) = true := decide_eq_true (by omega)
            have e2 : Hid (smallP d = false) := hid (by rw [HD.out, decide_eq_true h1, decide_eq_false h2]; rfl)
            go_wp2_with fail
            refine CS.out.mono ?_
            rintro e w2 ⟨rfl, X2⟩
            have c1 := hk1.out ⟨w2, X2⟩
            simp only at c1
            have X2 := hid (X.out.trans X2)
            go_wp2_with fail
            go_ret
            refine ⟨?_, X2.out⟩
            cases r with
            | false => rfl
            | true => have := HALL.out HR.out.symm; rw [e2.out] at this; cases this
        · have q2 : decide (20 < (p : Int)) = true := decide_eq_true (by omega)
          have e2 : Hid (smallP d = false) := hid (by rw [HD.out, decide_eq_false h1]; rfl)
          go_wp2_with fail
          refine CS.out.mono ?_
          rintro e w2 ⟨rfl, X2⟩
          have X2 := hid (X.out.trans X2)
          go_wp2_with fail
          go_ret
          refine ⟨?_, X2.out⟩
          cases r with
          | false => rfl
          | true => have := HALL.out HR.out.symm; rw [e2.out] at this; cases this
      · obtain rfl : i = ds.length := by omega
        have e1 : Hid (r = true) := hid (by rw [HR.out, ← HA.out, List.take_length])
        go_wp2_with fail
        go_ret
        exact ⟨by rw [e1.out]; rfl, X.out⟩
end Go.Proofs.YtbhpmmofgdppdaaGreatDoor
/-
  demoticlaw10.defs: a document's definitions as the program's: the same list.
-/
namespace Go.Proofs.YtbhpmmofgdppdaaGreatDoor
open Go.RowKit Go.Lib Go.BigFrame
theorem infoDf : (Tryz.prog.info? 61).map (fun i => (i.zero, i.size, i.bytes)) = some (some (.agg #[.string ⟨#[]⟩, .slice none 0 0, .int .i64 0, .string ⟨#[]⟩, .slice none 0 0, .bool false]), 6, 96) := by kernel_rfl
theorem six_src {P : Program} {tx e' : TypeId} (hk : P.underlying tx = some (.slice e')) (w : World) (u0 u1 u2 u3 u4 u5 : Value) (t : TypeId) (h : ∀ u ∈ [u0, u1, u2, u3, u4, u5], u.oneCell' = true) :
    Src P 6 tx (.slice (some ⟨w.heap.size, 0, none⟩) 1 1) 1 [u0, u1, u2, u3, u4, u5] (w.alloc (.cells #[u0, u1, u2, u3, u4, u5] t)) :=
  Src.ofSlice _ hk _ 1 1 [u0, u1, u2, u3, u4, u5] rfl (fun j u hj => by
    have e : (⟨w.heap.size, 0, none⟩ : Addr).add j = ⟨w.heap.size, j, none⟩ := by unfold Addr.add; split <;> simp_all
    rw [e, cell_at (heap_alloc_at rfl _)]
    exact (List.getElem?_toArray ..).trans hj) h
structure DefsRel (A : Nat → Prop) (ds : List Df) (w wr : World) (v : Value) (i : Nat) : Prop where
  row : RowOf 6 61 IsDf A wr w.heap.size v (ds.take i)
  hx : Ext none' w wr
def DefsPost (A : Nat → Prop) (w : World) (ds : List Df) (e : Ending) (w' : World) : Prop := ∃ u, e = .returned u ∧ IsSl 6 IsDf A w' u ds ∧ Ext none' w w'
set_option maxRecDepth 100000 in
set_option maxHeartbeats 3200000 in
theorem defs_any (ds : List Df) (hl : ds.length ≤ 1000000) (hsz : ∀ d ∈ ds, d.ty.size ≤ bigD ∧ d.params.length ≤ 1000000) (A : Nat → Prop) (v : Value) (w : World) (hv : IsSl 6 IsDf none' w v ds) (hA : ∀ b, A b → b < w.heap.size) : Calls Tryz.prog 11 #[v] w (DefsPost A w ds) := by
  have HX := hid hv
  obtain ⟨a, cap, rfl, _⟩ := hv
  have HSZ := hid hsz
  have HA := hid hA
  clear hsz hA
  obtain ⟨i0, hi0, hz0, hz1, hz2⟩ := info_parts infoDf
  have I0 := hid hi0
  have I1 := hid hz0
  have I2 := hid hz1
  have I3 := hid hz2
  obtain ⟨s0, hs0, hy0, hy1, hy2⟩ := info_parts infoStr
  have J0 := hid hs0
  have J1 := hid hy0
  have J2 := hid hy1
  have J3 := hid hy2
  clear hi0 hz0 hz1 hz2 hs0 hy0 hy1 hy2
  go_enter Tryz.func11, Tryz.ntmps11
  go_wp2_with fail
  go_loopw [3, 4] (fun v z wr => ∃ (i : Nat), z = .int .i64 (i : Nat) ∧ i ≤ ds.length ∧ Hid (DefsRel A ds w wr v i)) (fun _ z _ => ds.length - (RowKit.intOf z).toNat)
  case atStart => exact ⟨0, rfl, by omega, hid ⟨RowOf.nil _ _ _ _ _ _, Ext.refl _ _⟩⟩
  case round =>
    rename_i v
    obtain ⟨i, rfl, hle, R⟩ := hrel
    obtain ⟨cells, own0, hr0⟩ := R.out.row
    have hln : (ds.take i).length = i := by rw [List.length_take, Nat.min_eq_left hle]
    have OW := hid own0
    have HR0 := hid hr0
    rw [hln] at own0
    have hsh := own_slice own0
    obtain ⟨a1, cap1, rfl⟩ := hsh
    have OWI := hid own0
    have HLN := hid hln
    clear own0 hr0 hln
    by_cases hi : i < ds.length
    · obtain ⟨b, off, cs, rfl, hAb, hbw, hcc, hdf⟩ := (HX.out.ext isDf_good R.out.hx fun _ _ h => h.elim).at i hi
      obtain ⟨pv, tv, rfl, hpv, htv⟩ := hdf
      have HP := hid hpv
      have HT := hid htv
      obtain ⟨a2, cap2, rfl, _⟩ := htv
      obtain ⟨a3, cap3, rfl, _⟩ := hpv
      have hmem := List.getElem_mem hi
      have hd1 := (HSZ.out _ hmem).1
      have hd2 := (HSZ.out _ hmem).2
      have HAV : Hid (∀ b, plus A (.slice a1 i cap1) b → b < wr.heap.size) := hid fun b hb => by
        rcases hb with hb | hb
        · exact Nat.lt_of_lt_of_le (HA.out b hb) R.out.hx.size
        · exact (OWI.out.lt b hb).2
      have hcc := hid hcc
      obtain ⟨d, hdd⟩ : ∃ d, ds[i] = d := ⟨_, rfl⟩
      have htk : ds.take (i + 1) = ds.take i ++ [d] := by rw [List.take_add_one, List.getElem?_eq_getElem hi, hdd]; rfl
      have HTK := hid htk
      rw [hdd] at hcc hd1 hd2 HP HT
      clear hdd htk hmem
      have CS := hid fun (W : World) (X : Ext none' wr W) => of_tyany d.ty hd1 (plus A (.slice a1 i cap1)) (.agg #[.int .i64 d.ty.kind, .string ⟨d.ty.name.toArray⟩, .slice a2 d.ty.args.length cap2]) W ⟨_, rfl, HT.out.ext isTy_good X fun _ _ h => h.elim⟩ (fun b hb => Nat.lt_of_lt_of_le (HAV.out b hb) X.size)
      have y0 := fun t' : LaterF none' wr => (t'.x.cell (p := ⟨b, off + i * 6, none⟩) hbw (fun h => h)).trans (by simpa using hcc.out 0 _ rfl)
      have y1 := fun t' : LaterF none' wr => (t'.x.cell (p := ⟨b, off + i * 6 + 1, none⟩) hbw (fun h => h)).trans (hcc.out 1 _ rfl)
      have y2 := fun t' : LaterF none' wr => (t'.x.cell (p := ⟨b, off + i * 6 + 2, none⟩) hbw (fun h => h)).trans (hcc.out 2 _ rfl)
      have y3 := fun t' : LaterF none' wr => (t'.x.cell (p := ⟨b, off + i * 6 + 3, none⟩) hbw (fun h => h)).trans (hcc.out 3 _ rfl)
      have y4 := fun t' : LaterF none' wr => (t'.x.cell (p := ⟨b, off + i * 6 + 4, none⟩) hbw (fun h => h)).trans (hcc.out 4 _ rfl)
      have y5 := fun t' : LaterF none' wr => (t'.x.cell (p := ⟨b, off + i * 6 + 5, none⟩) hbw (fun h => h)).trans (hcc.out 5 _ rfl)
      go_upto_region 5 with (fail)
      refine region_tree none' wr [0, 1, 2, 3, 4, 5, 7, 8, 9, 10, 11, 13, 14, 15, 16, 17, 19, 20, 21, 22, 23] (.one 6 true (.one 12 true (.one 18 true (.one 24 true (.one 25 true (.one 26 false (.one 27 false .fin))))))) (by kernel_rfl) (by kernel_rfl) (fun dst v c a w h => by cases dst <;> exact h) (Ext.refl _ _) ?_
      simp only [sel, List.getElem?_cons_succ, List.getElem?_cons_zero]
      repeat (go_big_quiet_step (fail))
      refine wpQuiet_nil ?_
      simp only [wpTree, stepT, sel, List.getElem?_cons_succ, List.getElem?_cons_zero]
      clear y0 y1 y2 y3 y4 y5
      go_wp2_with fail
      have XB := hid ((Ext.refl none' wr).alloc (.cells #[] 9 (0, 0))).drew
      have OB : Hid ((wr.alloc (.cells #[] 9 (0, 0))).drew.ownsRow wr.heap.size 9 1 (.slice (some ⟨wr.heap.size, 0, none⟩) 0 0) 0 []) := hid ⟨rfl, .inr ⟨wr.heap.size, 0, #[], rfl, Nat.le_refl _, heap_alloc_at rfl (.cells #[] 9 (0, 0)), Nat.le_refl _, by unfold maxLen; omega, rfl, rfl⟩⟩
      have SB := hid (str_src (P := Tryz.prog) Tryz.underlying41 (HP.out.ext isStr_good XB.out (fun _ _ h => h.elim)))
      have HSZ1 := hid XB.out.size
      refine ⟨In.of XB.out, ?_⟩
      refine wpList_app _ rfl (.tmp 17) (.tmp 22) 41 41 rfl wr.heap.size 9 s0 _ 1 16 Tryz.underlying41 J0.out J1.out J2.out J3.out rfl _ 0 [] rfl OB.out _ d.params.length _ rfl SB.out ?_ ?_ ?_ ?_
      · unfold maxLen; omega
      · omega
      · exact HSZ1.out
      intro v2 W2 own2 grow2 blk2 _
      have X2 := hid (XB.out.grown grow2 (fun g hg => .inr (OB.out.lt g hg).1))
      have HP2 : Hid (IsStrs (plus A (.slice a1 i cap1)) W2 v2 d.params) := hid (RowOf.sl isStr_good (str_row (l := d.params) (by simpa using own2)) (fun b hb h => by have := HAV.out b h; omega))
      clear own2 grow2 blk2 HSZ1
      refine ⟨In.of X2.out, ?_⟩
      go_wp2_with fail
      refine (CS.out _ X2.out).mono ?_
      rintro e W3 ⟨u, rfl, ⟨xx, rfl, hxx⟩, X3⟩
      have HP3 := hid (HP2.out.ext isStr_good X3 (fun _ _ h => h.elim))
      have X3 := hid (X2.out.trans X3)
      have HT3 := hid hxx
      obtain ⟨a4, cap4, rfl, _⟩ := hxx
      obtain ⟨a5, cap5, rfl, _⟩ := HP3.out
      go_wp2_with fail
      refine ⟨In.of X3.out, ?_⟩
      go_wp2_with fail
      refine ⟨In.of X3.out, ?_⟩
      go_wp2_with fail
      obtain ⟨W4, hW4⟩ : ∃ W4, W4 = W3.alloc (.cells #[.string ⟨d.name.toArray⟩, .slice a5 d.params.length cap5, .int .i64 d.ty.kind, .string ⟨d.ty.name.toArray⟩, .slice a4 d.ty.args.length cap4, .bool d.als] 61) := ⟨_, rfl⟩
      have XD : Hid (Ext none' wr W4) := hid (by rw [hW4]; exact X3.out.alloc _)
      have XE : Hid (Ext none' W3 W4) := hid (by rw [hW4]; exact (Ext.refl _ _).alloc _)
      have S2 : Hid (Src Tryz.prog 6 28 (.slice (some ⟨W3.heap.size, 0, none⟩) 1 1) 1 [.string ⟨d.name.toArray⟩, .slice a5 d.params.length cap5, .int .i64 d.ty.kind, .string ⟨d.ty.name.toArray⟩, .slice a4 d.ty.args.length cap4, .bool d.als] W4) := hid (by rw [hW4]; exact six_src (P := Tryz.prog) Tryz.underlying28 W3 _ _ _ _ _ _ 61 (by intro u hu; simp at hu; rcases hu with rfl | rfl | rfl | rfl | rfl | rfl <;> rfl))
      rw [← hW4]
      clear hW4
      refine ⟨In.of XD.out, ?_⟩
      have O2 := hid (ownsRow_ext OWI.out XD.out (fun _ _ h => h))
      have O2' := hid (ownsRow_ext OW.out XD.out (fun _ _ h => h))
      have HSZ3 := hid (show w.heap.size ≤ W4.heap.size from Nat.le_trans R.out.hx.size XD.out.size)
      refine wpList_app _ rfl (.tmp 11) (.tmp 36) 28 28 rfl w.heap.size 61 i0 _ 6 96 Tryz.underlying28 I0.out I1.out I2.out I3.out rfl _ i cells rfl O2.out _ 1 _ rfl S2.out ?_ ?_ ?_ ?_
      · unfold maxLen; omega
      · omega
      · exact HSZ3.out
      intro v5 w5 own5 grow5 blk5 _
      have N : Hid (DefsRel A ds w w5 v5 (i + 1)) := hid ⟨by
        rw [HTK.out]
        exact RowOf.snoc isDf_good O2'.out (fun j hj => isDf_good.ext (HR0.out j hj) XD.out fun _ _ h => h.elim) ⟨_, _, rfl, HP3.out.ext isStr_good XE.out fun _ _ h => h.elim, HT3.out.ext isTy_good XE.out fun _ _ h => h.elim⟩ (by rw [HLN.out]; exact own5) grow5 blk5, (R.out.hx.trans XD.out).grown grow5 (fun g hg => .inr (O2.out.lt g hg).1)⟩
      clear own5 grow5 blk5
      go_wp2_with fail
      go_roundw
      case rel => exact ⟨i + 1, by go_num, by omega, N⟩
      case measure => simp [RowKit.intOf]; omega
    · obtain rfl : i = ds.length := by omega
      have hrow := R.out.row
      rw [List.take_length] at hrow
      have HS := hid (hrow.sl isDf_good (fun b hb h => by have := HA.out b h; omega))
      go_wp2_with fail
      go_ret
      exact ⟨_, rfl, HS.out, R.out.hx⟩
end Go.Proofs.YtbhpmmofgdppdaaGreatDoor
/-
  What came in, opened: slices of things of any make, out of the row's reading.
-/
namespace Go.Proofs.YtbhpmmofgdppdaaGreatDoor
open Go.RowKit Go.Lib Go.ChangeShapes Go.WideShapes
section
variable {H : Type} {enc : TypeId × Value → H} {P : Program} {w : World} {spare : Nat → Bool} {held : Bool}
theorem cells_at {b off : Nat} {n : Nat} {cs : List Value} (h : w.cells? 0 ⟨b, off, none⟩ n = some cs) : cs.length = n ∧ Cells w b off cs := by
  obtain ⟨_, h1, h2⟩ := World.cells?_some h
  refine ⟨h1, fun j v hj => ?_⟩
  have hjn : j < n := by have := (List.getElem?_eq_some_iff.1 hj).1; omega
  have := h2 j hjn
  rw [hj] at this
  have e : (⟨b, off, none⟩ : Addr).add j = ⟨b, off + j, none⟩ := by unfold Addr.add; split <;> simp_all
  rw [e] at this
  exact this
theorem open_sl {α : Type} {sz : Nat} {R : Lay α} (Q : α → DataW H → Prop) (hsz : 0 < sz) {t e : TypeId} (ht : P.underlying t = some (.slice e)) (hc : P.cellsOf e = sz)
    (he : ∀ (n : Nat) (cs : List Value) (x : DataW H × List MemPlace), DataW.trod enc P w 0 spare held n e cs = some x → ∃ a, R none' w a cs ∧ Q a x.1)
    {fuel : Nat} {cs : List Value} {x : DataW H × List MemPlace} (h : DataW.trod enc P w 0 spare held fuel t cs = some x) :
    ∃ v xs, cs = [v] ∧ IsSl sz R none' w v xs ∧ ((x.1 = .nil ∧ xs = []) ∨ ∃ ds sp, x.1 = .slice ds sp ∧ ds.length = xs.length ∧ ∀ i (h1 : i < xs.length) (h2 : i < ds.length), Q xs[i] ds[i]) := by
  rcases Go.Deep.open_slice ht h with ⟨rfl, rfl⟩ | ⟨a, len, cap, m, n, D, Pl, rfl, hb, hl, hm, hmm, rfl, hx⟩
  · exact ⟨_, [], rfl, IsSl.nil _ _ _ _, .inl ⟨rfl, rfl⟩⟩
  · have hlm : len ≤ m := by rw [hmm]; split <;> omega
    have key : ∀ i : Fin len, ∃ q : α × List Value, w.cells? 0 (a.add (i.1 * sz)) sz = some q.2 ∧ R none' w q.1 q.2 ∧ Q q.1 (D i.1) := fun i => by
      obtain ⟨cs', h1, h2⟩ := hx i.1 (by have := i.2; omega)
      obtain ⟨y, hy1, hy2⟩ := he n cs' _ h2
      rw [hc] at h1
      exact ⟨(y, cs'), h1, hy1, hy2⟩
    obtain ⟨f, hf⟩ := Classical.axiomOfChoice key
    refine ⟨_, List.ofFn fun i => (f i).1, rfl, ⟨some a, cap, by rw [List.length_ofFn], by rw [List.length_ofFn]; exact hl, (fun h => by cases h), fun hne => ?_⟩, .inr ⟨_, _, rfl, by simp, fun i h1 h2 => ?_⟩⟩
    · have hpos : 0 < len := by
        rcases Nat.eq_zero_or_pos len with h | h
        · subst h; simp at hne
        · exact h
      obtain ⟨b, off, spot⟩ := a
      have hs : spot = none ∧ b < w.heap.size := by
        obtain ⟨_, h1, h2⟩ := World.cells?_some (hf ⟨0, hpos⟩).1
        have h3 := h2 0 hsz
        have hlen : 0 < (f ⟨0, hpos⟩).2.length := by omega
        rw [List.getElem?_eq_getElem hlen] at h3
        have e0 : ((⟨b, off, spot⟩ : Addr).add (0 * sz)).add 0 = ⟨b, off, spot⟩ := by simp [Addr.add]
        simp only [e0] at h3
        exact ⟨World.cell?_spot h3, World.block_lt_of_cell? w _ h3⟩
      obtain ⟨rfl, hbw⟩ := hs
      refine ⟨b, off, rfl, fun h => h, hbw, fun i hi => ?_⟩
      rw [List.length_ofFn] at hi
      have hfi := hf ⟨i, hi⟩
      have e : (⟨b, off, none⟩ : Addr).add (i * sz) = ⟨b, off + i * sz, none⟩ := by unfold Addr.add; split <;> simp_all
      have h1 := hfi.1
      simp only [e] at h1
      exact ⟨_, (cells_at h1).2, by rw [List.getElem_ofFn]; exact hfi.2.1⟩
    · rw [List.length_ofFn] at h1
      have h3 := (hf ⟨i, h1⟩).2.2
      rw [List.getElem_ofFn]
      simpa using h3
theorem open_strsL {t e : TypeId} (ht : P.underlying t = some (.slice e)) (he : P.underlying e = some .string) (hc : P.cellsOf e = 1) {fuel : Nat} {cs : List Value} {x : DataW H × List MemPlace} (h : DataW.trod enc P w 0 spare held fuel t cs = some x) :
    ∃ v l, cs = [v] ∧ IsStrs none' w v l := by
  obtain ⟨v, xs, h1, h2, _⟩ := open_sl (α := List UInt8) (R := IsStr) (fun _ _ => True) (by omega) ht hc (fun n cs x hx => by
    obtain ⟨s, rfl, _⟩ := DataW.trod_string he hx
    exact ⟨s.data.toList, by unfold IsStr; simp, trivial⟩) h
  exact ⟨v, xs, h1, h2⟩
end
end Go.Proofs.YtbhpmmofgdppdaaGreatDoor
/-
  What came in, opened, with its bulk: slices and trees (by induction on the bulk).
-/
namespace Go.Proofs.YtbhpmmofgdppdaaGreatDoor
open Go.RowKit Go.Lib Go.ChangeShapes Go.WideShapes
theorem bulk_mem {H : Type} : ∀ {l : List (DataW H)} {d : DataW H}, d ∈ l → Rows.uptoBulk d ≤ Rows.uptoBulkAll l
  | a :: r, d, h => by
    rw [Rows.uptoBulkAll]
    rcases List.mem_cons.1 h with rfl | h
    · omega
    · have := bulk_mem h; omega
theorem bulk_sum {H : Type} {α : Type} {f : α → Nat} {F : List α → Nat} (h0 : F [] = 0) (hc : ∀ a r, F (a :: r) = f a + F r) : ∀ (xs : List α) (ds : List (DataW H)), ds.length = xs.length → (∀ i (h1 : i < xs.length) (h2 : i < ds.length), f xs[i] ≤ Rows.uptoBulk ds[i]) → F xs ≤ Rows.uptoBulkAll ds
  | [], _, _, _ => by rw [h0]; exact Nat.zero_le _
  | a :: r, [], h, _ => by cases h
  | a :: r, d :: s, h, hi => by
    rw [hc, Rows.uptoBulkAll]
    have h1 := hi 0 (by simp) (by simp)
    have h2 := bulk_sum h0 hc r s (by simpa using h) (fun i h1 h2 => hi (i + 1) (Nat.succ_lt_succ h1) (Nat.succ_lt_succ h2))
    simp only [List.getElem_cons_zero] at h1
    omega
theorem bulk_len {H : Type} : ∀ ds : List (DataW H), (∀ d ∈ ds, 1 ≤ Rows.uptoBulk d) → ds.length ≤ Rows.uptoBulkAll ds
  | [], _ => Nat.zero_le _
  | d :: s, h => by
    rw [Rows.uptoBulkAll, List.length_cons]
    have h1 := h d (by simp)
    have h2 := bulk_len s (fun x hx => h x (by simp [hx]))
    omega
theorem three_len : ∀ {cs : List Value}, cs.length = 3 → ∃ c0 c1 c2, cs = [c0, c1, c2]
  | [c0, c1, c2], _ => ⟨c0, c1, c2, rfl⟩
theorem six_len : ∀ {cs : List Value}, cs.length = 6 → ∃ b0 b1 b2 b3 b4 b5, cs = [b0, b1, b2, b3, b4, b5]
  | [b0, b1, b2, b3, b4, b5], _ => ⟨b0, b1, b2, b3, b4, b5, rfl⟩
section
variable {H : Type} {enc : TypeId × Value → H} {P : Program} {w : World} {spare : Nat → Bool} {held : Bool}
theorem open_slK {α : Type} {sz : Nat} {R : Lay α} (Q : α → DataW H → Prop) (hsz : 0 < sz) {t e : TypeId} (ht : P.underlying t = some (.slice e)) (hc : P.cellsOf e = sz) (K : Nat)
    (he : ∀ (n : Nat) (cs : List Value) (x : DataW H × List MemPlace), Rows.uptoBulk x.1 < K → DataW.trod enc P w 0 spare held n e cs = some x → ∃ a, R none' w a cs ∧ Q a x.1)
    {fuel : Nat} {cs : List Value} {x : DataW H × List MemPlace} (h : DataW.trod enc P w 0 spare held fuel t cs = some x) (hK : Rows.uptoBulk x.1 ≤ K) :
    ∃ v xs, cs = [v] ∧ IsSl sz R none' w v xs ∧ ((x.1 = .nil ∧ xs = []) ∨ ∃ ds sp, x.1 = .slice ds sp ∧ ds.length = xs.length ∧ ∀ i (h1 : i < xs.length) (h2 : i < ds.length), Q xs[i] ds[i]) := by
  rcases Go.Deep.open_slice ht h with ⟨rfl, rfl⟩ | ⟨a, len, cap, m, n, D, Pl, rfl, hb, hl, hm, hmm, rfl, hx⟩
  · exact ⟨_, [], rfl, IsSl.nil _ _ _ _, .inl ⟨rfl, rfl⟩⟩
  · have hlm : len ≤ m := by rw [hmm]; split <;> omega
    have key : ∀ i : Fin len, ∃ q : α × List Value, w.cells? 0 (a.add (i.1 * sz)) sz = some q.2 ∧ R none' w q.1 q.2 ∧ Q q.1 (D i.1) := fun i => by
      obtain ⟨cs', h1, h2⟩ := hx i.1 (by have := i.2; omega)
      obtain ⟨y, hy1, hy2⟩ := he n cs' _ (by
        have hmem : D i.1 ∈ (List.range len).map D := List.mem_map.2 ⟨i.1, List.mem_range.2 i.2, rfl⟩
        have h3 := bulk_mem hmem
        simp only [Rows.uptoBulk] at hK
        simp only
        omega) h2
      rw [hc] at h1
      exact ⟨(y, cs'), h1, hy1, hy2⟩
    obtain ⟨f, hf⟩ := Classical.axiomOfChoice key
    refine ⟨_, List.ofFn fun i => (f i).1, rfl, ⟨some a, cap, by rw [List.length_ofFn], by rw [List.length_ofFn]; exact hl, (fun h => by cases h), fun hne => ?_⟩, .inr ⟨_, _, rfl, by simp, fun i h1 h2 => ?_⟩⟩
    · have hpos : 0 < len := by
        rcases Nat.eq_zero_or_pos len with h | h
        · subst h; simp at hne
        · exact h
      obtain ⟨b, off, spot⟩ := a
      have hs : spot = none ∧ b < w.heap.size := by
        obtain ⟨_, h1, h2⟩ := World.cells?_some (hf ⟨0, hpos⟩).1
        have h3 := h2 0 hsz
        have hlen : 0 < (f ⟨0, hpos⟩).2.length := by omega
        rw [List.getElem?_eq_getElem hlen] at h3
        have e0 : ((⟨b, off, spot⟩ : Addr).add (0 * sz)).add 0 = ⟨b, off, spot⟩ := by simp [Addr.add]
        simp only [e0] at h3
        exact ⟨World.cell?_spot h3, World.block_lt_of_cell? w _ h3⟩
      obtain ⟨rfl, hbw⟩ := hs
      refine ⟨b, off, rfl, fun h => h, hbw, fun i hi => ?_⟩
      rw [List.length_ofFn] at hi
      have hfi := hf ⟨i, hi⟩
      have e : (⟨b, off, none⟩ : Addr).add (i * sz) = ⟨b, off + i * sz, none⟩ := by unfold Addr.add; split <;> simp_all
      have h1 := hfi.1
      simp only [e] at h1
      exact ⟨_, (cells_at h1).2, by rw [List.getElem_ofFn]; exact hfi.2.1⟩
    · rw [List.length_ofFn] at h1
      have h3 := (hf ⟨i, h1⟩).2.2
      rw [List.getElem_ofFn]
      simpa using h3
end
section
variable {H : Type} {enc : TypeId × Value → H} {w : World} {spare : Nat → Bool} {held : Bool}
/-- A tree, and that it is no larger than its reading's bulk. -/
theorem open_ty (K : Nat) : ∀ (fuel : Nat) (cs : List Value) (x : DataW H × List MemPlace), Rows.uptoBulk x.1 ≤ K → DataW.trod enc Tryz.prog w 0 spare held fuel 25 cs = some x → ∃ t : Ty, IsTy none' w t cs ∧ t.size ≤ Rows.uptoBulk x.1 := by
  induction K with
  | zero =>
    intro fuel cs x hK h
    obtain ⟨y0, y1, y2, m, rfl, _⟩ := Go.Deep.trod_struct3 Tryz.underlying25 h
    simp only [Rows.uptoBulk] at hK
    omega
  | succ K ih =>
    intro fuel cs x hK h
    obtain ⟨y0, y1, y2, m, rfl, hl, t0, t1, t2⟩ := Go.Deep.trod_struct3 Tryz.underlying25 h
    have e3 : Tryz.prog.cellsOf 25 = 3 := by kernel_rfl
    rw [e3] at hl
    obtain ⟨c0, c1, c2, rfl⟩ := three_len hl
    have ks : Tryz.prog.cellsOf 9 = 1 := by kernel_rfl
    have ki : Tryz.prog.cellsOf 3 = 1 := by kernel_rfl
    have ka : Tryz.prog.cellsOf 23 = 1 := by kernel_rfl
    simp only [ki, ks, ka, List.drop_zero, List.take_succ_cons, List.take_zero, List.drop_succ_cons] at t0 t1 t2
    obtain ⟨k, e0, _⟩ := DataW.trod_int Tryz.underlying3 t0
    obtain ⟨n, e1, _⟩ := DataW.trod_string Tryz.underlying9 t1
    simp only [Rows.uptoBulk, Rows.uptoBulkAll] at hK ⊢
    obtain ⟨v, l, e2, hsl, hq⟩ := open_slK (α := Ty) (sz := 3) (R := IsTy) (fun t d => t.size ≤ Rows.uptoBulk d) (by omega) Tryz.underlying23 e3 K (fun n cs x hx h => ih n cs x (by omega) h) t2 (by omega)
    injection e0 with e0 _
    injection e1 with e1 _
    injection e2 with e2 _
    subst e0 e1 e2
    have hsum : Ty.sizeL l + 1 ≤ Rows.uptoBulk y2.1 := by
      rcases hq with ⟨e, rfl⟩ | ⟨ds, sp, e, hlen, hq⟩
      · rw [e]; simp [Rows.uptoBulk, Ty.sizeL]
      · rw [e, Rows.uptoBulk]
        have := bulk_sum (F := Ty.sizeL) (f := Ty.size) rfl (fun _ _ => rfl) l ds hlen hq
        omega
    refine ⟨.mk k n.data.toList l, ?_, ?_⟩
    · have := IsTy.of (k := k) (n := n.data.toList) hsl
      simpa using this
    · rw [Ty.size]; omega
/-- Definitions: none is larger than the reading's bulk. -/
theorem open_defs (K : Nat) {fuel : Nat} {cs : List Value} {x : DataW H × List MemPlace} (hK : Rows.uptoBulk x.1 ≤ K) (h : DataW.trod enc Tryz.prog w 0 spare held fuel 22 cs = some x) : ∃ v ds, cs = [v] ∧ IsSl 6 IsDf none' w v ds ∧ ∀ d ∈ ds, d.ty.size ≤ K := by
  obtain ⟨v, ds, e, hsl, hq⟩ := open_slK (α := Df) (sz := 6) (R := IsDf) (fun d r => d.ty.size ≤ Rows.uptoBulk r) (by omega) Tryz.underlying22 (by kernel_rfl) K (fun n cs x hx h => by
    obtain ⟨y0, y1, y2, y3, m, rfl, hl, t0, t1, t2, t3⟩ := Go.Joins.trod_struct4 Tryz.underlying59 h
    have e6 : Tryz.prog.cellsOf 59 = 6 := by kernel_rfl
    rw [e6] at hl
    obtain ⟨b0, b1, b2, b3, b4, b5, rfl⟩ := six_len hl
    have ks : Tryz.prog.cellsOf 9 = 1 := by kernel_rfl
    have kn : Tryz.prog.cellsOf 41 = 1 := by kernel_rfl
    have kt : Tryz.prog.cellsOf 25 = 3 := by kernel_rfl
    have kb : Tryz.prog.cellsOf 4 = 1 := by kernel_rfl
    simp only [ks, kn, kt, kb, List.drop_zero, List.take_succ_cons, List.take_zero, List.drop_succ_cons] at t0 t1 t2 t3
    obtain ⟨n, e0, _⟩ := DataW.trod_string Tryz.underlying9 t0
    obtain ⟨pv, ps, e1, hp⟩ := open_strsL Tryz.underlying41 Tryz.underlying9 ks t1
    obtain ⟨t, ht, hts⟩ := open_ty _ _ _ _ (Nat.le_refl _) t2
    obtain ⟨al, e3, _⟩ := DataW.trod_bool Tryz.underlying4 t3
    obtain ⟨tv, e2, htv⟩ := ht.parts
    injection e0 with e0 _
    injection e1 with e1 _
    injection e2 with e2 e4
    injection e4 with e4 e5
    injection e5 with e5 _
    injection e3 with e3 _
    subst e0 e1 e2 e3 e4 e5
    refine ⟨⟨n.data.toList, ps, t, al⟩, ⟨_, _, by simp, hp, htv⟩, ?_⟩
    simp only [Rows.uptoBulk, Rows.uptoBulkAll]
    omega) h hK
  refine ⟨v, ds, e, hsl, fun d hd => ?_⟩
  rcases hq with ⟨_, rfl⟩ | ⟨rs, sp, e, hlen, hq⟩
  · cases hd
  · obtain ⟨i, hi, rfl⟩ := List.getElem_of_mem hd
    have h1 := hq i hi (by omega)
    have h2 := bulk_mem (List.getElem_mem (show i < rs.length by omega))
    rw [e, Rows.uptoBulk] at hK
    omega
end
end Go.Proofs.YtbhpmmofgdppdaaGreatDoor
