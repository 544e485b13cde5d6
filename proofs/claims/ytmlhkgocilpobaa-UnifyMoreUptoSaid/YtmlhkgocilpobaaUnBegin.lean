import Derived.Test.YtmlhkgocilpobaaUnTwice
/-
  unify.begin: what stands at first.
-/
namespace Go.Proofs.Ytmlhkgocilpobaa
open Go.RowKit Go.Lib Go.BigFrame
theorem src3_at {P : Program} {tx e' : TypeId} (hk : P.underlying tx = some (.slice e')) {w : World} {Z : Nat} {u0 u1 u2 : Value} {t : TypeId} {fz : Nat × Nat} (h : w.heap[Z]? = some (.cells #[u0, u1, u2] t fz)) (h0 : u0.oneCell' = true) (h1 : u1.oneCell' = true) (h2 : u2.oneCell' = true) :
    Src P 3 tx (.slice (some ⟨Z, 0, none⟩) 1 1) 1 [u0, u1, u2] w :=
  Src.ofSlice _ hk _ 1 1 [u0, u1, u2] rfl (fun j u hj => by
    have e : (⟨Z, 0, none⟩ : Addr).add j = ⟨Z, j, none⟩ := by unfold Addr.add; split <;> simp_all
    rw [e, cell_at h]
    exact (List.getElem?_toArray ..).trans hj) (fun u hu => by
      simp at hu
      rcases hu with rfl | rfl | rfl
      · exact h0
      · exact h1
      · exact h2)
theorem set_last {α : Type} (l : List α) (a b : α) (i : Nat) (h : l.length = i) : (l ++ [a]).set i b = l ++ [b] := by
  subst h
  induction l with
  | nil => rfl
  | cons x r ih => simp [ih]
structure BgRel (ds : List Df) (bs : List Ty) (S : Nat) (dv rv : Value) (w wr : World) (v : Value) (i : Nat) : Prop where
  s : wr.heap[S]? = some (.cells #[dv, rv, v] 58 (0, 0))
  row : RowOf 3 33 IsTy (one S) wr (S + 1) v ((bs.take i).map (fullP ds))
  hx : Ext none' w wr
def BeginPost (ds : List Df) (row : List (List UInt8)) (bs : List Ty) (dv rv : Value) (w : World) (e : Ending) (w' : World) : Prop :=
  if bs.length ≠ row.length ∨ twiceP row = true then e = .returned (.tuple #[.pointer none, .bool false]) ∧ Ext none' w w'
  else ∃ S bv, e = .returned (.tuple #[.pointer (some ⟨S, 0, none⟩), .bool true]) ∧ St ds row (bs.map (fullP ds)) S (S + 1) dv rv bv w' ∧ Ext none' w w' ∧ w.heap.size ≤ S
set_option maxRecDepth 100000 in
set_option maxHeartbeats 6400000 in
theorem begin_any (ds : List Df) (hds : DefsFit ds) (row : List (List UInt8)) (hrl : row.length ≤ 1000000) (bs : List Ty) (hbl : bs.length ≤ 1000000) (hbs : ∀ t ∈ bs, t.size ≤ bigD) (dv rv v : Value) (w : World) (hd : IsSl 6 IsDf none' w dv ds) (hr : IsStrs none' w rv row) (hv : IsSl 3 IsTy none' w v bs) :
    Calls Try.prog 15 #[dv, rv, v] w (BeginPost ds row bs dv rv w) := by
  have HD := hid hd
  have HRW := hid hr
  have HV := hid hv
  obtain ⟨ad, capd, rfl, _⟩ := hd
  obtain ⟨ar, capr, rfl, _⟩ := hr
  obtain ⟨a, cap, rfl, _⟩ := hv
  have CT := hid (twice_any row (by omega) (.slice ar row.length capr) w HRW.out)
  have HBS := hid hbs
  obtain ⟨tw, htw⟩ : ∃ tw, twiceP row = tw := ⟨_, rfl⟩
  rw [htw] at CT
  obtain ⟨Q, hQ⟩ : ∃ Q, BeginPost ds row bs (.slice ad ds.length capd) (.slice ar row.length capr) w = Q := ⟨_, rfl⟩
  rw [hQ]
  have HQ := hid hQ
  have HTW := hid htw
  clear hQ htw hbs
  by_cases hl : bs.length = row.length
  · have q0 : ((bs.length : Int) != (row.length : Int)) = false := by simp only [bne_eq_false_iff_eq]; omega
    have HL := hid hl
    clear hl
    cases tw with
    | true =>
      go_enter Try.func15, Try.ntmps15
      go_wp2_with fail
      refine CT.out.mono ?_
      rintro e W1 ⟨rfl, X1⟩
      have X1 := hid X1
      go_wp2_with fail
      rw [← HQ.out]
      unfold BeginPost
      rw [if_pos (.inr HTW.out)]
      exact ⟨rfl, X1.out⟩
    | false =>
      obtain ⟨i0, hi0, hz0, hz1, hz2⟩ := info_parts infoTy
      have I0 := hid hi0
      have I1 := hid hz0
      have I2 := hid hz1
      have I3 := hid hz2
      clear hi0 hz0 hz1 hz2
      go_enter Try.func15, Try.ntmps15
      go_wp2_with fail
      refine CT.out.mono ?_
      rintro e W1 ⟨rfl, X1⟩
      have X1 := hid X1
      obtain ⟨S, hS⟩ : ∃ S, S = W1.heap.size := ⟨_, rfl⟩
      have HS := hid hS
      have HWS := hid (show w.heap.size ≤ S by have := X1.out.size; omega)
      go_wp2_with fail
      rw [← hS]
      clear hS
      go_loopw [26] (fun z wr => ∃ (i : Nat) (v : Value), z = .int .i64 (i : Nat) ∧ i ≤ bs.length ∧ Hid (BgRel ds bs S (.slice ad ds.length capd) (.slice ar row.length capr) w wr v i)) (fun z _ => bs.length - (RowKit.intOf z).toNat)
      case atStart => exact ⟨0, .slice none 0 0, rfl, by omega, hid ⟨heap_alloc_at HS.out _, RowOf.nil _ _ _ _ _ _, X1.out.alloc _⟩⟩
      case round =>
        obtain ⟨i, v, rfl, hle, R⟩ := hrel
        obtain ⟨cells, own0, hr0⟩ := R.out.row
        have hln : ((bs.take i).map (fullP ds)).length = i := by rw [List.length_map, List.length_take, Nat.min_eq_left hle]
        have OW := hid own0
        have HR0 := hid hr0
        rw [hln] at own0
        have hsh := own_slice own0
        obtain ⟨a1, cap1, rfl⟩ := hsh
        have OWI := hid own0
        have HLN := hid hln
        clear own0 hr0 hln
        by_cases hi : i < bs.length
        · obtain ⟨b, off, cs, rfl, _, hbw, hcc, hty⟩ := ((HV.out.mono (B := plus (one S) (.slice a1 i cap1)) isTy_good fun b hb h => h.elim (fun h => by have h : b = S := h; have := HWS.out; omega) fun h => by have := (OWI.out.lt b h).1; have := HWS.out; omega).ext isTy_good R.out.hx fun _ _ h => h.elim).at i hi
          obtain ⟨x, rfl, hx⟩ := hty.parts
          have c0 := hcc 0 _ rfl
          have c1 := hcc 1 _ rfl
          have c2 := hcc 2 _ rfl
          simp only [Nat.add_zero] at c0
          have HX := hid hx
          obtain ⟨a2, cap2, rfl, _⟩ := hx
          have htk : (bs.take (i + 1)).map (fullP ds) = (bs.take i).map (fullP ds) ++ [fullP ds bs[i]] := by rw [List.take_add_one, List.getElem?_eq_getElem hi, List.map_append]; rfl
          have hsz := HBS.out _ (List.getElem_mem hi)
          have HTK := hid htk
          obtain ⟨t, ht⟩ : ∃ t, bs[i] = t := ⟨_, rfl⟩
          rw [ht] at c0 c1 c2 HX HTK hsz
          have HOWN := hid (show ∀ b, plus (one S) (.slice a1 i cap1) b → b < wr.heap.size ∧ S ≤ b from fun b h => h.elim (fun h => by have h : b = S := h; rw [h]; exact ⟨heap_lt R.out.s, Nat.le_refl _⟩) fun h => ⟨(OWI.out.lt b h).2, by have := (OWI.out.lt b h).1; omega⟩)
          have HSW := hid (heap_lt R.out.s)
          have HTV := hid fun (W : World) (X : Ext none' wr W) => (show TyV (plus (one S) (.slice a1 i cap1)) W t (.agg #[.int .i64 t.kind, .string ⟨t.name.toArray⟩, .slice a2 t.args.length cap2]) from ⟨_, rfl, HX.out.ext isTy_good X fun _ _ h => h.elim⟩)
          have CFU := hid fun (W : World) (X : Ext none' wr W) => Full_any ds hds t hsz (plus (one S) (.slice a1 i cap1)) (.slice ad ds.length capd) (.agg #[.int .i64 t.kind, .string ⟨t.name.toArray⟩, .slice a2 t.args.length cap2]) W ((HD.out.mono (B := plus (one S) (.slice a1 i cap1)) isDf_good fun b hb h => by have := (HOWN.out b h).2; have := HWS.out; omega).ext isDf_good (R.out.hx.trans X) fun _ _ h => h.elim) (HTV.out W X) (fun b h => by have := (HOWN.out b h).1; have := X.size; omega)
          obtain ⟨t', ht'⟩ : ∃ t', fullP ds t = t' := ⟨_, rfl⟩
          rw [ht'] at CFU HTK
          clear hcc hty htk ht ht' hsz
          go_upto_region 7 with (fail)
          obtain ⟨W2, hW2⟩ : ∃ W2, W2 = wr.alloc (.cells #[.int .i64 t.kind, .string ⟨t.name.toArray⟩, .slice a2 t.args.length cap2] 33) := ⟨_, rfl⟩
          obtain ⟨T, hT⟩ : ∃ T, T = wr.heap.size := ⟨_, rfl⟩
          have X2 : Hid (Ext none' wr W2) := hid (by rw [hW2]; exact (Ext.refl _ _).alloc _)
          have GT : Hid (W2.heap[T]? = some (.cells #[.int .i64 t.kind, .string ⟨t.name.toArray⟩, .slice a2 t.args.length cap2] 33 (0, 0))) := hid (by rw [hW2]; exact heap_alloc_at hT _)
          have GS2 := hid (X2.out.heap R.out.s (fun h => h))
          rw [← hW2, ← hT]
          clear hW2 hT c0 c1 c2
          have k0 := fun t' : LaterF none' W2 => cell_at (t'.x.heap GT.out (fun h => h)) 0
          have k1 := fun t' : LaterF none' W2 => cell_at (t'.x.heap GT.out (fun h => h)) 1
          have k2 := fun t' : LaterF none' W2 => cell_at (t'.x.heap GT.out (fun h => h)) 2
          have s2 := fun t' : LaterF none' W2 => cell_at (t'.x.heap GS2.out (fun h => h)) 2
          simp only [List.getElem?_toArray, List.getElem?_cons_zero, List.getElem?_cons_succ] at k0 k1 k2 s2
          refine region_q none' W2 (.qs [0, 1, 2, 3, 4, 5, 7] (.two 6 true (.one 8 true (.one 9 false (.two 10 false (.two 11 false (.one 12 false (.one 13 false (.one 14 false .fin))) 12 false (.two 11 false (.one 13 false (.one 14 false .fin)) 13 false (.two 11 false (.one 14 false .fin) 14 false (.one 11 false .fin)))) 12 false (.two 10 false (.two 11 false (.one 13 false (.one 14 false .fin)) 13 false (.two 11 false (.one 14 false .fin) 14 false (.one 11 false .fin))) 13 false (.two 10 false (.two 11 false (.one 14 false .fin) 14 false (.one 11 false .fin)) 14 false (.one 10 false (.one 11 false .fin))))))) 8 true (.one 6 true (.one 9 false (.two 10 false (.two 11 false (.one 12 false (.one 13 false (.one 14 false .fin))) 12 false (.two 11 false (.one 13 false (.one 14 false .fin)) 13 false (.two 11 false (.one 14 false .fin) 14 false (.one 11 false .fin)))) 12 false (.two 10 false (.two 11 false (.one 13 false (.one 14 false .fin)) 13 false (.two 11 false (.one 14 false .fin) 14 false (.one 11 false .fin))) 13 false (.two 10 false (.two 11 false (.one 14 false .fin) 14 false (.one 11 false .fin)) 14 false (.one 10 false (.one 11 false .fin))))))))) (by kernel_rfl) (by kernel_rfl) (fun dst v c a w h => by cases dst <;> exact h) ?_
          refine ⟨In.of (Ext.refl _ _).drew, ?_⟩
          change wpQuiet _ _ (fun w' => ∃ t : LaterF none' W2, w' = t.w) _ _ _
          simp only [sel, List.getElem?_cons_succ, List.getElem?_cons_zero]
          repeat (go_big_quiet_step (fail))
          refine wpQuiet_nil ?_
          simp only [wpTreeQ, stepT, sel, List.getElem?_cons_succ, List.getElem?_cons_zero]
          clear k0 k1 k2 s2
          have D2 := hid (Ext.refl none' W2).drew
          refine ⟨?_, ?_⟩
          · go_wp2_with fail
            refine (CFU.out _ (X2.out.trans D2.out)).mono ?_
            rintro e W3 ⟨u, rfl, ⟨ux, rfl, hux⟩, X3⟩
            have X3 := hid (D2.out.trans X3)
            have HUX := hid hux
            obtain ⟨a3, cap3, rfl, _⟩ := hux
            go_wp2_with fail
            refine ⟨In.of X3.out, ?_⟩
            go_wp2_with fail
            refine ⟨In.of (X3.out.alloc _), ?_⟩
            obtain ⟨W4, hW4⟩ : ∃ W4, W4 = W3.alloc (.cells #[.int .i64 0, .string ⟨#[]⟩, .slice none 0 0] 33) := ⟨_, rfl⟩
            obtain ⟨Z, hZ⟩ : ∃ Z, Z = W3.heap.size := ⟨_, rfl⟩
            have X4 : Hid (Ext none' wr W4) := hid (by rw [hW4]; exact (X2.out.trans X3.out).alloc _)
            have GZ : Hid (W4.heap[Z]? = some (.cells #[.int .i64 0, .string ⟨#[]⟩, .slice none 0 0] 33 (0, 0))) := hid (by rw [hW4]; exact heap_alloc_at hZ _)
            have HUX4 : Hid (IsSl 3 IsTy (plus (one S) (.slice a1 i cap1)) W4 (.slice a3 t'.args.length cap3) t'.args) := hid (by rw [hW4]; exact HUX.out.ext isTy_good ((Ext.refl none' W3).alloc _) fun _ _ h => h.elim)
            rw [← hW4, ← hZ]
            clear hW4 hZ
            have O4 := hid (ownsRow_ext OWI.out X4.out (fun _ _ h => h))
            have O4' := hid (ownsRow_ext OW.out X4.out (fun _ _ h => h))
            have S4 : Hid (Src Try.prog 3 31 (.slice (some ⟨Z, 0, none⟩) 1 1) 1 [.int .i64 0, .string ⟨#[]⟩, .slice none 0 0] W4) := hid (src3_at Try.underlying31 GZ.out rfl rfl rfl)
            have HSZ := hid (show S + 1 ≤ W4.heap.size by have := X4.out.size; have := HSW.out; omega)
            refine wpList_app _ rfl (.tmp 33) (.tmp 38) 31 31 rfl (S + 1) 33 i0 _ 3 48 Try.underlying31 I0.out I1.out I2.out I3.out rfl _ i cells rfl O4.out _ 1 _ rfl S4.out ?_ ?_ ?_ ?_
            · unfold maxLen; omega
            · omega
            · exact HSZ.out
            intro v5 w5 own5 grow5 blk5 _
            have hsn := RowOf.snoc isTy_good (xs := (bs.take i).map (fullP ds)) (x := Ty.zero) (cs := [.int .i64 0, .string ⟨#[]⟩, .slice none 0 0]) O4'.out (fun j hj => isTy_good.ext (HR0.out j hj) X4.out fun _ _ h => h.elim) (IsTy.of (k := 0) (n := []) (IsSl.nil _ _ _ _)) (by rw [HLN.out]; exact own5) grow5 blk5
            have hlen5 : ((bs.take i).map (fullP ds) ++ [Ty.zero]).length = i + 1 := by rw [List.length_append, HLN.out]; rfl
            have X5 : Ext (fun b => (Value.slice a1 i cap1).ownBlock = some b) W4 w5 := (Ext.refl _ _).grown grow5 fun k hk => .inl hk
            have hux5 : IsSl 3 IsTy (plus (one S) v5) w5 (.slice a3 t'.args.length cap3) t'.args := by
              have h1 : IsSl 3 IsTy (fun b => plus (one S) (.slice a1 i cap1) b ∨ v5.ownBlock = some b) W4 (.slice a3 t'.args.length cap3) t'.args := HUX4.out.mono isTy_good fun b hb q => by
                rcases q with q | q
                · exact q
                · rcases blk5 with e | e
                  · exact .inr (e ▸ q)
                  · rw [e] at q; injection q with q; omega
              exact (h1.ext isTy_good X5 fun b _ hb => .inl (.inr hb)).mono isTy_good fun b _ q => q.elim (fun h => .inl (.inl h)) .inr
            obtain ⟨g, cap5, y0, y1, y2, cur, hv5, hbg, hre, hg, kk0, kk1, kk2⟩ := hsn.cell isTy_good (i := i) (by rw [hlen5]; omega)
            rw [hlen5] at hv5
            subst hv5
            have hS5 := X5.heap (X4.out.heap R.out.s (fun h => h)) (fun h => by have := (OWI.out.lt S h).1; omega)
            have XW5 := hid ((X4.out.mono fun _ _ h => h.elim).trans X5)
            have hset : ((bs.take i).map (fullP ds) ++ [Ty.zero]).set i t' = (bs.take (i + 1)).map (fullP ds) := by rw [HTK.out]; exact set_last _ _ _ _ HLN.out
            have FINR : ∀ w6, Ext (one S) w5 w6 → RowOf 3 33 IsTy (one S) (put3 w6 g i (.int .i64 t'.kind) (.string ⟨t'.name.toArray⟩) (.slice a3 t'.args.length cap3)) (S + 1) (.slice (some ⟨g, 0, none⟩) (i + 1) cap5) ((bs.take (i + 1)).map (fullP ds)) := fun w6 x6 => by
              have h1 := RowOf.put isTy_good (hsn.ext isTy_good x6 (fun _ _ h => h) (fun b hb h => by have h : b = S := h; have hb : (some g : Option Nat) = some b := hb; injection hb with hb; omega)) (i := i) (by rw [hlen5]; omega) (x := t') (TyV.ty (hux5.ext isTy_good x6 fun _ _ h => .inl h))
              rw [hset] at h1
              exact h1
            have hgS : S ≠ g := by omega
            have XP := put3_ext w5 g i (.int .i64 t'.kind) (.string ⟨t'.name.toArray⟩) (.slice a3 t'.args.length cap3)
            have hSP := XP.heap hS5 (by unfold one; omega)
            have XS5 : Ext (one S) w5 (w5.setCell ⟨S, 2, none⟩ (.slice (some ⟨g, 0, none⟩) (i + 1) cap5)) := (Ext.refl (one S) w5).set 2 _
            have hg5 := XS5.heap hg (by unfold one; omega)
            have hS5' := heap_setCell_same hS5 2 (.slice (some ⟨g, 0, none⟩) (i + 1) cap5)
            have XWW : Ext none' w w5 := ((R.out.hx.trans X4.out).trans' X5 fun b hb h => by have := (OWI.out.lt b h).1; have := HWS.out; omega)
            have N1 : Hid (BgRel ds bs S (.slice ad ds.length capd) (.slice ar row.length capr) w ((put3 w5 g i (.int .i64 t'.kind) (.string ⟨t'.name.toArray⟩) (.slice a3 t'.args.length cap3)).setCell ⟨S, 2, none⟩ (.slice (some ⟨g, 0, none⟩) (i + 1) cap5)) (.slice (some ⟨g, 0, none⟩) (i + 1) cap5) (i + 1)) := hid
              ⟨heap_setCell_same hSP 2 _, (FINR w5 (Ext.refl _ _)).ext isTy_good ((Ext.refl (one S) _).set 2 _) (fun _ _ h => h) (fun b hb h => by have h : b = S := h; have hb : (some g : Option Nat) = some b := hb; injection hb with hb; omega),
                ((XWW.trans' XP fun b hb h => by have h : b = g := h; have := HWS.out; omega).trans' ((Ext.refl (one S) _).set 2 _) fun b hb h => by have h : b = S := h; have := HWS.out; omega)⟩
            have N2 : Hid (BgRel ds bs S (.slice ad ds.length capd) (.slice ar row.length capr) w (put3 (w5.setCell ⟨S, 2, none⟩ (.slice (some ⟨g, 0, none⟩) (i + 1) cap5)) g i (.int .i64 t'.kind) (.string ⟨t'.name.toArray⟩) (.slice a3 t'.args.length cap3)) (.slice (some ⟨g, 0, none⟩) (i + 1) cap5) (i + 1)) := hid
              ⟨(put3_ext _ g i _ _ _).heap hS5' (by unfold one; omega), FINR _ XS5, ((XWW.trans' XS5 fun b hb h => by have h : b = S := h; have := HWS.out; omega).trans' (put3_ext _ g i _ _ _) fun b hb h => by have h : b = g := h; have := HWS.out; omega)⟩
            have m0 := (cell_at hg (i * 3)).trans kk0
            have m1 := (cell_at hg (i * 3 + 1)).trans kk1
            have m2 := (cell_at hg (i * 3 + 2)).trans kk2
            have f0 := free_at hg (i * 3)
            have f1 := free_at hg (i * 3 + 1)
            have f2 := free_at hg (i * 3 + 2)
            have M0 := (cell_at hg5 (i * 3)).trans kk0
            have M1 := (cell_at hg5 (i * 3 + 1)).trans kk1
            have M2 := (cell_at hg5 (i * 3 + 2)).trans kk2
            have F0 := free_at hg5 (i * 3)
            have F1 := free_at hg5 (i * 3 + 1)
            have F2 := free_at hg5 (i * 3 + 2)
            have e2 := cell_at hS5 2
            have fe2 := free_at hS5 2
            have E2 := cell_at hSP 2
            have FE2 := free_at hSP 2
            unfold put3 at E2 FE2
            simp only [List.getElem?_toArray, List.getElem?_cons_zero, List.getElem?_cons_succ] at e2 E2
            clear hre hset FINR hgS XP hSP XS5 hg5 hS5' XWW hsn hux5 hbg hg kk0 kk1 kk2 hS5 own5 grow5 blk5 hlen5 X5
            go_wp2_with fail
            refine ⟨?_, ?_⟩
            · go_wp2_with fail
              refine ⟨?_, ?_⟩
              · go_wp2_with fail
                go_roundw
                case rel => exact ⟨i + 1, _, by go_num, by omega, N1⟩
                case measure => simp [RowKit.intOf]; omega
              · go_wp2_with fail
                refine ⟨?_, ?_⟩
                · go_wp2_with fail
                  go_roundw
                  case rel => exact ⟨i + 1, _, by go_num, by omega, N1⟩
                  case measure => simp [RowKit.intOf]; omega
                · go_wp2_with fail
                  refine ⟨?_, ?_⟩
                  · go_wp2_with fail
                    go_roundw
                    case rel => exact ⟨i + 1, _, by go_num, by omega, N1⟩
                    case measure => simp [RowKit.intOf]; omega
                  · go_wp2_with fail
                    go_roundw
                    case rel => exact ⟨i + 1, _, by go_num, by omega, N2⟩
                    case measure => simp [RowKit.intOf]; omega
            · go_wp2_with fail
              refine ⟨?_, ?_⟩
              · go_wp2_with fail
                refine ⟨?_, ?_⟩
                · go_wp2_with fail
                  go_roundw
                  case rel => exact ⟨i + 1, _, by go_num, by omega, N1⟩
                  case measure => simp [RowKit.intOf]; omega
                · go_wp2_with fail
                  refine ⟨?_, ?_⟩
                  · go_wp2_with fail
                    go_roundw
                    case rel => exact ⟨i + 1, _, by go_num, by omega, N1⟩
                    case measure => simp [RowKit.intOf]; omega
                  · go_wp2_with fail
                    go_roundw
                    case rel => exact ⟨i + 1, _, by go_num, by omega, N2⟩
                    case measure => simp [RowKit.intOf]; omega
              · go_wp2_with fail
                refine ⟨?_, ?_⟩
                · go_wp2_with fail
                  refine ⟨?_, ?_⟩
                  · go_wp2_with fail
                    go_roundw
                    case rel => exact ⟨i + 1, _, by go_num, by omega, N1⟩
                    case measure => simp [RowKit.intOf]; omega
                  · go_wp2_with fail
                    go_roundw
                    case rel => exact ⟨i + 1, _, by go_num, by omega, N2⟩
                    case measure => simp [RowKit.intOf]; omega
                · go_wp2_with fail
                  go_roundw
                  case rel => exact ⟨i + 1, _, by go_num, by omega, N2⟩
                  case measure => simp [RowKit.intOf]; omega
          · go_wp2_with fail
            have GZ0 := hid (heap_alloc_at (w := W2.drew) (k := W2.heap.size) rfl (.cells #[.int .i64 0, .string ⟨#[]⟩, .slice none 0 0] 33 (0, 0)))
            have XZ := hid (D2.out.alloc (.cells #[.int .i64 0, .string ⟨#[]⟩, .slice none 0 0] 33 (0, 0)))
            refine ⟨In.of XZ.out, ?_⟩
            go_wp2_with fail
            refine (CFU.out _ (X2.out.trans XZ.out)).mono ?_
            rintro e W4 ⟨u, rfl, ⟨ux, rfl, hux⟩, X3⟩
            have GZ := hid (X3.heap GZ0.out (fun h => h))
            have XZ3 := hid (XZ.out.trans X3)
            have X4 := hid (X2.out.trans XZ3.out)
            have HUX4 := hid hux
            obtain ⟨a3, cap3, rfl, _⟩ := hux
            obtain ⟨Z, hZ⟩ : ∃ Z, Z = W2.heap.size := ⟨_, rfl⟩
            rw [← hZ] at GZ ⊢
            clear hZ X3
            go_wp2_with fail
            refine ⟨In.of XZ3.out, ?_⟩
            have O4 := hid (ownsRow_ext OWI.out X4.out (fun _ _ h => h))
            have O4' := hid (ownsRow_ext OW.out X4.out (fun _ _ h => h))
            have S4 : Hid (Src Try.prog 3 31 (.slice (some ⟨Z, 0, none⟩) 1 1) 1 [.int .i64 0, .string ⟨#[]⟩, .slice none 0 0] W4) := hid (src3_at Try.underlying31 GZ.out rfl rfl rfl)
            have HSZ := hid (show S + 1 ≤ W4.heap.size by have := X4.out.size; have := HSW.out; omega)
            refine wpList_app _ rfl (.tmp 33) (.tmp 38) 31 31 rfl (S + 1) 33 i0 _ 3 48 Try.underlying31 I0.out I1.out I2.out I3.out rfl _ i cells rfl O4.out _ 1 _ rfl S4.out ?_ ?_ ?_ ?_
            · unfold maxLen; omega
            · omega
            · exact HSZ.out
            intro v5 w5 own5 grow5 blk5 _
            have hsn := RowOf.snoc isTy_good (xs := (bs.take i).map (fullP ds)) (x := Ty.zero) (cs := [.int .i64 0, .string ⟨#[]⟩, .slice none 0 0]) O4'.out (fun j hj => isTy_good.ext (HR0.out j hj) X4.out fun _ _ h => h.elim) (IsTy.of (k := 0) (n := []) (IsSl.nil _ _ _ _)) (by rw [HLN.out]; exact own5) grow5 blk5
            have hlen5 : ((bs.take i).map (fullP ds) ++ [Ty.zero]).length = i + 1 := by rw [List.length_append, HLN.out]; rfl
            have X5 : Ext (fun b => (Value.slice a1 i cap1).ownBlock = some b) W4 w5 := (Ext.refl _ _).grown grow5 fun k hk => .inl hk
            have hux5 : IsSl 3 IsTy (plus (one S) v5) w5 (.slice a3 t'.args.length cap3) t'.args := by
              have h1 : IsSl 3 IsTy (fun b => plus (one S) (.slice a1 i cap1) b ∨ v5.ownBlock = some b) W4 (.slice a3 t'.args.length cap3) t'.args := HUX4.out.mono isTy_good fun b hb q => by
                rcases q with q | q
                · exact q
                · rcases blk5 with e | e
                  · exact .inr (e ▸ q)
                  · rw [e] at q; injection q with q; omega
              exact (h1.ext isTy_good X5 fun b _ hb => .inl (.inr hb)).mono isTy_good fun b _ q => q.elim (fun h => .inl (.inl h)) .inr
            obtain ⟨g, cap5, y0, y1, y2, cur, hv5, hbg, hre, hg, kk0, kk1, kk2⟩ := hsn.cell isTy_good (i := i) (by rw [hlen5]; omega)
            rw [hlen5] at hv5
            subst hv5
            have hS5 := X5.heap (X4.out.heap R.out.s (fun h => h)) (fun h => by have := (OWI.out.lt S h).1; omega)
            have XW5 := hid ((X4.out.mono fun _ _ h => h.elim).trans X5)
            have hset : ((bs.take i).map (fullP ds) ++ [Ty.zero]).set i t' = (bs.take (i + 1)).map (fullP ds) := by rw [HTK.out]; exact set_last _ _ _ _ HLN.out
            have FINR : ∀ w6, Ext (one S) w5 w6 → RowOf 3 33 IsTy (one S) (put3 w6 g i (.int .i64 t'.kind) (.string ⟨t'.name.toArray⟩) (.slice a3 t'.args.length cap3)) (S + 1) (.slice (some ⟨g, 0, none⟩) (i + 1) cap5) ((bs.take (i + 1)).map (fullP ds)) := fun w6 x6 => by
              have h1 := RowOf.put isTy_good (hsn.ext isTy_good x6 (fun _ _ h => h) (fun b hb h => by have h : b = S := h; have hb : (some g : Option Nat) = some b := hb; injection hb with hb; omega)) (i := i) (by rw [hlen5]; omega) (x := t') (TyV.ty (hux5.ext isTy_good x6 fun _ _ h => .inl h))
              rw [hset] at h1
              exact h1
            have hgS : S ≠ g := by omega
            have XP := put3_ext w5 g i (.int .i64 t'.kind) (.string ⟨t'.name.toArray⟩) (.slice a3 t'.args.length cap3)
            have hSP := XP.heap hS5 (by unfold one; omega)
            have XS5 : Ext (one S) w5 (w5.setCell ⟨S, 2, none⟩ (.slice (some ⟨g, 0, none⟩) (i + 1) cap5)) := (Ext.refl (one S) w5).set 2 _
            have hg5 := XS5.heap hg (by unfold one; omega)
            have hS5' := heap_setCell_same hS5 2 (.slice (some ⟨g, 0, none⟩) (i + 1) cap5)
            have XWW : Ext none' w w5 := ((R.out.hx.trans X4.out).trans' X5 fun b hb h => by have := (OWI.out.lt b h).1; have := HWS.out; omega)
            have N1 : Hid (BgRel ds bs S (.slice ad ds.length capd) (.slice ar row.length capr) w ((put3 w5 g i (.int .i64 t'.kind) (.string ⟨t'.name.toArray⟩) (.slice a3 t'.args.length cap3)).setCell ⟨S, 2, none⟩ (.slice (some ⟨g, 0, none⟩) (i + 1) cap5)) (.slice (some ⟨g, 0, none⟩) (i + 1) cap5) (i + 1)) := hid
              ⟨heap_setCell_same hSP 2 _, (FINR w5 (Ext.refl _ _)).ext isTy_good ((Ext.refl (one S) _).set 2 _) (fun _ _ h => h) (fun b hb h => by have h : b = S := h; have hb : (some g : Option Nat) = some b := hb; injection hb with hb; omega),
                ((XWW.trans' XP fun b hb h => by have h : b = g := h; have := HWS.out; omega).trans' ((Ext.refl (one S) _).set 2 _) fun b hb h => by have h : b = S := h; have := HWS.out; omega)⟩
            have N2 : Hid (BgRel ds bs S (.slice ad ds.length capd) (.slice ar row.length capr) w (put3 (w5.setCell ⟨S, 2, none⟩ (.slice (some ⟨g, 0, none⟩) (i + 1) cap5)) g i (.int .i64 t'.kind) (.string ⟨t'.name.toArray⟩) (.slice a3 t'.args.length cap3)) (.slice (some ⟨g, 0, none⟩) (i + 1) cap5) (i + 1)) := hid
              ⟨(put3_ext _ g i _ _ _).heap hS5' (by unfold one; omega), FINR _ XS5, ((XWW.trans' XS5 fun b hb h => by have h : b = S := h; have := HWS.out; omega).trans' (put3_ext _ g i _ _ _) fun b hb h => by have h : b = g := h; have := HWS.out; omega)⟩
            have m0 := (cell_at hg (i * 3)).trans kk0
            have m1 := (cell_at hg (i * 3 + 1)).trans kk1
            have m2 := (cell_at hg (i * 3 + 2)).trans kk2
            have f0 := free_at hg (i * 3)
            have f1 := free_at hg (i * 3 + 1)
            have f2 := free_at hg (i * 3 + 2)
            have M0 := (cell_at hg5 (i * 3)).trans kk0
            have M1 := (cell_at hg5 (i * 3 + 1)).trans kk1
            have M2 := (cell_at hg5 (i * 3 + 2)).trans kk2
            have F0 := free_at hg5 (i * 3)
            have F1 := free_at hg5 (i * 3 + 1)
            have F2 := free_at hg5 (i * 3 + 2)
            have e2 := cell_at hS5 2
            have fe2 := free_at hS5 2
            have E2 := cell_at hSP 2
            have FE2 := free_at hSP 2
            unfold put3 at E2 FE2
            simp only [List.getElem?_toArray, List.getElem?_cons_zero, List.getElem?_cons_succ] at e2 E2
            clear hre hset FINR hgS XP hSP XS5 hg5 hS5' XWW hsn hux5 hbg hg kk0 kk1 kk2 hS5 own5 grow5 blk5 hlen5 X5
            go_wp2_with fail
            refine ⟨?_, ?_⟩
            · go_wp2_with fail
              refine ⟨?_, ?_⟩
              · go_wp2_with fail
                go_roundw
                case rel => exact ⟨i + 1, _, by go_num, by omega, N1⟩
                case measure => simp [RowKit.intOf]; omega
              · go_wp2_with fail
                refine ⟨?_, ?_⟩
                · go_wp2_with fail
                  go_roundw
                  case rel => exact ⟨i + 1, _, by go_num, by omega, N1⟩
                  case measure => simp [RowKit.intOf]; omega
                · go_wp2_with fail
                  refine ⟨?_, ?_⟩
                  · go_wp2_with fail
                    go_roundw
                    case rel => exact ⟨i + 1, _, by go_num, by omega, N1⟩
                    case measure => simp [RowKit.intOf]; omega
                  · go_wp2_with fail
                    go_roundw
                    case rel => exact ⟨i + 1, _, by go_num, by omega, N2⟩
                    case measure => simp [RowKit.intOf]; omega
            · go_wp2_with fail
              refine ⟨?_, ?_⟩
              · go_wp2_with fail
                refine ⟨?_, ?_⟩
                · go_wp2_with fail
                  go_roundw
                  case rel => exact ⟨i + 1, _, by go_num, by omega, N1⟩
                  case measure => simp [RowKit.intOf]; omega
                · go_wp2_with fail
                  refine ⟨?_, ?_⟩
                  · go_wp2_with fail
                    go_roundw
                    case rel => exact ⟨i + 1, _, by go_num, by omega, N1⟩
                    case measure => simp [RowKit.intOf]; omega
                  · go_wp2_with fail
                    go_roundw
                    case rel => exact ⟨i + 1, _, by go_num, by omega, N2⟩
                    case measure => simp [RowKit.intOf]; omega
              · go_wp2_with fail
                refine ⟨?_, ?_⟩
                · go_wp2_with fail
                  refine ⟨?_, ?_⟩
                  · go_wp2_with fail
                    go_roundw
                    case rel => exact ⟨i + 1, _, by go_num, by omega, N1⟩
                    case measure => simp [RowKit.intOf]; omega
                  · go_wp2_with fail
                    go_roundw
                    case rel => exact ⟨i + 1, _, by go_num, by omega, N2⟩
                    case measure => simp [RowKit.intOf]; omega
                · go_wp2_with fail
                  go_roundw
                  case rel => exact ⟨i + 1, _, by go_num, by omega, N2⟩
                  case measure => simp [RowKit.intOf]; omega
        · obtain rfl : i = bs.length := by omega
          have hrow := R.out.row
          rw [List.take_length] at hrow
          have HROW := hid hrow
          clear hrow
          go_wp2_with fail
          rw [← HQ.out]
          unfold BeginPost
          rw [if_neg (by rw [HTW.out]; simp; exact HL.out)]
          refine ⟨S, _, rfl, ⟨R.out.s, ?_, ?_, HROW.out.mono isTy_good (fun _ _ h => h.elim), by omega, by rw [List.length_map]; exact HL.out⟩, R.out.hx, HWS.out⟩
          · exact (HD.out.mono (B := plus none' _) isDf_good fun b hb h => h.elim id fun h => by have := (HROW.out.lt b h).1; have := HWS.out; omega).ext isDf_good R.out.hx fun _ _ h => h.elim
          · exact (HRW.out.mono (B := plus none' _) isStr_good fun b hb h => h.elim id fun h => by have := (HROW.out.lt b h).1; have := HWS.out; omega).ext isStr_good R.out.hx fun _ _ h => h.elim
  · have q0 : ((bs.length : Int) != (row.length : Int)) = true := by simp only [bne_iff_ne, ne_eq]; omega
    have HL := hid hl
    clear hl
    go_enter Try.func15, Try.ntmps15
    go_wp2_with fail
    rw [← HQ.out]
    unfold BeginPost
    rw [if_pos (.inl HL.out)]
    exact ⟨rfl, Ext.refl _ _⟩
end Go.Proofs.Ytmlhkgocilpobaa
