import Derived.Test.YtbhpmmofgdppdaaGreatDoorZAl
/-
  kinds.turned from nodes to types, by a function value that has captured something; inner.
-/
namespace Go.Proofs.YtbhpmmofgdppdaaGreatDoor
open Go.RowKit Go.Lib Go.BigFrame
/-- A type is returned, all of it in memory that is not of A. -/
def TyPA (A : Nat → Prop) (w : World) (t : Ty) (e : Ending) (w' : World) : Prop := ∃ u, e = .returned u ∧ TyV A w' t u ∧ Ext none' w w'
def TysPA (A : Nat → Prop) (w : World) (l : List Ty) (e : Ending) (w' : World) : Prop := ∃ u, e = .returned u ∧ RowOf 3 32 IsTy A w' w.heap.size u l ∧ Ext none' w w'
structure TbRel (A : Nat → Prop) (w wr : World) (rs : List Ty) (o : Value) (i : Nat) : Prop where
  row : RowOf 3 32 IsTy A wr w.heap.size o (rs.take i)
  hx : Ext none' w wr
/-- A function value that tells the types of the nodes of D. -/
def TyTell (D : Nd → Prop) (g : Nd → Ty) (w : World) (v : Value) : Prop :=
  ∃ fn caps, v = .func (.func fn) #[] caps ∧ (∀ args w, (callFunc fn args).run Tryz.prog w = .ok (.enter fn args) w) ∧
    ∀ (t : Nd), D t → ∀ (B : Nat → Prop) (W : World) (x : Value), Ext none' w W → (∀ b, B b → b < W.heap.size) → NdV none' W t x → Calls Tryz.prog fn (#[x] ++ caps) W (TyPA B W (g t))
theorem TyTell.ext {D : Nd → Prop} {g : Nd → Ty} {w w' : World} {v : Value} (h : TyTell D g w v) (x : Ext none' w w') : TyTell D g w' v := by
  obtain ⟨fn, caps, rfl, hfn, h⟩ := h
  exact ⟨fn, caps, rfl, hfn, fun t ht B W y X hB hy => h t ht B W y (x.trans X) hB hy⟩
set_option maxRecDepth 100000 in
set_option maxHeartbeats 1600000 in
theorem turnedT_any (D : Nd → Prop) (g : Nd → Ty) (A : Nat → Prop) (l : List Nd) (v f : Value) (w : World) (hl : l.length ≤ bigD) (hA : ∀ b, A b → b < w.heap.size) (hv : IsSl 4 IsNd none' w v l) (hD : ∀ t ∈ l, D t) (hf : TyTell D g w f) :
    Calls Tryz.prog 54 #[v, f] w (TysPA A w (l.map g)) := by
  obtain ⟨fn, caps, rfl, hfn, hst⟩ := hf
  obtain ⟨rs, hrs⟩ : ∃ rs, l.map g = rs := ⟨_, rfl⟩
  have hrl : rs.length = l.length := by rw [← hrs, List.length_map]
  have HGT := hid fun (i : Nat) (h1 : i < l.length) (h2 : i < rs.length) => (show rs[i] = g l[i] by subst hrs; rw [List.getElem_map])
  rw [hrs]
  have HV := hid hv
  have HST := hid hst
  have HD := hid hD
  have HA := hid hA
  obtain ⟨a, cap, rfl, hc, hn, _⟩ := hv
  obtain ⟨i0, hi0, hz0, hz1, hz2⟩ := info_parts infoTy
  have I0 := hid hi0
  have I1 := hid hz0
  have I2 := hid hz1
  have I3 := hid hz2
  unfold bigD at hl
  clear hn hst hi0 hz0 hz1 hz2 hA hD hrs
  go_enter Tryz.func54, Tryz.ntmps54
  go_wp2_with fail
  go_loopw [5, 7, 10] (fun o _ z wr => ∃ (i : Nat), z = .int .i64 (i : Nat) ∧ i ≤ l.length ∧ Hid (TbRel A w wr rs o i)) (fun _ _ z _ => l.length - (RowKit.intOf z).toNat)
  case atStart => exact ⟨0, rfl, by omega, hid ⟨RowOf.nil _ _ _ _ _ _, Ext.refl _ _⟩⟩
  case round =>
    obtain ⟨i, rfl, hle, R⟩ := hrel
    have hsh := R.out.row.shape
    obtain ⟨a1, cap1, e1⟩ := hsh
    have hlen : (rs.take i).length = i := by rw [List.length_take]; omega
    rw [hlen] at e1
    subst e1
    by_cases hi : i < l.length
    · have hri : i < rs.length := by omega
      obtain ⟨b, off, cs, rfl, _, hbw, hcc, hty⟩ := (HV.out.ext isNd_good R.out.hx fun _ _ h => h.elim).at i hi
      obtain ⟨x, rfl, hx⟩ := hty.parts
      have c0 := hcc 0 _ rfl
      have c1 := hcc 1 _ rfl
      have c2 := hcc 2 _ rfl
      have c3 := hcc 3 _ rfl
      simp only [Nat.add_zero] at c0
      have HX := hid hx
      obtain ⟨a', cap', rfl, _⟩ := hx
      have C1 := hid fun W (X : Ext none' wr W) => HST.out l[i] (HD.out _ (List.getElem_mem hi)) (plus A (.slice a1 i cap1)) W (.agg #[.int .i64 l[i].kind, .string ⟨l[i].text.toArray⟩, .slice a' l[i].kids.length cap', .int .i64 l[i].pos]) (R.out.hx.trans X) (fun b h => by
        have := X.size
        have := R.out.hx.size
        rcases h with h | h
        · have := HA.out b h; omega
        · have := (R.out.row.lt b h).2; omega) ⟨_, rfl, HX.out.ext isNd_good X fun _ _ h => h⟩
      rw [← HGT.out i hi hri] at C1
      obtain ⟨t, ht⟩ : ∃ t, l[i] = t := ⟨_, rfl⟩
      rw [ht] at c0 c1 c2 c3 C1
      have htk : rs.take (i + 1) = rs.take i ++ [rs[i]] := by rw [List.take_add_one, List.getElem?_eq_getElem hri]; rfl
      obtain ⟨r, hr⟩ : ∃ r, rs[i] = r := ⟨_, rfl⟩
      rw [hr] at htk C1
      have HTK := hid htk
      have HLEN := hid hlen
      clear hcc hty htk hr ht hlen HX
      go_wp2_with fail
      refine (C1.out _ ((Ext.refl _ _).alloc _)).mono ?_
      rintro e w2 ⟨u, rfl, ⟨y, rfl, hy⟩, X2⟩
      have X2' := ((Ext.refl none' wr).alloc _).trans X2
      have R2 := R.out.row.ext isTy_good X2' (fun b _ h => h.elim) (fun g hg h => h.elim)
      obtain ⟨cells, ho, hr⟩ := R2
      rw [HLEN.out] at ho
      have HY := hid hy
      obtain ⟨a2, cap2, rfl, _⟩ := hy
      have O2 := hid (ownsRow_ext ho ((Ext.refl none' w2).alloc (.cells #[.int .i64 r.kind, .string ⟨r.name.toArray⟩, .slice a2 r.args.length cap2] 32)) (fun _ _ h => h))
      have S2' := hid (three_src (P := Tryz.prog) Tryz.underlying30 w2 (.int .i64 r.kind) (.string ⟨r.name.toArray⟩) (.slice a2 r.args.length cap2) 32 rfl rfl rfl)
      have HR := hid hr
      have HX2 := hid (R.out.hx.trans X2')
      have HSZ := hid (show w.heap.size ≤ w2.heap.size from (R.out.hx.trans X2').size)
      clear ho hr X2 X2' R C1
      go_wp2_with (at_builtin; refine wpList_app _ rfl (.tmp 14) (.tmp 18) 30 30 rfl w.heap.size 32 i0 _ 3 48 Tryz.underlying30 I0.out I1.out I2.out I3.out rfl _ i cells rfl O2.out _ 1 _ rfl S2'.out ?_ ?_ ?_ ?_)
      · unfold maxLen; omega
      · omega
      · have := HSZ.out; rw [World.size_alloc]; omega
      intro v3 w3 own3 grow3 blk3 _
      have N : Hid (TbRel A w w3 rs v3 (i + 1)) := hid (by
        have X3 : Ext none' w2 (w2.alloc (.cells #[.int .i64 r.kind, .string ⟨r.name.toArray⟩, .slice a2 r.args.length cap2] 32)) := (Ext.refl _ _).alloc _
        have hr3 : ∀ j (h : j < (rs.take i).length), IsTy (plus A (.slice a1 i cap1)) (w2.alloc (.cells #[.int .i64 r.kind, .string ⟨r.name.toArray⟩, .slice a2 r.args.length cap2] 32)) (rs.take i)[j] ((cells.drop (j * 3)).take 3) := fun j h => isTy_good.ext (HR.out j h) X3 fun _ _ q => q.elim
        refine ⟨?_, ?_⟩
        · rw [HTK.out]
          exact RowOf.snoc isTy_good (by rw [HLEN.out]; exact O2.out) hr3 (isTy_good.ext (TyV.ty HY.out) X3 fun _ _ q => q.elim) (by rw [HLEN.out]; exact own3) grow3 (by rw [World.size_alloc]; exact blk3)
        · exact (HX2.out.alloc _).grown grow3 (fun g hg => .inr (O2.out.lt g hg).1))
      clear own3 grow3 blk3
      go_wp2_with fail
      go_roundw
      case rel => exact ⟨i + 1, by go_num, by omega, N⟩
      case measure => simp [RowKit.intOf]; omega
    · obtain rfl : i = l.length := by omega
      have e : rs.take l.length = rs := by rw [← hrl, List.take_length]
      have R1 := R.out.row
      rw [e] at R1
      have R2 := hid R1
      have HX := hid R.out.hx
      clear R1 R e
      go_wp2_with fail
      go_ret
      exact ⟨_, rfl, R2.out, HX.out⟩
end Go.Proofs.YtbhpmmofgdppdaaGreatDoor
