import Derived.Test.YtmlhkgocilpobaaKiIdx
namespace Go.Proofs.Ytmlhkgocilpobaa
open Go.RowKit Go.Lib Go.BigFrame
/-- What a function over types does at each element of a row: 'S i': what holds of the world before the i-th; 'A': what may turn; 'C': what turns. -/
def TurnStep (fn : Nat) (caps : Array Value) (C A : Nat → Prop) (w : World) (l rs : List Ty) (S : Nat → World → Prop) : Prop :=
  ∀ (i : Nat) (hi : i < l.length) (hi' : i < rs.length) (B : Nat → Prop) (w' : World) (v : Value), Ext C w w' → (∀ b, A b → B b) → (∀ b, B b → b < w'.heap.size) → (∀ b, b < w.heap.size → B b → A b) → TyV B w' l[i] v → S i w' →
    Calls Try.prog fn (#[v] ++ caps) w' fun e w2 => ∃ u, e = .returned u ∧ TyV B w2 rs[i] u ∧ Ext C w' w2 ∧ S (i + 1) w2
def SlPost (C A : Nat → Prop) (w : World) (rs : List Ty) (S : World → Prop) (e : Ending) (w' : World) : Prop := ∃ v, e = .returned v ∧ IsSl 3 IsTy A w' v rs ∧ Ext C w w' ∧ S w'
structure TurnRel (C A : Nat → Prop) (w wr : World) (rs : List Ty) (S : Nat → World → Prop) (o : Value) (i : Nat) : Prop where
  row : RowOf 3 33 IsTy A wr w.heap.size o (rs.take i)
  hx : Ext C w wr
  st : S i wr
theorem infoTy : (Try.prog.info? 33).map (fun i => (i.zero, i.size, i.bytes)) = some (some (.agg #[.int .i64 0, .string ⟨#[]⟩, .slice none 0 0]), 3, 48) := by kernel_rfl
set_option maxRecDepth 100000 in
set_option maxHeartbeats 1600000 in
theorem turned_any (fn : Nat) (caps : Array Value) (C A : Nat → Prop) (l rs : List Ty) (S : Nat → World → Prop) (v : Value) (w : World) (hrs : rs.length = l.length) (hl : l.length ≤ 100000000000)
    (hCA : ∀ b, C b → A b) (hA : ∀ b, A b → b < w.heap.size) (hv : IsSl 3 IsTy A w v l) (hS : S 0 w) (hSl : ∀ i w1 w2, S i w1 → Ext (fun b => ¬ A b) w1 w2 → S i w2) (hst : TurnStep fn caps C A w l rs S) (hfn : ∀ args w, (callFunc fn args).run Try.prog w = .ok (.enter fn args) w) :
    Calls Try.prog 41 #[v, .func (.func fn) #[] caps] w (SlPost C A w rs (S l.length)) := by
  have HV := hid hv
  have HST := hid hst
  obtain ⟨a, cap, rfl, hc, hn, _⟩ := hv
  have HS := hid hS
  obtain ⟨i0, hi0, hz0, hz1, hz2⟩ := info_parts infoTy
  have I0 := hid hi0
  have I1 := hid hz0
  have I2 := hid hz1
  have I3 := hid hz2
  clear hn hst hS hi0 hz0 hz1 hz2
  go_enter Try.func41, Try.ntmps41
  go_wp2_with fail
  go_loopw [5, 10] (fun o z wr => ∃ (i : Nat), z = .int .i64 (i : Nat) ∧ i ≤ l.length ∧ Hid (TurnRel C A w wr rs S o i)) (fun _ z _ => l.length - (RowKit.intOf z).toNat)
  case atStart => exact ⟨0, rfl, by omega, hid ⟨RowOf.nil _ _ _ _ _ _, Ext.refl _ _, HS.out⟩⟩
  case round =>
    obtain ⟨i, rfl, hle, R⟩ := hrel
    by_cases hi : i < l.length
    · have hri : i < rs.length := by omega
      have HVB := ((HV.out.mono (B := plus A u5) isTy_good fun b hb q => q.elim id fun h => absurd (R.out.row.lt b h).1 (by omega)).ext isTy_good R.out.hx fun b _ h => .inl (hCA b h))
      obtain ⟨b, off, cs, rfl, hAb, hbw, hcc, hty⟩ := HVB.at i hi
      obtain ⟨x, rfl, hx⟩ := hty.parts
      have c0 := hcc 0 _ rfl
      have c1 := hcc 1 _ rfl
      have c2 := hcc 2 _ rfl
      simp only [Nat.add_zero] at c0
      have HX := hid hx
      obtain ⟨a', cap', rfl, _⟩ := hx
      have hsz := R.out.hx.size
      have C1 := hid fun o => HST.out i hi hri (plus A u5) (wr.alloc o) _ (R.out.hx.alloc o) (fun b h => .inl h) (fun b h => by
        rw [World.size_alloc]
        rcases h with h | h
        · have := hA b h; omega
        · have := (R.out.row.lt b h).2; omega) (fun b hb h => h.elim id fun h => absurd (R.out.row.lt b h).1 (by omega)) ⟨_, rfl, HX.out.ext isTy_good ((Ext.refl none' wr).alloc o) fun _ _ h => h.elim⟩ (hSl i _ _ R.out.st (((Ext.refl none' wr).alloc o).mono fun _ _ h => h.elim))
      clear hcc hty
      go_wp2_with fail
      refine (C1.out _).mono ?_
      rintro e w2 ⟨u, rfl, ⟨y, rfl, hy⟩, X2, S2⟩
      have X2' := ((Ext.refl C wr).alloc _).trans X2
      have R2 := R.out.row.ext isTy_good X2' (fun b _ h => hCA b h) (fun g hg h => by have := (R.out.row.lt g hg).1; have := hA g (hCA g h); omega)
      have hlen : (rs.take i).length = i := by rw [List.length_take]; omega
      obtain ⟨cells, ho, hr⟩ := R2
      rw [hlen] at ho
      have HY := hid hy
      obtain ⟨a2, cap2, rfl, _⟩ := hy
      have O2 := hid (ownsRow_ext ho ((Ext.refl none' w2).alloc (.cells #[.int .i64 rs[i].kind, .string ⟨rs[i].name.toArray⟩, .slice a2 rs[i].args.length cap2] 33)) (fun _ _ h => h))
      have S2' := hid (three_src (P := Try.prog) Try.underlying31 w2 (.int .i64 rs[i].kind) (.string ⟨rs[i].name.toArray⟩) (.slice a2 rs[i].args.length cap2) 33 rfl rfl rfl)
      have HR := hid hr
      have HO := hid ho
      have HX2 := hid (R.out.hx.trans X2')
      have HS2 := hid S2
      have HSZ := hid (show w.heap.size ≤ w2.heap.size from (R.out.hx.trans X2').size)
      clear ho hr X2 X2' S2 HVB R C1
      go_wp2_with (at_builtin; refine wpList_app _ rfl (.tmp 14) (.tmp 18) 31 31 rfl w.heap.size 33 i0 _ 3 48 Try.underlying31 I0.out I1.out I2.out I3.out rfl _ i cells rfl O2.out _ 1 _ rfl S2'.out ?_ ?_ ?_ ?_)
      · unfold maxLen; omega
      · omega
      · have := HSZ.out; rw [World.size_alloc]; omega
      intro v3 w3 own3 grow3 blk3 _
      have N : Hid (TurnRel C A w w3 rs S v3 (i + 1)) := hid (by
        have X3 : Ext none' w2 (w2.alloc (.cells #[.int .i64 rs[i].kind, .string ⟨rs[i].name.toArray⟩, .slice a2 rs[i].args.length cap2] 33)) := (Ext.refl _ _).alloc _
        have hr3 : ∀ j (h : j < (rs.take i).length), IsTy (plus A u5) (w2.alloc (.cells #[.int .i64 rs[i].kind, .string ⟨rs[i].name.toArray⟩, .slice a2 rs[i].args.length cap2] 33)) (rs.take i)[j] ((cells.drop (j * 3)).take 3) := fun j h => isTy_good.ext (HR.out j h) X3 fun _ _ q => q.elim
        refine ⟨?_, ?_, ?_⟩
        · have e : rs.take (i + 1) = rs.take i ++ [rs[i]] := by rw [List.take_add_one, List.getElem?_eq_getElem hri]; rfl
          rw [e]
          exact RowOf.snoc isTy_good (by rw [hlen]; exact O2.out) hr3 (isTy_good.ext (TyV.ty HY.out) X3 fun _ _ q => q.elim) (by rw [hlen]; exact own3) grow3 (by rw [World.size_alloc]; exact blk3)
        · exact (HX2.out.alloc _).grown grow3 (fun g hg => .inr (O2.out.lt g hg).1)
        · refine hSl (i + 1) _ _ HS2.out (((Ext.refl _ w2).alloc _).grown grow3 (fun g hg => .inl fun h => ?_))
          have := hA g h
          have := (O2.out.lt g hg).1
          omega)
      clear own3 grow3 blk3
      go_wp2_with fail
      go_roundw
      case rel => exact ⟨i + 1, by go_num, by omega, N⟩
      case measure => simp [RowKit.intOf]; omega
    · obtain rfl : i = l.length := by omega
      have e : rs.take l.length = rs := by rw [← hrs, List.take_length]
      have R1 := R.out.row
      rw [e] at R1
      have R2 := hid (R1.sl isTy_good fun b hb h => by have := hA b h; omega)
      have HX := hid R.out.hx
      have HS2 := hid R.out.st
      clear R1 R e
      go_wp2_with fail
      go_ret
      exact ⟨_, rfl, R2.out, HX.out, HS2.out⟩
end Go.Proofs.Ytmlhkgocilpobaa
