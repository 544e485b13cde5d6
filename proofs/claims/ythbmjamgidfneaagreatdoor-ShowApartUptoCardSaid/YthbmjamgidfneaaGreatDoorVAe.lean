import Derived.Test.YthbmjamgidfneaaGreatDoorVAb
import Derived.Test.YthbmjamgidfneaaGreatDoorVAc
import Derived.Test.YthbmjamgidfneaaGreatDoorVAd
import Derived.Lib.TrimUEq
import Derived.Test.YthbmjamgidfneaaGreatDoorVAa
import Derived.Test.YthbmjamgidfneaaGreatDoorProg
set_option maxRecDepth 100000
set_option maxHeartbeats 6400000
namespace Go.Proofs.YthbmjamgidfneaaGreatDoor
open Go.RowKit Go.Lib Go.BigFrame
def TellV (D : Nd → Prop) (p : Nd → List UInt8) (w : World) (v : Value) : Prop :=
 ∃ fn first caps, v = .func (.func fn) first caps ∧ (∀ args w, (callFunc fn args).run Tryz.prog w = .ok (.enter fn args) w) ∧
  ∀ (t : Nd), D t → ∀ (W : World) (x : Value), Ext none' w W → NdV none' W t x → Calls Tryz.prog fn (first ++ #[x] ++ caps) W (StrPost (p t) W)
theorem TellV.ext {D : Nd → Prop} {p : Nd → List UInt8} {w w' : World} {v : Value} (h : TellV D p w v) (x : Ext none' w w') : TellV D p w' v := by
 obtain ⟨fn, first, caps, rfl, hfn, h⟩ := h
 exact ⟨fn, first, caps, rfl, hfn, fun t ht W y X hy => h t ht W y (x.trans X) hy⟩
theorem TellV.top {D : Nd → Prop} {p : Nd → List UInt8} {w : World} {fn : Nat} (hfn : ∀ args w, (callFunc fn args).run Tryz.prog w = .ok (.enter fn args) w) (h : ∀ (t : Nd), D t → ∀ (W : World) (x : Value), NdV none' W t x → Calls Tryz.prog fn #[x] W (StrPost (p t) W)) : TellV D p w (.func (.func fn) #[] #[]) :=
 ⟨fn, _, _, rfl, hfn, fun t ht W x _ hx => h t ht W x hx⟩
theorem join_any (l : List (List UInt8)) (sep : List UInt8) (v : Value) (w : World) (hv : IsStrs none' w v l) (hn : l.length ≤ 100000000000) (hl : (Lib.join l sep).length ≤ 140737488355328) : Calls Tryz.prog 91 #[v, .string ⟨sep.toArray⟩] w (StrPost (Lib.join l sep) w) := by
 obtain ⟨a, cap, rfl, hcap, hnone, h⟩ := hv
 by_cases hne : l = []
 · subst hne
   exact (Tryz.strings_Join_none a cap ⟨sep.toArray⟩ w).mono fun e w' ⟨he, hw⟩ => ⟨he, hw ▸ Ext.refl _ _⟩
 · obtain ⟨b, off, rfl, _, hb, h⟩ := h hne
   have hm : (l.map fun s => (⟨s.toArray⟩ : ByteArray)).map (·.data.toList) = l := by
    rw [List.map_map]
    conv => rhs; rw [← List.map_id l]
    exact List.map_congr_left fun s _ => rfl
   have C := Tryz.strings_Join b off cap (l.map fun s => ⟨s.toArray⟩) ⟨sep.toArray⟩ w (fun j x hj => by
    have hjl : j < l.length := by have := (List.getElem?_eq_some_iff.1 hj).1; simpa using this
    obtain ⟨cs, h1, rfl⟩ := h j hjl
    have := h1 0 _ rfl
    rw [Nat.add_zero, Nat.mul_one] at this
    rw [this]
    rw [List.getElem?_map, List.getElem?_eq_getElem hjl] at hj
    injection hj with hj
    rw [← hj]) hb (by rw [List.length_map]; omega) (by rw [List.length_map]; exact hcap) (by rw [hm]; exact hl)
   rw [List.length_map, hm] at C
   exact C.mono fun e w' ⟨he, hw⟩ => ⟨he, Ext.of_below hw⟩
structure PtRel (base : Nat) (w wr : World) (v : Value) (done : List (List UInt8)) : Prop where
 row : wr.ownsRow base 9 1 v done.length (strVals done)
 x : Ext none' w wr
theorem strVals_snoc (l : List (List UInt8)) (s : List UInt8) : strVals (l ++ [s]) = strVals l ++ [.string ⟨s.toArray⟩] := by simp [strVals]
theorem PtRel.done {base : Nat} {w wr : World} {v : Value} {l : List (List UInt8)} (h : PtRel base w wr v l) : IsStrs none' wr v l := (str_row (A := none') h.row).sl isStr_good fun _ _ h => h
theorem between_any (sep : List UInt8) (l : List (List UInt8)) (v : Value) (w : World) (hv : IsStrs none' w v l) (hn : l.length ≤ 1000) (hl : sep.length * l.length + Lib.lens l ≤ 140737488355328) : Calls Tryz.prog 46 #[.string ⟨sep.toArray⟩, v] w (StrPost (betw sep l) w) := by
 have HV := hid hv
 have CJ := hid fun W u (hu : IsStrs none' W u (l.filter fun p => !p.isEmpty)) => join_any _ sep u W hu (by have := List.length_filter_le (fun p : List UInt8 => !p.isEmpty) l; omega) (by
  have h1 := join_take (l.filter fun p => !p.isEmpty) sep
  have h2 := lens_filter (fun p => !p.isEmpty) l
  have h3 := Nat.mul_le_mul_left sep.length (List.length_filter_le (fun p => !p.isEmpty) l)
  omega)
 obtain ⟨a, cap, rfl, hc, hnn, _⟩ := hv
 obtain ⟨r, hr⟩ : ∃ r, r = betw sep l := ⟨_, rfl⟩
 rw [← hr]
 have HR := hid (show Lib.join (l.filter fun p => !p.isEmpty) sep = r from hr.symm)
 rw [HR.out] at CJ
 obtain ⟨i0, hi0, hz0, hz1, hz2⟩ := info_parts infoStr
 have I0 := hid hi0
 have I1 := hid hz0
 have I2 := hid hz1
 have I3 := hid hz2
 clear hi0 hz0 hz1 hz2 hnn hr hl
 go_enter Tryz.func46, Tryz.ntmps46
 go_wp2_with fail
 go_loopw [5, 7, 10] (fun o _ z wr => ∃ (i : Nat), z = .int .i64 (i : Nat) ∧ i ≤ l.length ∧ Hid (PtRel w.heap.size w wr o ((l.take i).filter fun p => !p.isEmpty))) (fun _ _ z _ => l.length - (RowKit.intOf z).toNat)
 case atStart => exact ⟨0, rfl, by omega, hid ⟨World.ownsRow_nil _ _ _ _, Ext.refl _ _⟩⟩
 case round =>
  obtain ⟨i, rfl, hle, R⟩ := hrel
  by_cases hi : i < l.length
  · obtain ⟨b, off, rfl, hcell⟩ := IsStrs.cell (HV.out.ext isStr_good R.out.x fun _ _ h => h.elim) i hi
    obtain ⟨s, hs⟩ : ∃ s, l[i] = s := ⟨_, rfl⟩
    rw [hs] at hcell
    have htk : l.take (i + 1) = l.take i ++ [s] := by rw [List.take_add_one, List.getElem?_eq_getElem hi, hs]; rfl
    have HTK := hid htk
    have hsh := own_slice R.out.row
    obtain ⟨a1, cap1, e1⟩ := hsh
    have hdl : ((l.take i).filter fun p => !p.isEmpty).length ≤ 1000 := by
     have := List.length_filter_le (fun p : List UInt8 => !p.isEmpty) (l.take i)
     rw [List.length_take] at this
     omega
    obtain ⟨d, hd⟩ : ∃ d, ((l.take i).filter fun p => !p.isEmpty) = d := ⟨_, rfl⟩
    rw [hd] at R e1 hdl
    have HD := hid hd
    clear htk hs hd
    by_cases hemp : s = []
    · have q : (s != []) = false := by simp [hemp]
      have N : Hid (PtRel w.heap.size w wr u5 ((l.take (i + 1)).filter fun p => !p.isEmpty)) := hid (by
       rw [HTK.out, List.filter_append, HD.out, hemp]
       simpa using R.out)
      subst hemp
      clear R
      go_wp2_with fail
      go_roundw
      case rel => exact ⟨i + 1, by go_num, by omega, N⟩
      case measure => simp [RowKit.intOf]; omega
    · have q : (s != []) = true := by simpa using hemp
      have qi : s.isEmpty = false := by simpa using hemp
      have X1 : Hid (Ext none' wr (wr.alloc (.cells #[.string ⟨s.toArray⟩] 9))) := hid ((Ext.refl _ _).alloc _)
      have O2 := hid (ownsRow_ext R.out.row X1.out fun _ _ h => h)
      have S2 := hid (Src.one (P := Tryz.prog) Tryz.underlying84 wr (.string ⟨s.toArray⟩) 9 rfl)
      have HSZ := hid (Nat.le_trans R.out.x.size X1.out.size)
      have HX := hid R.out.x
      have HQ := hid qi
      subst e1
      clear hemp R
      go_wp2_with (at_builtin; refine wpList_app _ rfl (.tmp 16) (.tmp 18) 84 84 rfl w.heap.size 9 i0 _ 1 16 Tryz.underlying84 I0.out I1.out I2.out I3.out rfl _ d.length (strVals d) rfl O2.out _ 1 _ rfl S2.out ?_ ?_ ?_ ?_)
      · unfold maxLen; omega
      · omega
      · exact HSZ.out
      intro v3 w3 own3 grow3 blk3 _
      have N : Hid (PtRel w.heap.size w w3 v3 ((l.take (i + 1)).filter fun p => !p.isEmpty)) := hid (by
       rw [HTK.out, List.filter_append, HD.out]
       have e : [s].filter (fun p => !p.isEmpty) = [s] := by simp [HQ.out]
       rw [e]
       exact ⟨by rw [strVals_snoc, List.length_append]; exact own3, (HX.out.trans X1.out).grown grow3 (fun g hg => .inr (O2.out.lt g hg).1)⟩)
      clear own3 grow3 blk3
      go_wp2_with fail
      go_roundw
      case rel => exact ⟨i + 1, by go_num, by omega, N⟩
      case measure => simp [RowKit.intOf]; omega
  · obtain rfl : i = l.length := by omega
    rw [List.take_length] at R
    have hsh := own_slice R.out.row
    obtain ⟨a1, cap1, e1⟩ := hsh
    have CC := hid (CJ.out _ _ R.out.done)
    have HX := hid R.out.x
    subst e1
    clear R
    go_wp2_with fail
    refine CC.out.mono ?_
    rintro e w1 ⟨rfl, X1⟩
    have X1 := hid (HX.out.trans X1)
    go_wp2_with fail
    go_ret
    exact ⟨rfl, X1.out⟩
theorem each_any (D : Nd → Prop) (p : Nd → List UInt8) (sep : List UInt8) (l : List Nd) (v u : Value) (w : World) (hv : IsSl 4 IsNd none' w v l) (hu : TellV D p w u) (hD : ∀ (i : Nat) (h : i < l.length), D l[i]) (hn : l.length ≤ bigD) (hl : sep.length * l.length + Lib.lens (l.map p) ≤ 140737488355328) :
  Calls Tryz.prog 47 #[v, .string ⟨sep.toArray⟩, u] w (StrPost (Lib.join (l.map p) sep) w) := by
 have HV := hid hv
 unfold bigD at hn
 have CJ := hid fun W u (hu : IsStrs none' W u (l.map p)) => join_any _ sep u W hu (by rw [List.length_map]; omega) (by
  have h1 := join_take (l.map p) sep
  rw [List.length_map] at h1
  omega)
 obtain ⟨fn, first, caps, rfl, hfn, hst⟩ := hu
 have HST := hid hst
 have HDD := hid hD
 obtain ⟨a, cap, rfl, hc, hnn, _⟩ := hv
 obtain ⟨r, hr⟩ : ∃ r, r = Lib.join (l.map p) sep := ⟨_, rfl⟩
 rw [← hr] at CJ ⊢
 obtain ⟨i0, hi0, hz0, hz1, hz2⟩ := info_parts infoStr
 have I0 := hid hi0
 have I1 := hid hz0
 have I2 := hid hz1
 have I3 := hid hz2
 clear hi0 hz0 hz1 hz2 hnn hr hl hst hD
 go_enter Tryz.func47, Tryz.ntmps47
 go_wp2_with fail
 go_loopw [7, 9, 12] (fun o _ z wr => ∃ (i : Nat), z = .int .i64 (i : Nat) ∧ i ≤ l.length ∧ Hid (PtRel w.heap.size w wr o ((l.take i).map p))) (fun _ _ z _ => l.length - (RowKit.intOf z).toNat)
 case atStart => exact ⟨0, rfl, by omega, hid ⟨World.ownsRow_nil _ _ _ _, Ext.refl _ _⟩⟩
 case round =>
  obtain ⟨i, rfl, hle, R⟩ := hrel
  by_cases hi : i < l.length
  · obtain ⟨b, off, cs, rfl, _, hbw, hcc, hty⟩ := (HV.out.ext isNd_good R.out.x fun _ _ h => h.elim).at i hi
    obtain ⟨y, rfl, hy⟩ := hty.parts
    have HY := hid hy
    have c0 := hcc 0 _ rfl
    have c1 := hcc 1 _ rfl
    have c2 := hcc 2 _ rfl
    have c3 := hcc 3 _ rfl
    simp only [Nat.add_zero] at c0
    obtain ⟨a3, cap3, rfl, _⟩ := hy
    have CT := hid fun W (X : Ext none' wr W) => HST.out l[i] (HDD.out i hi) W (.agg #[.int .i64 l[i].kind, .string ⟨l[i].text.toArray⟩, .slice a3 l[i].kids.length cap3, .int .i64 l[i].pos]) (R.out.x.trans X) ⟨_, rfl, HY.out.ext isNd_good X fun _ _ h => h⟩
    have htk : (l.take (i + 1)).map p = (l.take i).map p ++ [p l[i]] := by rw [List.take_add_one, List.getElem?_eq_getElem hi, List.map_append]; rfl
    obtain ⟨s, hs⟩ : ∃ s, p l[i] = s := ⟨_, rfl⟩
    rw [hs] at htk CT
    obtain ⟨t, ht⟩ : ∃ t, l[i] = t := ⟨_, rfl⟩
    rw [ht] at c0 c1 c2 c3 CT
    have HTK := hid htk
    have hsh := own_slice R.out.row
    obtain ⟨a1, cap1, e1⟩ := hsh
    obtain ⟨d, hd⟩ : ∃ d, ((l.take i).map p) = d := ⟨_, rfl⟩
    have hdl : d.length = i := by rw [← hd, List.length_map, List.length_take]; omega
    rw [hd] at R e1
    rw [hdl] at e1
    have HD := hid hd
    have HDL := hid hdl
    subst e1
    clear htk hs hd ht hcc hty HY hdl
    go_wp2_with fail
    refine (CT.out _ ((Ext.refl _ _).alloc _)).mono ?_
    rintro e w2 ⟨rfl, X2⟩
    have X2 := hid (((Ext.refl none' wr).alloc _).trans X2)
    have X1 : Hid (Ext none' wr (w2.alloc (.cells #[.string ⟨s.toArray⟩] 9))) := hid (X2.out.alloc _)
    have O2 := hid (ownsRow_ext R.out.row X1.out fun _ _ h => h)
    rw [HDL.out] at O2
    have S2 := hid (Src.one (P := Tryz.prog) Tryz.underlying84 w2 (.string ⟨s.toArray⟩) 9 rfl)
    have HSZ := hid (Nat.le_trans R.out.x.size X1.out.size)
    have HX := hid R.out.x
    clear R
    go_wp2_with (at_builtin; refine wpList_app _ rfl (.tmp 16) (.tmp 20) 84 84 rfl w.heap.size 9 i0 _ 1 16 Tryz.underlying84 I0.out I1.out I2.out I3.out rfl _ i (strVals d) rfl O2.out _ 1 _ rfl S2.out ?_ ?_ ?_ ?_)
    · unfold maxLen; omega
    · omega
    · exact HSZ.out
    intro v3 w3 own3 grow3 blk3 _
    have N : Hid (PtRel w.heap.size w w3 v3 ((l.take (i + 1)).map p)) := hid (by
     rw [HTK.out, HD.out]
     exact ⟨by rw [strVals_snoc, List.length_append, HDL.out]; exact own3, (HX.out.trans X1.out).grown grow3 (fun g hg => .inr (O2.out.lt g hg).1)⟩)
    clear own3 grow3 blk3
    go_wp2_with fail
    go_roundw
    case rel => exact ⟨i + 1, by go_num, by omega, N⟩
    case measure => simp [RowKit.intOf]; omega
  · obtain rfl : i = l.length := by omega
    rw [List.take_length] at R
    have hsh := own_slice R.out.row
    obtain ⟨a1, cap1, e1⟩ := hsh
    have CC := hid (CJ.out _ _ R.out.done)
    have HX := hid R.out.x
    rw [List.length_map] at e1
    subst e1
    clear R
    go_wp2_with fail
    refine CC.out.mono ?_
    rintro e w1 ⟨rfl, X1⟩
    have X1 := hid (HX.out.trans X1)
    go_wp2_with fail
    go_ret
    exact ⟨rfl, X1.out⟩
theorem optional_any (D : Nd → Prop) (p : Nd → List UInt8) (t : Nd) (v u : Value) (w : World) (hv : NdV none' w t v) (hu : TellV D p w u) (hD : t.kind ≠ 0 → D t) : Calls Tryz.prog 48 #[v, u] w (StrPost (optT p t) w) := by
 have HV := hid hv
 obtain ⟨x, rfl, hx⟩ := hv
 obtain ⟨a1, cap1, rfl, _⟩ := hx
 obtain ⟨fn, first, caps, rfl, hfn, hst⟩ := hu
 obtain ⟨r, hr⟩ : ∃ r, r = optT p t := ⟨_, rfl⟩
 rw [← hr]
 unfold optT at hr
 by_cases hk : t.kind = 0
 · rw [if_pos hk] at hr
   have HR := hid hr
   obtain ⟨tk, htk⟩ : ∃ tk, t.kind = tk := ⟨_, rfl⟩
   rw [htk] at hk HV ⊢
   subst hk
   clear hr htk hst
   go_enter Tryz.func48, Tryz.ntmps48
   go_wp2_with fail
   go_ret
   exact ⟨by rw [HR.out]; rfl, (Ext.refl _ _).alloc _⟩
 · rw [if_neg hk] at hr
   have q : (t.kind == 0) = false := by simpa using hk
   have CT := hid fun W (X : Ext none' w W) => hst t (hD hk) W _ X (HV.out.ext X fun _ _ h => h)
   rw [← hr] at CT
   clear hr hk hst hD
   go_enter Tryz.func48, Tryz.ntmps48
   go_wp2_with fail
   refine (CT.out _ ((Ext.refl _ _).alloc _)).mono ?_
   rintro e w1 ⟨rfl, X1⟩
   have X1 := hid (((Ext.refl none' w).alloc _).trans X1)
   go_wp2_with fail
   go_ret
   exact ⟨rfl, X1.out⟩
end Go.Proofs.YthbmjamgidfneaaGreatDoor
namespace Go.Proofs.YthbmjamgidfneaaGreatDoor
open Go.Lib
def bnd : Nat → List UInt8 → Nat → Int → Int → List (Nat × Int × Int)
 | 0, _, i, l, c => [(i, l, c)]
 | f + 1, s, i, l, c =>
  if s = [] then [(i, l, c)]
  else (i, l, c) :: (if (decodeL s).1 = 10 then bnd f (s.drop (decodeL s).2) (i + (decodeL s).2) (l + 1) 1
   else bnd f (s.drop (decodeL s).2) (i + (decodeL s).2) l (c + 1))
def rest (s : List UInt8) (i : Nat) (l c : Int) : List (Nat × Int × Int) := bnd s.length s i l c
def letterB (c : Nat) : Bool := c == 95 || (decide (97 ≤ c) && decide (c ≤ 122)) || (decide (65 ≤ c) && decide (c ≤ 90))
def figB (c : Nat) : Bool := decide (48 ≤ c) && decide (c ≤ 57)
def idB (c : UInt8) : Bool := letterB c.toNat || figB c.toNat
def words1 : List (List UInt8) := [[98, 114, 101, 97, 107], [99, 111, 110, 116, 105, 110, 117, 101], [101, 108, 115, 101], [102, 111, 114], [102, 117, 110, 99], [105, 102], [105, 109, 112, 111, 114, 116], [105, 110, 116, 101, 114, 102, 97, 99, 101], [112, 97, 99, 107, 97, 103, 101], [114, 97, 110, 103, 101], [114, 101, 116, 117, 114, 110], [115, 116, 114, 117, 99, 116], [116, 121, 112, 101], [118, 97, 114]]
def words2 : List (List UInt8) := [[99, 97, 115, 101], [99, 104, 97, 110], [99, 111, 110, 115, 116], [100, 101, 102, 97, 117, 108, 116], [100, 101, 102, 101, 114], [102, 97, 108, 108, 116, 104, 114, 111, 117, 103, 104], [103, 111], [103, 111, 116, 111], [109, 97, 112], [115, 101, 108, 101, 99, 116], [115, 119, 105, 116, 99, 104]]
def signs1 : List (List UInt8) := [[43], [45], [42], [47], [37], [38], [124], [94], [60], [62], [61], [33], [40], [41], [91], [93], [123], [125], [44], [59], [46], [58], [126]]
def wordK (s : List UInt8) : Nat := if s ∈ words1 then 1 else if s ∈ words2 then 2 else 0
def nameB (s : List UInt8) : Bool := match s with
 | [] => false
 | c :: _ => !figB c.toNat && wordK s == 0 && s.all idB
structure Tok where
 kind : Nat
 text : List UInt8
 pos : Nat
 deriving DecidableEq
inductive NoteR where
 | none
 | bad
 | len (n : Nat)
end Go.Proofs.YthbmjamgidfneaaGreatDoor
namespace Go.Proofs.YthbmjamgidfneaaGreatDoor
open Go.RowKit Go.Lib
def RetBool (b : Bool) (w : World) (e : Ending) (w' : World) : Prop := e = .returned (.bool b) ∧ w = w'
theorem letter_any (c : Nat) (w : World) : Calls Tryz.prog 113 #[.int .i32 c] w (RetBool (letterB c) w) := by
 obtain ⟨b, hb⟩ : ∃ b, b = letterB c := ⟨_, rfl⟩
 rw [← hb]
 have HB := hid hb
 clear hb
 go_enter Tryz.func113, Tryz.ntmps113
 go_wp2
 all_goals go_ret
 all_goals refine ⟨?_, rfl⟩
 all_goals congr 2
 all_goals rw [HB.out]; simp [letterB]
 all_goals first | omega | (rw [Bool.eq_iff_iff]; simp; omega)
theorem figure_any (c : Nat) (w : World) : Calls Tryz.prog 116 #[.int .i32 c] w (RetBool (figB c) w) := by
 obtain ⟨b, hb⟩ : ∃ b, b = figB c := ⟨_, rfl⟩
 rw [← hb]
 have HB := hid hb
 clear hb
 go_enter Tryz.func116, Tryz.ntmps116
 go_wp2
 all_goals go_ret
 all_goals refine ⟨?_, rfl⟩
 all_goals congr 2
 all_goals rw [HB.out]; simp [figB]
 all_goals first | omega | (rw [Bool.eq_iff_iff]; simp; omega)
theorem word_none (s : List UInt8) (w : World) (h1 : s ∉ words1) (h2 : s ∉ words2) : Calls Tryz.prog 118 #[.string ⟨s.toArray⟩] w fun e w' => e = .returned (.int .i64 0) ∧ w = w' := by
 simp only [words1, words2, List.mem_cons, List.mem_nil_iff, or_false, not_or] at h1 h2
 obtain ⟨a0, a1, a2, a3, a4, a5, a6, a7, a8, a9, a10, a11, a12, a13⟩ := h1
 obtain ⟨b0, b1, b2, b3, b4, b5, b6, b7, b8, b9, b10⟩ := h2
 have c0 : (s == [98, 114, 101, 97, 107]) = false := by simpa using a0
 have c1 : (s == [99, 111, 110, 116, 105, 110, 117, 101]) = false := by simpa using a1
 have c2 : (s == [101, 108, 115, 101]) = false := by simpa using a2
 have c3 : (s == [102, 111, 114]) = false := by simpa using a3
 have c4 : (s == [102, 117, 110, 99]) = false := by simpa using a4
 have c5 : (s == [105, 102]) = false := by simpa using a5
 have c6 : (s == [105, 109, 112, 111, 114, 116]) = false := by simpa using a6
 have c7 : (s == [105, 110, 116, 101, 114, 102, 97, 99, 101]) = false := by simpa using a7
 have c8 : (s == [112, 97, 99, 107, 97, 103, 101]) = false := by simpa using a8
 have c9 : (s == [114, 97, 110, 103, 101]) = false := by simpa using a9
 have c10 : (s == [114, 101, 116, 117, 114, 110]) = false := by simpa using a10
 have c11 : (s == [115, 116, 114, 117, 99, 116]) = false := by simpa using a11
 have c12 : (s == [116, 121, 112, 101]) = false := by simpa using a12
 have c13 : (s == [118, 97, 114]) = false := by simpa using a13
 have d0 : (s == [99, 97, 115, 101]) = false := by simpa using b0
 have d1 : (s == [99, 104, 97, 110]) = false := by simpa using b1
 have d2 : (s == [99, 111, 110, 115, 116]) = false := by simpa using b2
 have d3 : (s == [100, 101, 102, 97, 117, 108, 116]) = false := by simpa using b3
 have d4 : (s == [100, 101, 102, 101, 114]) = false := by simpa using b4
 have d5 : (s == [102, 97, 108, 108, 116, 104, 114, 111, 117, 103, 104]) = false := by simpa using b5
 have d6 : (s == [103, 111]) = false := by simpa using b6
 have d7 : (s == [103, 111, 116, 111]) = false := by simpa using b7
 have d8 : (s == [109, 97, 112]) = false := by simpa using b8
 have d9 : (s == [115, 101, 108, 101, 99, 116]) = false := by simpa using b9
 have d10 : (s == [115, 119, 105, 116, 99, 104]) = false := by simpa using b10
 clear a0 a1 a2 a3 a4 a5 a6 a7 a8 a9 a10 a11 a12 a13 b0 b1 b2 b3 b4 b5 b6 b7 b8 b9 b10
 go_enter Tryz.func118, Tryz.ntmps118
 go_wp2
 go_ret
 exact ⟨rfl, rfl⟩
theorem word_one (s : List UInt8) (w : World) (h1 : s ∈ words1) : Calls Tryz.prog 118 #[.string ⟨s.toArray⟩] w fun e w' => e = .returned (.int .i64 1) ∧ w = w' := by
 simp only [words1, List.mem_cons, List.mem_nil_iff, or_false] at h1
 rcases h1 with rfl | rfl | rfl | rfl | rfl | rfl | rfl | rfl | rfl | rfl | rfl | rfl | rfl | rfl
 all_goals
  go_enter Tryz.func118, Tryz.ntmps118
  go_wp2
  go_ret
  exact ⟨rfl, rfl⟩
theorem word_two (s : List UInt8) (w : World) (h1 : s ∈ words2) : Calls Tryz.prog 118 #[.string ⟨s.toArray⟩] w fun e w' => e = .returned (.int .i64 2) ∧ w = w' := by
 simp only [words2, List.mem_cons, List.mem_nil_iff, or_false] at h1
 rcases h1 with rfl | rfl | rfl | rfl | rfl | rfl | rfl | rfl | rfl | rfl | rfl
 all_goals
  go_enter Tryz.func118, Tryz.ntmps118
  go_wp2
  go_ret
  exact ⟨rfl, rfl⟩
def RetNat (z : Nat) (w : World) (e : Ending) (w' : World) : Prop := e = .returned (.int .i64 z) ∧ w = w'
theorem word_any (s : List UInt8) (w : World) : Calls Tryz.prog 118 #[.string ⟨s.toArray⟩] w (RetNat (wordK s) w) := by
 unfold wordK
 split
 · exact word_one s w (by assumption)
 · split
   · exact word_two s w (by assumption)
   · exact word_none s w (by assumption) (by assumption)
end Go.Proofs.YthbmjamgidfneaaGreatDoor
namespace Go.Proofs.YthbmjamgidfneaaGreatDoor
open Go.RowKit Go.Lib Go.BigFrame
theorem decodeN_low (n b0 b1 b2 b3 : Nat) (h : b0 < 128) : decodeN n b0 b1 b2 b3 = (b0, 1) := by unfold decodeN; rw [if_pos h]
theorem decodeN_ge (n b0 b1 b2 b3 : Nat) (h : 128 ≤ b0) : 128 ≤ (decodeN n b0 b1 b2 b3).1 := by
 unfold decodeN
 repeat' split
 all_goals simp only
 all_goals omega
theorem idB_high {c : UInt8} (h : 128 ≤ c.toNat) : idB c = false := by
 unfold idB letterB figB
 simp
 omega
theorem id_head (c : UInt8) (t : List UInt8) : (letterB (decodeL (c :: t)).1 || figB (decodeL (c :: t)).1) = idB c ∧ (idB c = true → (decodeL (c :: t)).2 = 1) := by
 rw [decodeL_N]
 simp only [List.getD_cons_zero]
 by_cases h : c.toNat < 128
 · rw [decodeN_low _ _ _ _ _ h]; exact ⟨rfl, fun _ => rfl⟩
 · have h1 := decodeN_ge (c :: t).length c.toNat ((c :: t).getD 1 0).toNat ((c :: t).getD 2 0).toNat ((c :: t).getD 3 0).toNat (by omega)
   rw [idB_high (by omega)]
   refine ⟨?_, fun h => by cases h⟩
   generalize (decodeN (c :: t).length c.toNat ((c :: t).getD 1 0).toNat ((c :: t).getD 2 0).toNat ((c :: t).getD 3 0).toNat).1 = b at h1 ⊢
   unfold letterB figB
   simp
   omega
theorem decode_dropL (s : List UInt8) (pos : Nat) : Utf8.decode ⟨s.toArray⟩ pos = decodeL (s.drop pos) := (decodeL_drop ⟨s.toArray⟩ pos).symm
def BoolPost (b : Bool) (w : World) (e : Ending) (w' : World) : Prop := e = .returned (.bool b) ∧ Ext none' w w'
theorem let_high {b : Nat} (h : 128 ≤ b) : letterB b = false ∧ figB b = false := by
 unfold letterB figB
 constructor <;> simp <;> omega
theorem let_head (c : UInt8) (t : List UInt8) : letterB (decodeL (c :: t)).1 = letterB c.toNat ∧ figB (decodeL (c :: t)).1 = figB c.toNat := by
 rw [decodeL_N]
 simp only [List.getD_cons_zero]
 by_cases h : c.toNat < 128
 · rw [decodeN_low _ _ _ _ _ h]; exact ⟨rfl, rfl⟩
 · have h1 := decodeN_ge (c :: t).length c.toNat ((c :: t).getD 1 0).toNat ((c :: t).getD 2 0).toNat ((c :: t).getD 3 0).toNat (by omega)
   have h2 := let_high h1
   have h3 := let_high (b := c.toNat) (by omega)
   exact ⟨by rw [h2.1, h3.1], by rw [h2.2, h3.2]⟩
theorem let_fig0 {c : Nat} (h : letterB c = true) : figB c = false := by
 unfold letterB at h; unfold figB
 simp at h ⊢
 omega
structure NmRel (b : Nat) (s : List UInt8) (w wr : World) (pos : Nat) : Prop where
 le : pos ≤ s.length
 hit : wr.heap[b]? = some (.stringIter ⟨s.toArray⟩ pos)
 hx : Ext none' w wr
 hall : ∀ c ∈ s.take pos, idB c = true
 hd : 0 < pos → ∀ c t, s = c :: t → figB c.toNat = false
theorem nameB_no {s : List UInt8} {pos : Nat} (h : pos < s.length) (hn : idB s[pos] = false) : nameB s = false := by
 cases s with
 | nil => simp at h
 | cons c t =>
  unfold nameB
  have : (c :: t).all idB = false := by
   rw [List.all_eq_false]
   exact ⟨_, List.getElem_mem h, by rw [hn]; simp⟩
  rw [this]; simp
theorem nameB_fig {c : UInt8} {t : List UInt8} (h : figB c.toNat = true) : nameB (c :: t) = false := by
 show (!figB c.toNat && wordK (c :: t) == 0 && (c :: t).all idB) = false
 rw [h]; simp
theorem nameB_end {s : List UInt8} (hne : s ≠ []) (hall : ∀ c ∈ s, idB c = true) (hd : ∀ c t, s = c :: t → figB c.toNat = false) : nameB s = (wordK s == 0) := by
 cases s with
 | nil => exact absurd rfl hne
 | cons c t =>
  show (!figB c.toNat && wordK (c :: t) == 0 && (c :: t).all idB) = _
  rw [hd c t rfl]
  have : (c :: t).all idB = true := List.all_eq_true.2 hall
  rw [this]; simp
theorem name_any (s : List UInt8) (w : World) (hs : s.length ≤ 1000000) : Calls Tryz.prog 133 #[.string ⟨s.toArray⟩] w (BoolPost (nameB s) w) := by
 obtain ⟨p, hp⟩ : ∃ p, p = nameB s := ⟨_, rfl⟩
 rw [← hp]
 have HP := hid hp
 clear hp
 go_enter Tryz.func133, Tryz.ntmps133
 go_wp2_with fail
 go_loopw [] (fun wr => ∃ pos, NmRel w.heap.size s w wr pos) (fun wr => s.length - wr.iterPos w.heap.size)
 case atStart =>
  refine ⟨0, ⟨by omega, ?_, ?_, by simp, by omega⟩⟩
  · exact heap_alloc_at rfl _
  · exact (Ext.refl _ _).alloc _
 case round =>
  obtain ⟨pos, R⟩ := hrel
  have hle := R.le
  by_cases hp : pos < s.length
  · obtain ⟨d, hd⟩ : ∃ d, Utf8.decode ⟨s.toArray⟩ pos = d := ⟨_, rfl⟩
    have hnx : ∀ ty, (Instr.next (.pointer (some ⟨w.heap.size, 0, none⟩)) true ty).run Tryz.prog wr = .ok (.tuple #[.bool true, .int .i64 pos, .int .i32 d.1]) (wr.iterAt w.heap.size ⟨s.toArray⟩ (pos + d.2)) :=
     fun ty => by rw [← hd]; exact run_next_any_at wr w.heap.size ⟨s.toArray⟩ pos ty R.hit (by rw [bsize]; exact hp)
    have Hd := hid ((decode_dropL s pos).symm.trans hd)
    clear hd
    have hdr : s.drop pos = s[pos] :: s.drop (pos + 1) := List.drop_eq_getElem_cons hp
    have hlh := let_head s[pos] (s.drop (pos + 1))
    have hid' := id_head s[pos] (s.drop (pos + 1))
    rw [← hdr, Hd.out] at hlh hid'
    have X1 : Ext none' w (wr.iterAt w.heap.size ⟨s.toArray⟩ (pos + d.2)) := R.hx.iterAt (.inr (Nat.le_refl _)) _ _
    have hit2 : (wr.iterAt w.heap.size ⟨s.toArray⟩ (pos + d.2)).heap[w.heap.size]? = some (.stringIter ⟨s.toArray⟩ (pos + d.2)) := iterAt_heap _ _ _ _ _ R.hit
    have hit := hid (iterPos_of R.hit)
    obtain ⟨d1, d2⟩ := d
    simp only at hlh hid' hnx X1 hit2 Hd
    have NX : Hid (idB s[pos] = true → (0 < pos ∨ figB s[pos].toNat = false) → (∃ ps, NmRel w.heap.size s w (wr.iterAt w.heap.size ⟨s.toArray⟩ (pos + d2)) ps) ∧ s.length - (wr.iterAt w.heap.size ⟨s.toArray⟩ (pos + d2)).iterPos w.heap.size < s.length - wr.iterPos w.heap.size) := hid fun hi h0 => by
     have e2 := hid'.2 hi
     subst e2
     refine ⟨⟨pos + 1, ⟨by omega, hit2, X1, ?_, ?_⟩⟩, by rw [iterPos_of hit2, hit.out]; omega⟩
     · intro c hc
       rw [List.take_add_one, List.getElem?_eq_getElem hp] at hc
       simp only [Option.toList_some, List.mem_append, List.mem_singleton] at hc
       rcases hc with hc | rfl
       · exact R.hall c hc
       · exact hi
     · intro _ c t hst
       rcases h0 with h0 | h0
       · exact R.hd h0 c t hst
       · by_cases hz : 0 < pos
         · exact R.hd hz c t hst
         · have : pos = 0 := by omega
           subst this
           subst hst
           exact h0
    have NO : Hid (idB s[pos] = false → p = false) := hid fun hn => by rw [HP.out]; exact nameB_no hp hn
    have NF : Hid (pos = 0 → figB s[pos].toNat = true → p = false) := hid fun hz hf => by
     subst hz
     rw [HP.out]
     cases s with
     | nil => simp at hp
     | cons c t => exact nameB_fig hf
    have LW := hid (letter_any d1 (wr.iterAt w.heap.size ⟨s.toArray⟩ (pos + d2)))
    have FW := hid (figure_any d1 (wr.iterAt w.heap.size ⟨s.toArray⟩ (pos + d2)))
    have HX1 := hid X1
    have hidb : idB s[pos] = (letterB s[pos].toNat || figB s[pos].toNat) := rfl
    obtain ⟨lb, hlb⟩ : ∃ b, letterB s[pos].toNat = b := ⟨_, rfl⟩
    obtain ⟨fb, hfb⟩ : ∃ b, figB s[pos].toNat = b := ⟨_, rfl⟩
    have hlf : lb = true → fb = false := fun h => by rw [← hfb]; exact let_fig0 (hlb.trans h)
    rw [hlh.1, hlb] at LW
    rw [hlh.2, hfb] at FW
    rw [hlb, hfb] at hidb
    rw [hidb, hfb] at NX
    rw [hidb] at NO
    rw [hfb] at NF
    clear hlh hid' hlb hfb hidb X1 hit2 hdr R
    cases lb with
    | true =>
     have hf0 := hlf rfl
     subst hf0
     have N := hid (NX.out rfl (.inr rfl))
     clear NX NO NF hlf FW
     go_wp2_with (go_at_call 113; refine LW.out.mono ?_; rintro e w1 ⟨rfl, rfl⟩)
     exact N.out
    | false =>
     clear hlf
     by_cases hz : pos = 0
     · have hp0 : Hid (p = false) := hid (by
        cases fb
        · exact NO.out rfl
        · exact NF.out hz rfl)
       have e0 : ((pos : Int) == 0) = true := by simp [hz]
       clear NX NO NF hz
       go_wp2_with (go_at_call 113; refine LW.out.mono ?_; rintro e w1 ⟨rfl, rfl⟩)
       go_ret
       exact ⟨by rw [hp0.out]; rfl, HX1.out⟩
     · have e0 : ((pos : Int) == 0) = false := by simp [hz]
       have hz' : 0 < pos := by omega
       cases fb with
       | true =>
        have N := hid (NX.out rfl (.inl hz'))
        clear NX NO NF hz hz'
        go_wp2_with (first | (go_at_call 113; refine LW.out.mono ?_; rintro e w1 ⟨rfl, rfl⟩) | (go_at_call 116; refine FW.out.mono ?_; rintro e w1 ⟨rfl, rfl⟩))
        exact N.out
       | false =>
        have hp0 := hid (NO.out rfl)
        clear NX NO NF hz hz'
        go_wp2_with (first | (go_at_call 113; refine LW.out.mono ?_; rintro e w1 ⟨rfl, rfl⟩) | (go_at_call 116; refine FW.out.mono ?_; rintro e w1 ⟨rfl, rfl⟩))
        go_ret
        exact ⟨by rw [hp0.out]; rfl, HX1.out⟩
  · have hnx : ∀ ty, (Instr.next (.pointer (some ⟨w.heap.size, 0, none⟩)) true ty).run Tryz.prog wr = _ := fun ty => run_next_end_at wr w.heap.size ⟨s.toArray⟩ pos ty R.hit (by rw [bsize]; exact hp)
    have RR := hid R
    clear R
    by_cases hs0 : s = []
    · have hp0 : Hid (p = false) := hid (by rw [HP.out, hs0]; rfl)
      subst hs0
      go_wp2_with fail
      go_ret
      exact ⟨by rw [hp0.out]; rfl, RR.out.hx⟩
    · have hpl : pos = s.length := by omega
      have hpe : Hid (p = (wordK s == 0)) := hid (by
       rw [HP.out]
       exact nameB_end hs0 (fun c hc => RR.out.hall c (by rw [hpl, List.take_length]; exact hc)) (RR.out.hd (by have := List.length_pos_iff.2 hs0; omega)))
      have hsb : (s == []) = false := by simpa using hs0
      have WW := hid (word_any s wr)
      obtain ⟨k, hk⟩ : ∃ k, wordK s = k := ⟨_, rfl⟩
      rw [hk] at WW hpe
      clear hk hpl
      go_wp2_with (go_at_call 118; refine WW.out.mono ?_; rintro e w1 ⟨rfl, rfl⟩)
      go_ret
      refine ⟨?_, RR.out.hx⟩
      rw [hpe.out]
      congr 2
      simp
      rw [Bool.eq_iff_iff, beq_iff_eq, beq_iff_eq]
      omega
end Go.Proofs.YthbmjamgidfneaaGreatDoor
