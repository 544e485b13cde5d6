import Derived.Test.YtmlhkgocilpobaaKiWith
import Derived.Test.YtmlhkgocilpobaaKiFP
namespace Go.Proofs.Ytmlhkgocilpobaa
open Go.RowKit Go.Lib Go.BigFrame
def IsDf : Lay Df := fun A w d cs => ∃ pv tv, cs = [.string ⟨d.name.toArray⟩, pv, .int .i64 d.ty.kind, .string ⟨d.ty.name.toArray⟩, tv, .bool d.als] ∧ IsStrs A w pv d.params ∧ IsSl 3 IsTy A w tv d.ty.args
theorem IsSl.oneCell {α : Type} {sz : Nat} {R : Lay α} {A : Nat → Prop} {w : World} {v : Value} {xs : List α} (h : IsSl sz R A w v xs) : v.oneCell' = true := by
  obtain ⟨a, cap, rfl, _⟩ := h
  rfl
theorem isDf_good : Good 6 IsDf where
  len h := by obtain ⟨_, _, rfl, _, _⟩ := h; rfl
  one h := by
    obtain ⟨_, _, rfl, h1, h2⟩ := h
    intro u hu
    simp at hu
    rcases hu with rfl | rfl | rfl | rfl | rfl | rfl
    · rfl
    · exact h1.oneCell
    · rfl
    · rfl
    · exact h2.oneCell
    · rfl
  ext h x hF := by
    obtain ⟨pv, tv, rfl, h1, h2⟩ := h
    exact ⟨pv, tv, rfl, h1.ext isStr_good x hF, h2.ext isTy_good x hF⟩
  mono h hB := by
    obtain ⟨pv, tv, rfl, h1, h2⟩ := h
    exact ⟨pv, tv, rfl, h1.mono isStr_good hB, h2.mono isTy_good hB⟩
def DfV (A : Nat → Prop) (w : World) (d : Df) (v : Value) : Prop := ∃ pv tv, v = .agg #[.string ⟨d.name.toArray⟩, pv, .int .i64 d.ty.kind, .string ⟨d.ty.name.toArray⟩, tv, .bool d.als] ∧ IsStrs A w pv d.params ∧ IsSl 3 IsTy A w tv d.ty.args
set_option maxRecDepth 100000 in
set_option maxHeartbeats 1600000 in
theorem idef_any (fn : Nat) (caps : Array Value) (p : Df → Bool) (A : Nat → Prop) (l : List Df) (v : Value) (w : World) (hl : l.length ≤ 1000000000) (hv : IsSl 6 IsDf A w v l)
    (hst : ∀ (i : Nat) (hi : i < l.length) (w' : World) (u : Value), Ext none' w w' → DfV A w' l[i] u → Calls Try.prog fn (#[u] ++ caps) w' (BoolP (p l[i]) w')) (hfn : ∀ args w, (callFunc fn args).run Try.prog w = .ok (.enter fn args) w) :
    Calls Try.prog 43 #[v, .func (.func fn) #[] caps] w (IntP (fstI p l) w) := by
  obtain ⟨q, hq⟩ : ∃ q, q = fstI p l := ⟨_, rfl⟩
  rw [← hq]
  have HQ := hid hq
  have HV := hid hv
  have HST := hid hst
  obtain ⟨a, cap, rfl, hc, hn, _⟩ := hv
  clear hn hst hq
  go_enter Try.func43, Try.ntmps43
  go_wp2_with fail
  go_loopw [5, 8] (fun _ z wr => ∃ (i : Nat), z = .int .i64 (i : Nat) ∧ i ≤ l.length ∧ Hid (Ext none' w wr ∧ ∀ j (h : j < l.length), j < i → p l[j] = false)) (fun _ z _ => l.length - (RowKit.intOf z).toNat)
  case atStart => exact ⟨0, rfl, by omega, hid ⟨Ext.refl _ _, fun j _ h => by omega⟩⟩
  case round =>
    obtain ⟨i, rfl, hle, R⟩ := hrel
    by_cases hi : i < l.length
    · obtain ⟨b, off, cs, rfl, hAb, hbw, hcc, hdf⟩ := (HV.out.ext isDf_good R.out.1 fun _ _ h => h.elim).at i hi
      obtain ⟨pv, tv, rfl, h1, h2⟩ := hdf
      have c0 := hcc 0 _ rfl
      have c1 := hcc 1 _ rfl
      have c2 := hcc 2 _ rfl
      have c3 := hcc 3 _ rfl
      have c4 := hcc 4 _ rfl
      have c5 := hcc 5 _ rfl
      simp only [Nat.add_zero] at c0
      have C1 := hid fun u hu => HST.out i hi wr u R.out.1 hu
      have D1 := hid (show DfV A wr l[i] _ from ⟨pv, tv, rfl, h1, h2⟩)
      obtain ⟨a1, cap1, rfl, _⟩ := h1
      obtain ⟨a2, cap2, rfl, _⟩ := h2
      clear hcc
      have HR := hid R.out
      obtain ⟨bb, hbb⟩ : ∃ bb, p l[i] = bb := ⟨_, rfl⟩
      have HBB := hid hbb
      have C2 : Hid (∀ u, DfV A wr l[i] u → Calls Try.prog fn (#[u] ++ caps) wr (BoolP bb wr)) := hid fun u hu => by rw [← hbb]; exact C1.out u hu
      clear hbb C1 R
      go_wp2_with fail
      refine (C2.out _ D1.out).mono ?_
      rintro e w2 ⟨rfl, X2⟩
      have HX2 := hid (HR.out.1.trans X2)
      clear X2
      cases bb with
      | true =>
        have E : Hid (q = (i : Nat)) := hid (by rw [HQ.out]; exact fstI_at hi HBB.out HR.out.2)
        go_wp2_with fail
        go_ret
        exact ⟨by rw [E.out]; rfl, HX2.out⟩
      | false =>
        go_wp2_with fail
        go_roundw
        case rel => exact ⟨i + 1, by go_num, by omega, hid ⟨HX2.out, fun j hj hji => by
            by_cases q : j = i
            · subst q; exact HBB.out
            · exact HR.out.2 j hj (by omega)⟩⟩
        case measure => simp [RowKit.intOf]; omega
    · obtain rfl : i = l.length := by omega
      have E : Hid (q = -1) := hid (by rw [HQ.out]; exact fstI_none fun j hj => R.out.2 j hj hj)
      have HX := hid R.out.1
      clear R
      go_wp2_with fail
      go_ret
      exact ⟨by rw [E.out]; rfl, HX.out⟩
/-- A closure that asks for a definition of a type's name. -/
theorem fname_any (d : Df) (n : List UInt8) (A : Nat → Prop) (v : Value) (b : Nat) (y0 y2 : Value) (w : World) (hv : DfV A w d v) (hb : w.heap[b]? = some (.cells #[y0, .string ⟨n.toArray⟩, y2] 33 (0, 0))) :
    Calls Try.prog 44 #[v, .pointer (some ⟨b, 0, none⟩)] w (BoolP (d.name == n) w) := by
  obtain ⟨pv, tv, rfl, h1, h2⟩ := hv
  obtain ⟨a1, cap1, rfl, _⟩ := h1
  obtain ⟨a2, cap2, rfl, _⟩ := h2
  have c1 := cell_at (heap_alloc_keep hb (.cells #[.string ⟨d.name.toArray⟩, .slice a1 d.params.length cap1, .int .i64 d.ty.kind, .string ⟨d.ty.name.toArray⟩, .slice a2 d.ty.args.length cap2, .bool d.als] 48)) 1
  simp only [List.getElem?_toArray, List.getElem?_cons_zero, List.getElem?_cons_succ] at c1
  clear hb
  go_enter Try.func44, Try.ntmps44
  go_wp2_with fail
  go_ret
  exact ⟨rfl, (Ext.refl _ _).alloc _⟩
theorem find1_any (d : Df) (n : List UInt8) (A : Nat → Prop) (v : Value) (b : Nat) (y0 y2 : Value) (w : World) (hv : DfV A w d v) (hb : w.heap[b]? = some (.cells #[y0, .string ⟨n.toArray⟩, y2] 33 (0, 0))) :
    Calls Try.prog 45 #[v, .pointer (some ⟨b, 0, none⟩)] w (BoolP (d.name == n) w) := by
  obtain ⟨pv, tv, rfl, h1, h2⟩ := hv
  obtain ⟨a1, cap1, rfl, _⟩ := h1
  obtain ⟨a2, cap2, rfl, _⟩ := h2
  have c1 := cell_at (heap_alloc_keep hb (.cells #[.string ⟨d.name.toArray⟩, .slice a1 d.params.length cap1, .int .i64 d.ty.kind, .string ⟨d.ty.name.toArray⟩, .slice a2 d.ty.args.length cap2, .bool d.als] 48)) 1
  simp only [List.getElem?_toArray, List.getElem?_cons_zero, List.getElem?_cons_succ] at c1
  clear hb
  go_enter Try.func45, Try.ntmps45
  go_wp2_with fail
  go_ret
  exact ⟨rfl, (Ext.refl _ _).alloc _⟩
theorem enter_fname : ∀ args w, (callFunc 44 args).run Try.prog w = .ok (.enter 44 args) w := Go.Proofs.enters_of Try.func44 (by kernel_rfl) rfl
theorem enter_find1 : ∀ args w, (callFunc 45 args).run Try.prog w = .ok (.enter 45 args) w := Go.Proofs.enters_of Try.func45 (by kernel_rfl) rfl
end Go.Proofs.Ytmlhkgocilpobaa
