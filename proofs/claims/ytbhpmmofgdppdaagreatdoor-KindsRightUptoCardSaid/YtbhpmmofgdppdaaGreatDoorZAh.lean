import Derived.Test.YtbhpmmofgdppdaaGreatDoorZAc
import Derived.Lib.Join
import Derived.Test.YtbhpmmofgdppdaaGreatDoorZAe
/-
  The text of a type: plain.
-/
namespace Go.Proofs.YtbhpmmofgdppdaaGreatDoor
open Go.RowKit Go.Lib
def Nd.zero : Nd := .mk 0 [] [] 0
def Nd.kid (t : Nd) (i : Nat) : Nd := t.kids.getD i Nd.zero
/-- Parts with something between, without those that are empty. -/
def betw (sep : List UInt8) (parts : List (List UInt8)) : List UInt8 := Lib.join (parts.filter fun p => !p.isEmpty) sep
theorem join_take (l : List (List UInt8)) (sep : List UInt8) : (Lib.join l sep).length ≤ sep.length * l.length + Lib.lens l := by
  cases l with
  | nil => simp [Lib.join_nil]
  | cons x r => rw [Lib.join_length]; have := Nat.mul_le_mul_left sep.length (show r.length ≤ (x :: r).length by simp); omega
theorem lens_filter (p : List UInt8 → Bool) (l : List (List UInt8)) : Lib.lens (l.filter p) ≤ Lib.lens l := by
  induction l with
  | nil => simp
  | cons a r ih =>
    by_cases h : p a = true
    · rw [List.filter_cons_of_pos h]; simp only [Lib.lens, List.map_cons, List.sum_cons] at ih ⊢; omega
    · rw [List.filter_cons_of_neg h]; simp only [Lib.lens, List.map_cons, List.sum_cons] at ih ⊢; omega
theorem betw_len (sep : List UInt8) (l : List (List UInt8)) : (betw sep l).length ≤ sep.length * l.length + Lib.lens l := by
  have h1 := join_take (l.filter fun p => !p.isEmpty) sep
  have h2 := lens_filter (fun p => !p.isEmpty) l
  have h3 := Nat.mul_le_mul_left sep.length (List.length_filter_le (fun p => !p.isEmpty) l)
  unfold betw
  omega
def optT (p : Nd → List UInt8) (t : Nd) : List UInt8 := if t.kind = 0 then [] else p t
/-- A parameter: its name, and what is told of its type. -/
def parF (p : Nd → List UInt8) (t : Nd) : List UInt8 := betw [32] [t.text, p (t.kid 0)]
def sComma : List UInt8 := [44, 32]
def sigF (p : Nd → List UInt8) (t : Nd) : List UInt8 := betw [32] [([102, 117, 110, 99, 40] ++ Lib.join ((t.kid 0).kids.map (parF p)) sComma) ++ [41], optT p (t.kid 1)]
def typF : Nat → Nd → List UInt8
  | 0, _ => []
  | f + 1, t => if t.kind = 11 then [91, 93] ++ typF f (t.kid 0) else if t.kind = 12 then sigF (typF f) t else if t.kids = [] then t.text else ((t.text ++ [91]) ++ Lib.join (t.kids.map (typF f)) sComma) ++ [93]
theorem lens_size {p : Nd → List UInt8} : ∀ {l : List Nd}, (∀ x ∈ l, (p x).length + 4 ≤ 200 * x.size) → Lib.lens (l.map p) + 4 * l.length ≤ 200 * Nd.sizeL l
  | [], _ => by simp [Lib.lens]
  | x :: r, h => by
    have h1 := h x (by simp)
    have h2 := lens_size (p := p) (l := r) fun y hy => h y (by simp [hy])
    simp only [Lib.lens, List.map_cons, List.sum_cons, List.length_cons, Nd.sizeL] at h2 ⊢
    omega
theorem one_kid {ps : Nd → Bool} {l : List Nd} (h : kidsB [ps] l = true) : ∃ x, l = [x] ∧ ps x = true := by
  have hl := kidsB_len h
  match l, hl with
  | [x], _ => exact ⟨x, rfl, by simpa [kidsB] using h⟩
theorem two_kids {p q : Nd → Bool} {l : List Nd} (h : kidsB [p, q] l = true) : ∃ x y, l = [x, y] ∧ p x = true ∧ q y = true := by
  have hl := kidsB_len h
  match l, hl with
  | [x, y], _ => exact ⟨x, y, rfl, by simpa [kidsB] using h⟩
theorem ofB_parts {k : Int} {ps : List (Nd → Bool)} {t : Nd} (h : ofB k ps t = true) : t.kind = k ∧ t.text = [] ∧ kidsB ps t.kids = true := by
  unfold ofB at h
  simp only [Bool.and_eq_true, beq_iff_eq] at h
  exact ⟨h.1.1, h.1.2, h.2⟩
theorem namB_parts {so : List UInt8 → Bool} {k : Int} {ps : List (Nd → Bool)} {t : Nd} (h : namB so k ps t = true) : t.kind = k ∧ so t.text = true ∧ kidsB ps t.kids = true := by
  unfold namB at h
  simp only [Bool.and_eq_true, beq_iff_eq] at h
  exact ⟨h.1.1, h.1.2, h.2⟩
theorem listB_parts {p : Nd → Bool} {t : Nd} (h : listB p t = true) : t.kind = 6 ∧ t.text = [] ∧ ∀ x ∈ t.kids, p x = true := by
  unfold listB at h
  simp only [Bool.and_eq_true, beq_iff_eq, List.all_eq_true] at h
  exact ⟨h.1.1, h.1.2, h.2⟩
theorem emptyB_kind {t : Nd} (h : emptyB t = true) : t.kind = 0 := by
  unfold emptyB at h
  simp only [Bool.and_eq_true, beq_iff_eq] at h
  exact h.1.1
theorem tyF_kind {nm : List UInt8 → Bool} {f : Nat} {t : Nd} (h : tyF nm f t = true) : t.kind = 10 ∨ t.kind = 11 ∨ t.kind = 12 := by
  cases f with
  | zero => cases h
  | succ f =>
    rw [tyF] at h
    split at h
    · exact .inl ‹_›
    split at h
    · exact .inr (.inl ‹_›)
    split at h
    · exact .inr (.inr ‹_›)
    cases h
/-- What a signature is: its parameters, its result. -/
theorem sigB_parts {ty : Nd → Bool} {so : List UInt8 → Bool} {t : Nd} (h : sigB ty so t = true) : t.kind = 12 ∧ t.text = [] ∧ ∃ l r, t.kids = [l, r] ∧ l.kind = 6 ∧ l.text = [] ∧ (∀ x ∈ l.kids, x.kind = 8 ∧ so x.text = true ∧ ∃ y, x.kids = [y] ∧ ty y = true) ∧ (emptyB r = true ∨ ty r = true) := by
  obtain ⟨h1, h2, h3⟩ := ofB_parts h
  obtain ⟨l, r, hl, h4, h5⟩ := two_kids h3
  obtain ⟨h6, h7, h8⟩ := listB_parts h4
  refine ⟨h1, h2, l, r, hl, h6, h7, fun x hx => ?_, by simpa using h5⟩
  obtain ⟨g1, g2, g3⟩ := namB_parts (h8 x hx)
  exact ⟨g1, g2, one_kid g3⟩
theorem sigF_len {ty : Nd → Bool} {so : List UInt8 → Bool} {p : Nd → List UInt8} {t : Nd} (hso : ∀ s, so s = true → s.length ≤ 100) (h : sigB ty so t = true) (hp : ∀ x, x.size < t.size → ty x = true → (p x).length + 4 ≤ 200 * x.size) :
    (sigF p t).length + 4 ≤ 200 * t.size ∧ (Lib.join ((t.kid 0).kids.map (parF p)) sComma).length + 4 ≤ 200 * (t.kid 0).size ∧ (optT p (t.kid 1)).length ≤ 200 * (t.kid 1).size ∧ (∀ x ∈ (t.kid 0).kids, (parF p x).length + 4 ≤ 200 * x.size) := by
  obtain ⟨_, _, l, r, hk, _, _, hps, hr⟩ := sigB_parts h
  have e0 : t.kid 0 = l := by unfold Nd.kid; rw [hk]; rfl
  have e1 : t.kid 1 = r := by unfold Nd.kid; rw [hk]; rfl
  have hst : t.size = 1 + l.size + r.size := by
    cases t with
    | mk k n kids ps => simp only [Nd.kids] at hk; subst hk; simp only [Nd.size, Nd.sizeL]; omega
  have hsl : l.size = 1 + Nd.sizeL l.kids := by
    cases l with
    | mk k n kids ps => simp only [Nd.size, Nd.kids]; omega
  have hpar : ∀ x ∈ l.kids, (parF p x).length + 4 ≤ 200 * x.size := fun x hx => by
    obtain ⟨_, h2, y, hy, hty⟩ := hps x hx
    have hxs : x.size = 1 + y.size := by
      cases x with
      | mk k n kids ps => simp only [Nd.kids] at hy; subst hy; simp only [Nd.size, Nd.sizeL]; omega
    have h3 := Nd.sizeL_mem hx
    have h4 := hp y (by omega) hty
    have e : x.kid 0 = y := by unfold Nd.kid; rw [hy]; rfl
    have h5 := betw_len [32] [x.text, p y]
    have h6 := hso _ h2
    unfold parF
    rw [e]
    simp [Lib.lens] at h5
    omega
  have hj := join_take (l.kids.map (parF p)) sComma
  have hls := lens_size (p := parF p) hpar
  rw [List.length_map] at hj
  have hc : sComma.length = 2 := rfl
  rw [hc] at hj
  have hr2 : (optT p r).length ≤ 200 * r.size := by
    unfold optT
    split
    · simp
    · rcases hr with hr | hr
      · exact absurd (emptyB_kind hr) ‹_›
      · have := hp r (by omega) hr; omega
  refine ⟨?_, by rw [e0]; omega, by rw [e1]; exact hr2, by rw [e0]; exact hpar⟩
  have h5 := betw_len [32] [([102, 117, 110, 99, 40] ++ Lib.join ((t.kid 0).kids.map (parF p)) sComma) ++ [41], optT p (t.kid 1)]
  unfold sigF
  rw [e0, e1] at h5 ⊢
  simp only [Lib.lens, List.map_cons, List.map_nil, List.sum_cons, List.sum_nil, List.length_append, List.length_cons, List.length_nil] at h5
  omega
theorem typF_len {nm : List UInt8 → Bool} (hnm : ∀ s, nm s = true → s.length ≤ 100) : ∀ (f : Nat) (t : Nd), tyF nm f t = true → t.size ≤ f → (typF f t).length + 4 ≤ 200 * t.size := by
  intro f
  induction f with
  | zero => intro t h; cases h
  | succ f ih =>
    intro t h hs
    rw [tyF] at h
    rw [typF]
    split at h
    · rename_i hk
      rw [if_neg (by omega), if_neg (by omega)]
      simp only [Bool.and_eq_true, List.all_eq_true] at h
      have h1 := hnm _ h.1
      have hts := t.size_pos
      split
      · omega
      · have hst : t.size = 1 + Nd.sizeL t.kids := by
          cases t with
          | mk k n kids ps => simp only [Nd.size, Nd.kids]; omega
        have hls := lens_size (p := typF f) (l := t.kids) fun x hx => ih x (h.2 x hx) (by have := Nd.size_kid hx; omega)
        have hj := join_take (t.kids.map (typF f)) sComma
        rw [List.length_map] at hj
        have hc : sComma.length = 2 := rfl
        rw [hc] at hj
        simp only [List.length_append, List.length_cons, List.length_nil]
        omega
    · split at h
      · rename_i hk
        rw [if_pos hk]
        obtain ⟨_, _, h3⟩ := ofB_parts h
        obtain ⟨x, hx, htx⟩ := one_kid h3
        have e : t.kid 0 = x := by unfold Nd.kid; rw [hx]; rfl
        have hst : t.size = 1 + x.size := by
          cases t with
          | mk k n kids ps => simp only [Nd.kids] at hx; subst hx; simp only [Nd.size, Nd.sizeL]; omega
        have := ih x htx (by omega)
        rw [e]
        simp only [List.length_append, List.length_cons, List.length_nil]
        omega
      · split at h
        · rename_i hk
          rw [if_neg (by omega), if_pos hk]
          exact (sigF_len (so := noT) (fun s hs => by unfold noT at hs; simp at hs; subst hs; simp) h fun x hx htx => ih x htx (by omega)).1
        · cases h
end Go.Proofs.YtbhpmmofgdppdaaGreatDoor
/-
  kinds.Of and kinds.Tree over right types: plain.
-/
namespace Go.Proofs.YtbhpmmofgdppdaaGreatDoor
open Go.RowKit Go.Lib
mutual
/-- A tree without its places. -/
def strip : Nd → Nd
  | .mk k n l _ => .mk k n (stripL l) 0
def stripL : List Nd → List Nd
  | [] => []
  | t :: r => strip t :: stripL r
end
theorem stripL_map : ∀ l : List Nd, stripL l = l.map strip
  | [] => rfl
  | t :: r => by rw [stripL, stripL_map r, List.map_cons]
theorem strip_eq (t : Nd) : strip t = .mk t.kind t.text (t.kids.map strip) 0 := by
  cases t with
  | mk k n l p => rw [strip, stripL_map]; rfl
def nIntK : List UInt8 := [105, 110, 116]
def nStrK : List UInt8 := [115, 116, 114, 105, 110, 103]
def nBoolK : List UInt8 := [98, 111, 111, 108]
def basicK (s : List UInt8) : Bool := s == nIntK || (s == nStrK || s == nBoolK)
def voidT : Ty := .mk 7 [] []
/-- The type of a right tree. -/
def ofK (ps : List (List UInt8)) : Nat → Nd → Ty
  | 0, _ => Ty.zero
  | f + 1, t => if t.kind = 10 then (if t.kids.isEmpty && ps.contains t.text then .mk 4 t.text [] else if t.kids.isEmpty && basicK t.text then .mk 1 t.text [] else .mk 3 t.text (t.kids.map (ofK ps f)))
    else if t.kind = 11 then .mk 5 [] (t.kids.map (ofK ps f))
    else .mk 6 [] ((t.kid 0).kids.map (fun p => ofK ps f (p.kid 0)) ++ [if (t.kid 1).kind = 0 then voidT else ofK ps f (t.kid 1)])
theorem ofK_kind {nm : List UInt8 → Bool} {ps : List (List UInt8)} {f : Nat} {t : Nd} (h : tyF nm f t = true) : (ofK ps f t).kind ≠ 0 ∧ (ofK ps f t).kind ≠ 7 ∧ (ofK ps f t).kind ≠ 2 := by
  cases f with
  | zero => cases h
  | succ f =>
    rw [ofK]
    split
    · split
      · exact ⟨by simp [Ty.kind], by simp [Ty.kind], by simp [Ty.kind]⟩
      · split <;> exact ⟨by simp [Ty.kind], by simp [Ty.kind], by simp [Ty.kind]⟩
    · split <;> exact ⟨by simp [Ty.kind], by simp [Ty.kind], by simp [Ty.kind]⟩
theorem strip_kind (t : Nd) : (strip t).kind = t.kind := by cases t; rfl
theorem strip_empty {t : Nd} (h : emptyB t = true) : strip t = Nd.zero := by
  unfold emptyB at h
  simp only [Bool.and_eq_true, beq_iff_eq, List.isEmpty_iff] at h
  rw [strip_eq, h.1.1, h.1.2, h.2]; rfl
end Go.Proofs.YtbhpmmofgdppdaaGreatDoor
namespace Go.Proofs.YtbhpmmofgdppdaaGreatDoor
open Go.RowKit Go.Lib Go.BigFrame
def IsDf : Lay Df := fun A w d cs => ∃ pv tv, cs = [.string ⟨d.name.toArray⟩, pv, .int .i64 d.ty.kind, .string ⟨d.ty.name.toArray⟩, tv, .bool d.als] ∧ IsStrs A w pv d.params ∧ IsSl 3 IsTy A w tv d.ty.args
theorem IsSl.oneCell {α : Type} {sz : Nat} {R : Lay α} {A : Nat → Prop} {w : World} {v : Value} {xs : List α} (h : IsSl sz R A w v xs) : v.oneCell' = true := by
  obtain ⟨a, cap, rfl, _⟩ := h
  rfl
theorem isDf_good : Good 6 IsDf where
  len h := by obtain ⟨_, _, rfl, _, _⟩ := h; rfl
  one h := by
    obtain ⟨_, _, rfl, h1, h2⟩ := h
    intro u hu
    simp at hu
    rcases hu with rfl | rfl | rfl | rfl | rfl | rfl
    · rfl
    · exact h1.oneCell
    · rfl
    · rfl
    · exact h2.oneCell
    · rfl
  ext h x hF := by
    obtain ⟨pv, tv, rfl, h1, h2⟩ := h
    exact ⟨pv, tv, rfl, h1.ext isStr_good x hF, h2.ext isTy_good x hF⟩
  mono h hB := by
    obtain ⟨pv, tv, rfl, h1, h2⟩ := h
    exact ⟨pv, tv, rfl, h1.mono isStr_good hB, h2.mono isTy_good hB⟩
def DfV (A : Nat → Prop) (w : World) (d : Df) (v : Value) : Prop := ∃ pv tv, v = .agg #[.string ⟨d.name.toArray⟩, pv, .int .i64 d.ty.kind, .string ⟨d.ty.name.toArray⟩, tv, .bool d.als] ∧ IsStrs A w pv d.params ∧ IsSl 3 IsTy A w tv d.ty.args
set_option maxRecDepth 100000 in
set_option maxHeartbeats 1600000 in
theorem idef_any (fn : Nat) (caps : Array Value) (p : Df → Bool) (A : Nat → Prop) (l : List Df) (v : Value) (w : World) (hl : l.length ≤ 1000000000) (hv : IsSl 6 IsDf A w v l)
    (hst : ∀ (i : Nat) (hi : i < l.length) (w' : World) (u : Value), Ext none' w w' → DfV A w' l[i] u → Calls Tryz.prog fn (#[u] ++ caps) w' (BoolP (p l[i]) w')) (hfn : ∀ args w, (callFunc fn args).run Tryz.prog w = .ok (.enter fn args) w) :
    Calls Tryz.prog 63 #[v, .func (.func fn) #[] caps] w (IntP (fstI p l) w) := by
  obtain ⟨q, hq⟩ : ∃ q, q = fstI p l := ⟨_, rfl⟩
  rw [← hq]
  have HQ := hid hq
  have HV := hid hv
  have HST := hid hst
  obtain ⟨a, cap, rfl, hc, hn, _⟩ := hv
  clear hn hst hq
  go_enter Tryz.func63, Tryz.ntmps63
  go_wp2_with fail
  go_loopw [5, 8] (fun _ z wr => ∃ (i : Nat), z = .int .i64 (i : Nat) ∧ i ≤ l.length ∧ Hid (Ext none' w wr ∧ ∀ j (h : j < l.length), j < i → p l[j] = false)) (fun _ z _ => l.length - (RowKit.intOf z).toNat)
  case atStart => exact ⟨0, rfl, by omega, hid ⟨Ext.refl _ _, fun j _ h => by omega⟩⟩
  case round =>
    obtain ⟨i, rfl, hle, R⟩ := hrel
    by_cases hi : i < l.length
    · obtain ⟨b, off, cs, rfl, hAb, hbw, hcc, hdf⟩ := (HV.out.ext isDf_good R.out.1 fun _ _ h => h.elim).at i hi
      obtain ⟨pv, tv, rfl, h1, h2⟩ := hdf
      have c0 := hcc 0 _ rfl
      have c1 := hcc 1 _ rfl
      have c2 := hcc 2 _ rfl
      have c3 := hcc 3 _ rfl
      have c4 := hcc 4 _ rfl
      have c5 := hcc 5 _ rfl
      simp only [Nat.add_zero] at c0
      have C1 := hid fun u hu => HST.out i hi wr u R.out.1 hu
      have D1 := hid (show DfV A wr l[i] _ from ⟨pv, tv, rfl, h1, h2⟩)
      obtain ⟨a1, cap1, rfl, _⟩ := h1
      obtain ⟨a2, cap2, rfl, _⟩ := h2
      clear hcc
      have HR := hid R.out
      obtain ⟨bb, hbb⟩ : ∃ bb, p l[i] = bb := ⟨_, rfl⟩
      have HBB := hid hbb
      have C2 : Hid (∀ u, DfV A wr l[i] u → Calls Tryz.prog fn (#[u] ++ caps) wr (BoolP bb wr)) := hid fun u hu => by rw [← hbb]; exact C1.out u hu
      clear hbb C1 R
      go_wp2_with fail
      refine (C2.out _ D1.out).mono ?_
      rintro e w2 ⟨rfl, X2⟩
      have HX2 := hid (HR.out.1.trans X2)
      clear X2
      cases bb with
      | true =>
        have E : Hid (q = (i : Nat)) := hid (by rw [HQ.out]; exact fstI_at hi HBB.out HR.out.2)
        go_wp2_with fail
        go_ret
        exact ⟨by rw [E.out]; rfl, HX2.out⟩
      | false =>
        go_wp2_with fail
        go_roundw
        case rel => exact ⟨i + 1, by go_num, by omega, hid ⟨HX2.out, fun j hj hji => by
            by_cases q : j = i
            · subst q; exact HBB.out
            · exact HR.out.2 j hj (by omega)⟩⟩
        case measure => simp [RowKit.intOf]; omega
    · obtain rfl : i = l.length := by omega
      have E : Hid (q = -1) := hid (by rw [HQ.out]; exact fstI_none fun j hj => R.out.2 j hj hj)
      have HX := hid R.out.1
      clear R
      go_wp2_with fail
      go_ret
      exact ⟨by rw [E.out]; rfl, HX.out⟩
/-- A closure that asks for a definition of a type's name. -/
theorem fname_any (d : Df) (n : List UInt8) (A : Nat → Prop) (v : Value) (b : Nat) (y0 y2 : Value) (w : World) (hv : DfV A w d v) (hb : w.heap[b]? = some (.cells #[y0, .string ⟨n.toArray⟩, y2] 32 (0, 0))) :
    Calls Tryz.prog 64 #[v, .pointer (some ⟨b, 0, none⟩)] w (BoolP (d.name == n) w) := by
  obtain ⟨pv, tv, rfl, h1, h2⟩ := hv
  obtain ⟨a1, cap1, rfl, _⟩ := h1
  obtain ⟨a2, cap2, rfl, _⟩ := h2
  have c1 := cell_at (heap_alloc_keep hb (.cells #[.string ⟨d.name.toArray⟩, .slice a1 d.params.length cap1, .int .i64 d.ty.kind, .string ⟨d.ty.name.toArray⟩, .slice a2 d.ty.args.length cap2, .bool d.als] 61)) 1
  simp only [List.getElem?_toArray, List.getElem?_cons_zero, List.getElem?_cons_succ] at c1
  clear hb
  go_enter Tryz.func64, Tryz.ntmps64
  go_wp2_with fail
  go_ret
  exact ⟨rfl, (Ext.refl _ _).alloc _⟩
theorem find1_any (d : Df) (n : List UInt8) (A : Nat → Prop) (v : Value) (b : Nat) (y0 y2 : Value) (w : World) (hv : DfV A w d v) (hb : w.heap[b]? = some (.cells #[y0, .string ⟨n.toArray⟩, y2] 32 (0, 0))) :
    Calls Tryz.prog 65 #[v, .pointer (some ⟨b, 0, none⟩)] w (BoolP (d.name == n) w) := by
  obtain ⟨pv, tv, rfl, h1, h2⟩ := hv
  obtain ⟨a1, cap1, rfl, _⟩ := h1
  obtain ⟨a2, cap2, rfl, _⟩ := h2
  have c1 := cell_at (heap_alloc_keep hb (.cells #[.string ⟨d.name.toArray⟩, .slice a1 d.params.length cap1, .int .i64 d.ty.kind, .string ⟨d.ty.name.toArray⟩, .slice a2 d.ty.args.length cap2, .bool d.als] 61)) 1
  simp only [List.getElem?_toArray, List.getElem?_cons_zero, List.getElem?_cons_succ] at c1
  clear hb
  go_enter Tryz.func65, Tryz.ntmps65
  go_wp2_with fail
  go_ret
  exact ⟨rfl, (Ext.refl _ _).alloc _⟩
theorem enter_fname : ∀ args w, (callFunc 64 args).run Tryz.prog w = .ok (.enter 64 args) w := Go.Proofs.enters_of Tryz.func64 (by kernel_rfl) rfl
theorem enter_find1 : ∀ args w, (callFunc 65 args).run Tryz.prog w = .ok (.enter 65 args) w := Go.Proofs.enters_of Tryz.func65 (by kernel_rfl) rfl
end Go.Proofs.YtbhpmmofgdppdaaGreatDoor
/-
  Rows of strings: sources of an append.
-/
namespace Go.Proofs.YtbhpmmofgdppdaaGreatDoor
open Go.RowKit Go.Lib Go.BigFrame
def strVals (l : List (List UInt8)) : List Value := l.map fun s => .string ⟨s.toArray⟩
theorem str_src {P : Program} {tx e' : TypeId} (hk : P.underlying tx = some (.slice e')) {A : Nat → Prop} {w : World} {a : Option Addr} {cap : Nat} {l : List (List UInt8)} (h : IsStrs A w (.slice a l.length cap) l) : Src P 1 tx (.slice a l.length cap) l.length (strVals l) w := by
  by_cases hl : l = []
  · subst hl
    cases a with
    | none => exact Src.ofNil w hk cap
    | some a => exact Src.ofSlice w hk a 0 cap [] (by simp) (fun j u hj => by simp at hj) (fun u hu => by cases hu)
  · obtain ⟨b, off, rfl, _⟩ := h.cell 0 (List.length_pos_iff.2 hl)
    refine Src.ofSlice w hk _ _ cap _ (by simp [strVals]) (fun j u hj => ?_) (fun u hu => ?_)
    · have hjl : j < l.length := by have := (List.getElem?_eq_some_iff.1 hj).1; simpa [strVals] using this
      obtain ⟨b', off', e, hc⟩ := h.cell j hjl
      injection e with e
      injection e with e1 e2
      subst e1 e2
      have ea : (⟨b, off, none⟩ : Addr).add j = ⟨b, off + j, none⟩ := by unfold Addr.add; split <;> simp_all
      rw [ea, hc]
      simpa [strVals, hjl] using hj
    · obtain ⟨t, _, rfl⟩ := List.mem_map.1 hu
      rfl
theorem str_row {A : Nat → Prop} {w : World} {base : Nat} {v : Value} {l : List (List UInt8)} (h : w.ownsRow base 9 1 v l.length (strVals l)) : RowOf 1 9 IsStr A w base v l :=
  ⟨_, h, fun i hi => by
    show ((strVals l).drop (i * 1)).take 1 = [.string ⟨(l[i]).toArray⟩]
    unfold strVals
    rw [Nat.mul_one, ← List.map_drop, List.drop_eq_getElem_cons hi]
    rfl⟩
theorem infoStr : (Tryz.prog.info? 9).map (fun i => (i.zero, i.size, i.bytes)) = some (some (.string ⟨#[]⟩), 1, 16) := by kernel_rfl
end Go.Proofs.YtbhpmmofgdppdaaGreatDoor
