import Derived.Test.YtbhpmmofgdppdaaGreatDoorZAc
import Derived.Test.YtbhpmmofgdppdaaGreatDoorProg
import Derived.Test.YtbhpmmofgdppdaaGreatDoorZAb
namespace Go.Proofs.YtbhpmmofgdppdaaGreatDoor
open Go.RowKit Go.Lib Go.BigFrame
/-- Where the first one is of which p holds; -1: of none. -/
def fstI {α : Type} (p : α → Bool) (l : List α) : Int := match l.findIdx? p with
  | some i => (i : Nat)
  | none => -1
theorem fstI_at {α : Type} {p : α → Bool} {l : List α} {i : Nat} (hi : i < l.length) (hp : p l[i] = true) (hn : ∀ j (h : j < l.length), j < i → p l[j] = false) : fstI p l = (i : Nat) := by
  have e : l.findIdx? p = some i := by
    rw [List.findIdx?_eq_some_iff_getElem]
    exact ⟨hi, hp, fun j hj => by rw [hn j (by omega) hj]; simp⟩
  unfold fstI; rw [e]
theorem fstI_none {α : Type} {p : α → Bool} {l : List α} (hn : ∀ j (h : j < l.length), p l[j] = false) : fstI p l = -1 := by
  have e : l.findIdx? p = none := by
    rw [List.findIdx?_eq_none_iff]
    intro x hx
    obtain ⟨j, hj, rfl⟩ := List.mem_iff_getElem.1 hx
    rw [hn j hj]
  unfold fstI; rw [e]
theorem fstI_cases {α : Type} (p : α → Bool) (l : List α) : (fstI p l = -1 ∧ ∀ x ∈ l, p x = false) ∨ ∃ i, ∃ h : i < l.length, fstI p l = (i : Nat) ∧ p l[i] = true := by
  unfold fstI
  cases h : l.findIdx? p with
  | none => left; rw [List.findIdx?_eq_none_iff] at h; exact ⟨rfl, fun x hx => by simpa using h x hx⟩
  | some i =>
    right
    rw [List.findIdx?_eq_some_iff_getElem] at h
    obtain ⟨h1, h2, _⟩ := h
    exact ⟨i, h1, rfl, h2⟩
def IntP (z : Int) (w : World) (e : Ending) (w' : World) : Prop := e = .returned (.int .i64 z) ∧ Ext none' w w'
def BoolP (b : Bool) (w : World) (e : Ending) (w' : World) : Prop := e = .returned (.bool b) ∧ Ext none' w w'
set_option maxRecDepth 100000 in
theorem index_any (A : Nat → Prop) (l : List (List UInt8)) (x : List UInt8) (v : Value) (w : World) (hv : IsStrs A w v l) (hl : l.length ≤ 9223372036854775807) : Calls Tryz.prog 35 #[v, .string ⟨x.toArray⟩] w (IntP (fstI (· == x) l) w) := by
  obtain ⟨p, hp⟩ : ∃ p, p = fstI (· == x) l := ⟨_, rfl⟩
  rw [← hp]
  have HP := hid hp
  have HV := hid hv
  obtain ⟨a, cap, rfl, hc, hn, _⟩ := hv
  clear hp hn
  go_enter Tryz.func35, Tryz.ntmps35
  go_wp2_with fail
  go_loop [5, 8] (fun _ z => ∃ (i : Nat), z = .int .i64 i ∧ i ≤ l.length ∧ Hid (∀ j (h : j < l.length), j < i → (l[j] == x) = false)) (fun _ z => l.length - (RowKit.intOf z).toNat)
  case atStart => exact ⟨0, rfl, by omega, hid (fun j _ h => by omega)⟩
  case round =>
    obtain ⟨i, rfl, hle, HF⟩ := hrel
    by_cases hi : i < l.length
    · obtain ⟨b, off, rfl, g⟩ := HV.out.cell i hi
      obtain ⟨t, ht⟩ : ∃ t, l[i] = t := ⟨_, rfl⟩
      rw [ht] at g
      have HTT := hid ht
      clear ht
      by_cases e : t = x
      · have E : Hid (p = (i : Nat)) := hid (by rw [HP.out]; exact fstI_at hi (by rw [HTT.out, e]; simp) HF.out)
        have e' : (x == t) = true := by rw [e]; simp
        clear e
        go_wp2
        go_ret
        exact ⟨by rw [E.out]; rfl, Ext.refl _ _⟩
      · have e' : (x == t) = false := by simpa using Ne.symm e
        have E : Hid ((t == x) = false) := hid (by simpa using e)
        clear e
        go_wp2
        go_round
        case rel => exact ⟨i + 1, by go_num, by omega, hid (fun j hj hji => by
            by_cases q : j = i
            · subst q; rw [HTT.out]; exact E.out
            · exact HF.out j hj (by omega))⟩
        case measure => simp [RowKit.intOf]; omega
    · obtain rfl : i = l.length := by omega
      have E : Hid (p = -1) := hid (by rw [HP.out]; exact fstI_none fun j hj => HF.out j hj hj)
      go_wp2
      go_ret
      exact ⟨by rw [E.out]; rfl, Ext.refl _ _⟩
end Go.Proofs.YtbhpmmofgdppdaaGreatDoor
namespace Go.Proofs.YtbhpmmofgdppdaaGreatDoor
open Go.RowKit Go.Lib Go.BigFrame
/-- What a function over types does at each element of a row: 'S i': what holds of the world before the i-th; 'A': what may turn; 'C': what turns. -/
def TurnStep (fn : Nat) (caps : Array Value) (C A : Nat → Prop) (w : World) (l rs : List Ty) (S : Nat → World → Prop) : Prop :=
  ∀ (i : Nat) (hi : i < l.length) (hi' : i < rs.length) (B : Nat → Prop) (w' : World) (v : Value), Ext C w w' → (∀ b, A b → B b) → (∀ b, B b → b < w'.heap.size) → (∀ b, b < w.heap.size → B b → A b) → TyV B w' l[i] v → S i w' →
    Calls Tryz.prog fn (#[v] ++ caps) w' fun e w2 => ∃ u, e = .returned u ∧ TyV B w2 rs[i] u ∧ Ext C w' w2 ∧ S (i + 1) w2
def SlPost (C A : Nat → Prop) (w : World) (rs : List Ty) (S : World → Prop) (e : Ending) (w' : World) : Prop := ∃ v, e = .returned v ∧ IsSl 3 IsTy A w' v rs ∧ Ext C w w' ∧ S w'
structure TurnRel (C A : Nat → Prop) (w wr : World) (rs : List Ty) (S : Nat → World → Prop) (o : Value) (i : Nat) : Prop where
  row : RowOf 3 32 IsTy A wr w.heap.size o (rs.take i)
  hx : Ext C w wr
  st : S i wr
theorem infoTy : (Tryz.prog.info? 32).map (fun i => (i.zero, i.size, i.bytes)) = some (some (.agg #[.int .i64 0, .string ⟨#[]⟩, .slice none 0 0]), 3, 48) := by kernel_rfl
set_option maxRecDepth 100000 in
set_option maxHeartbeats 1600000 in
theorem turned_any (fn : Nat) (caps : Array Value) (C A : Nat → Prop) (l rs : List Ty) (S : Nat → World → Prop) (v : Value) (w : World) (hrs : rs.length = l.length) (hl : l.length ≤ 100000000000)
    (hCA : ∀ b, C b → A b) (hA : ∀ b, A b → b < w.heap.size) (hv : IsSl 3 IsTy A w v l) (hS : S 0 w) (hSl : ∀ i w1 w2, S i w1 → Ext (fun b => ¬ A b) w1 w2 → S i w2) (hst : TurnStep fn caps C A w l rs S) (hfn : ∀ args w, (callFunc fn args).run Tryz.prog w = .ok (.enter fn args) w) :
    Calls Tryz.prog 36 #[v, .func (.func fn) #[] caps] w (SlPost C A w rs (S l.length)) := by
  have HV := hid hv
  have HST := hid hst
  obtain ⟨a, cap, rfl, hc, hn, _⟩ := hv
  have HS := hid hS
  obtain ⟨i0, hi0, hz0, hz1, hz2⟩ := info_parts infoTy
  have I0 := hid hi0
  have I1 := hid hz0
  have I2 := hid hz1
  have I3 := hid hz2
  clear hn hst hS hi0 hz0 hz1 hz2
  go_enter Tryz.func36, Tryz.ntmps36
  go_wp2_with fail
  go_loopw [5, 10] (fun o z wr => ∃ (i : Nat), z = .int .i64 (i : Nat) ∧ i ≤ l.length ∧ Hid (TurnRel C A w wr rs S o i)) (fun _ z _ => l.length - (RowKit.intOf z).toNat)
  case atStart => exact ⟨0, rfl, by omega, hid ⟨RowOf.nil _ _ _ _ _ _, Ext.refl _ _, HS.out⟩⟩
  case round =>
    obtain ⟨i, rfl, hle, R⟩ := hrel
    by_cases hi : i < l.length
    · have hri : i < rs.length := by omega
      have HVB := ((HV.out.mono (B := plus A u5) isTy_good fun b hb q => q.elim id fun h => absurd (R.out.row.lt b h).1 (by omega)).ext isTy_good R.out.hx fun b _ h => .inl (hCA b h))
      obtain ⟨b, off, cs, rfl, hAb, hbw, hcc, hty⟩ := HVB.at i hi
      obtain ⟨x, rfl, hx⟩ := hty.parts
      have c0 := hcc 0 _ rfl
      have c1 := hcc 1 _ rfl
      have c2 := hcc 2 _ rfl
      simp only [Nat.add_zero] at c0
      have HX := hid hx
      obtain ⟨a', cap', rfl, _⟩ := hx
      have hsz := R.out.hx.size
      have C1 := hid fun o => HST.out i hi hri (plus A u5) (wr.alloc o) _ (R.out.hx.alloc o) (fun b h => .inl h) (fun b h => by
        rw [World.size_alloc]
        rcases h with h | h
        · have := hA b h; omega
        · have := (R.out.row.lt b h).2; omega) (fun b hb h => h.elim id fun h => absurd (R.out.row.lt b h).1 (by omega)) ⟨_, rfl, HX.out.ext isTy_good ((Ext.refl none' wr).alloc o) fun _ _ h => h.elim⟩ (hSl i _ _ R.out.st (((Ext.refl none' wr).alloc o).mono fun _ _ h => h.elim))
      clear hcc hty
      go_wp2_with fail
      refine (C1.out _).mono ?_
      rintro e w2 ⟨u, rfl, ⟨y, rfl, hy⟩, X2, S2⟩
      have X2' := ((Ext.refl C wr).alloc _).trans X2
      have R2 := R.out.row.ext isTy_good X2' (fun b _ h => hCA b h) (fun g hg h => by have := (R.out.row.lt g hg).1; have := hA g (hCA g h); omega)
      have hlen : (rs.take i).length = i := by rw [List.length_take]; omega
      obtain ⟨cells, ho, hr⟩ := R2
      rw [hlen] at ho
      have HY := hid hy
      obtain ⟨a2, cap2, rfl, _⟩ := hy
      have O2 := hid (ownsRow_ext ho ((Ext.refl none' w2).alloc (.cells #[.int .i64 rs[i].kind, .string ⟨rs[i].name.toArray⟩, .slice a2 rs[i].args.length cap2] 32)) (fun _ _ h => h))
      have S2' := hid (three_src (P := Tryz.prog) Tryz.underlying30 w2 (.int .i64 rs[i].kind) (.string ⟨rs[i].name.toArray⟩) (.slice a2 rs[i].args.length cap2) 32 rfl rfl rfl)
      have HR := hid hr
      have HO := hid ho
      have HX2 := hid (R.out.hx.trans X2')
      have HS2 := hid S2
      have HSZ := hid (show w.heap.size ≤ w2.heap.size from (R.out.hx.trans X2').size)
      clear ho hr X2 X2' S2 HVB R C1
      go_wp2_with (at_builtin; refine wpList_app _ rfl (.tmp 14) (.tmp 18) 30 30 rfl w.heap.size 32 i0 _ 3 48 Tryz.underlying30 I0.out I1.out I2.out I3.out rfl _ i cells rfl O2.out _ 1 _ rfl S2'.out ?_ ?_ ?_ ?_)
      · unfold maxLen; omega
      · omega
      · have := HSZ.out; rw [World.size_alloc]; omega
      intro v3 w3 own3 grow3 blk3 _
      have N : Hid (TurnRel C A w w3 rs S v3 (i + 1)) := hid (by
        have X3 : Ext none' w2 (w2.alloc (.cells #[.int .i64 rs[i].kind, .string ⟨rs[i].name.toArray⟩, .slice a2 rs[i].args.length cap2] 32)) := (Ext.refl _ _).alloc _
        have hr3 : ∀ j (h : j < (rs.take i).length), IsTy (plus A u5) (w2.alloc (.cells #[.int .i64 rs[i].kind, .string ⟨rs[i].name.toArray⟩, .slice a2 rs[i].args.length cap2] 32)) (rs.take i)[j] ((cells.drop (j * 3)).take 3) := fun j h => isTy_good.ext (HR.out j h) X3 fun _ _ q => q.elim
        refine ⟨?_, ?_, ?_⟩
        · have e : rs.take (i + 1) = rs.take i ++ [rs[i]] := by rw [List.take_add_one, List.getElem?_eq_getElem hri]; rfl
          rw [e]
          exact RowOf.snoc isTy_good (by rw [hlen]; exact O2.out) hr3 (isTy_good.ext (TyV.ty HY.out) X3 fun _ _ q => q.elim) (by rw [hlen]; exact own3) grow3 (by rw [World.size_alloc]; exact blk3)
        · exact (HX2.out.alloc _).grown grow3 (fun g hg => .inr (O2.out.lt g hg).1)
        · refine hSl (i + 1) _ _ HS2.out (((Ext.refl _ w2).alloc _).grown grow3 (fun g hg => .inl fun h => ?_))
          have := hA g h
          have := (O2.out.lt g hg).1
          omega)
      clear own3 grow3 blk3
      go_wp2_with fail
      go_roundw
      case rel => exact ⟨i + 1, by go_num, by omega, N⟩
      case measure => simp [RowKit.intOf]; omega
    · obtain rfl : i = l.length := by omega
      have e : rs.take l.length = rs := by rw [← hrs, List.take_length]
      have R1 := R.out.row
      rw [e] at R1
      have R2 := hid (R1.sl isTy_good fun b hb h => by have := hA b h; omega)
      have HX := hid R.out.hx
      have HS2 := hid R.out.st
      clear R1 R e
      go_wp2_with fail
      go_ret
      exact ⟨_, rfl, R2.out, HX.out, HS2.out⟩
end Go.Proofs.YtbhpmmofgdppdaaGreatDoor
/-
  Types in the place of parameters, aliases written out, what stands behind: plain. No Go in sight.
-/
namespace Go.Proofs.YtbhpmmofgdppdaaGreatDoor
open Go.Lib
mutual
/-- Types in the place of parameters. -/
def withT (ps : List (List UInt8)) (by' : List Ty) : Ty → Ty
  | .mk k n l => if k = 4 ∧ 0 ≤ fstI (· == n) ps ∧ fstI (· == n) ps < by'.length then by'.getD (fstI (· == n) ps).toNat Ty.zero else .mk k n (withL ps by' l)
def withL (ps : List (List UInt8)) (by' : List Ty) : List Ty → List Ty
  | [] => []
  | t :: r => withT ps by' t :: withL ps by' r
end
theorem withL_map (ps : List (List UInt8)) (by' : List Ty) : ∀ l, withL ps by' l = l.map (withT ps by')
  | [] => rfl
  | t :: r => by rw [withL, withL_map ps by' r]; rfl
theorem withT_eq (ps : List (List UInt8)) (by' : List Ty) (t : Ty) : withT ps by' t = if t.kind = 4 ∧ 0 ≤ fstI (· == t.name) ps ∧ fstI (· == t.name) ps < by'.length then by'.getD (fstI (· == t.name) ps).toNat Ty.zero else .mk t.kind t.name (t.args.map (withT ps by')) := by
  cases t with
  | mk k n l => rw [withT, withL_map]; rfl
theorem withT_mk (ps : List (List UInt8)) (by' : List Ty) (k : Int) (n : List UInt8) (l : List Ty) : withT ps by' (.mk k n l) = if k = 4 ∧ 0 ≤ fstI (· == n) ps ∧ fstI (· == n) ps < by'.length then by'.getD (fstI (· == n) ps).toNat Ty.zero else .mk k n (l.map (withT ps by')) := by
  rw [withT, withL_map]
theorem withT_size {ps : List (List UInt8)} {by' : List Ty} {m : Nat} (hm : 1 ≤ m) (hb : ∀ t ∈ by', t.size ≤ m) (t : Ty) : (withT ps by' t).size ≤ t.size * m := by
  induction t using Ty.induct with
  | h k n l ih =>
    rw [withT_mk]
    have h1 : m ≤ (Ty.mk k n l).size * m := Nat.le_mul_of_pos_left m (Ty.size_pos _)
    split
    · rename_i hc
      have hl : (fstI (· == n) ps).toNat < by'.length := by have := hc.2; omega
      rw [List.getD_eq_getElem?_getD, List.getElem?_eq_getElem hl]
      exact Nat.le_trans (hb _ (List.getElem_mem hl)) h1
    · have key : ∀ l' : List Ty, (∀ t ∈ l', (withT ps by' t).size ≤ t.size * m) → Ty.sizeL (l'.map (withT ps by')) ≤ Ty.sizeL l' * m := by
        intro l'
        induction l' with
        | nil => intro _; simp [Ty.sizeL]
        | cons t r ihr =>
          intro h
          have a := h t (by simp)
          have b := ihr fun x hx => h x (by simp [hx])
          rw [List.map_cons, Ty.sizeL, Ty.sizeL, Nat.add_mul]
          omega
      have := key l ih
      rw [Ty.size, Ty.size, Nat.add_mul]
      omega
end Go.Proofs.YtbhpmmofgdppdaaGreatDoor
/-
  A region that draws its order: plain operations first in the text's order, then a forced chain, then plain operations again.
-/
namespace Go.Proofs.YtbhpmmofgdppdaaGreatDoor
open Go.RowKit Go.Lib
section
variable {P : Program} {ops : Array Oper} {Q : Exit → Act → World → Prop} {md : Region.Mode} {S : World → Prop}
def allE : Nat → Bool := fun _ => true
def forcedB (md : Region.Mode) (ops : Array Oper) : List Nat → Array Bool → Bool
  | [], _ => true
  | j :: r, listed => (Region.ready md ops listed) == [j] && forcedB md ops r (listed.setIfInBounds j true)
def wpChainK (P : Program) (l : List Oper) (Q : Exit → Act → World → Prop) (S : World → Prop) (K : Act → World → Prop) : List Nat → Act → World → Prop
  | [], a, w => K a w
  | j :: r, a, w => wpList P l.toArray (Exit.then (fun a' w' => S w' ∧ wpChainK P l Q S K r a' w') Q) (sel l [j]) a w
theorem phaseBK (l : List Oper) (hl : l.toArray = ops) (K : Act → World → Prop) (fuel : Nat) : ∀ (lB : List Nat) (listed : Array Bool) (a : Act) (w : World),
    forcedB md ops lB listed = true → Down md ops listed → S w → wpChainK P l Q S K lB a w → (∀ a' w', S w' → K a' w' → Down md ops (listedA lB listed) → wpAnyE P md ops Q S allE fuel (listedA lB listed) a' w') → wpAnyE P md ops Q S allE (lB.length + fuel) listed a w
  | [], listed, a, w, _, hd, hS, h, hK => by simpa [listedA] using hK a w hS h hd
  | j :: r, listed, a, w, hc, hd, hS, h, hK => by
    simp only [forcedB, Bool.and_eq_true, beq_iff_eq] at hc
    rw [List.length_cons, Nat.add_right_comm]
    refine ⟨fun h0 => (by rw [hc.1] at h0; cases h0), fun i hi => ?_⟩
    rw [hc.1, List.mem_singleton] at hi
    subst hi
    have hm : i ∈ Region.ready md ops listed := by rw [hc.1]; simp
    obtain ⟨_, oi, hoi, _⟩ := mem_ready.1 hm
    have hli : l[i]? = some oi := by rw [← hl] at hoi; simpa using hoi
    simp only [wpChainK, sel, hli, hl, wpList] at h
    have hnext : ∀ a' w', (S w' ∧ wpChainK P l Q S K r a' w') → (allE i = true → S w') ∧ wpAnyE P md ops Q S allE (r.length + fuel) (listed.setIfInBounds i true) a' w' :=
      fun a' w' hx => ⟨fun _ => hx.1, phaseBK l hl K fuel r (listed.setIfInBounds i true) a' w' hc.2 (hd.step hm) hx.1 hx.2 hK⟩
    unfold wpOp
    simp only [hoi]
    split at h
    · rename_i hw
      rw [if_pos hw]
      refine h.imp (fun h => wp_exits (fun a' w' hx => hnext a' w' hx) (fun c a w hx => hx) (fun ⟨a, w, hx⟩ => ⟨a, w, hx⟩) h) (fun ⟨h1, a, w, hx⟩ => ⟨h1, a, w, hx⟩)
    · rename_i hw
      rw [if_neg hw]
      exact hnext _ _ h
/-- All that is checked of a region by running it. -/
def mixed3B (ops : Array Oper) (lA lB lC : List Nat) : Bool :=
  Region.noSelect ops && readyA .any ops lA (Array.replicate ops.size false) && forcedB .any ops lB (listedA lA (Array.replicate ops.size false)) &&
  readyA .any ops lC (listedA lB (listedA lA (Array.replicate ops.size false))) && (Region.ready .any ops (listedA lC (listedA lB (listedA lA (Array.replicate ops.size false))))).isEmpty && lA.length + (lB.length + (lC.length + 0)) == ops.size
theorem down_all : ∀ (lA : List Nat) (listed : Array Bool), readyA md ops lA listed = true → Down md ops listed → Down md ops (listedA lA listed)
  | [], _, _, h => h
  | i :: r, listed, hr, h => by
    simp only [readyA, Bool.and_eq_true, List.contains_eq_mem, decide_eq_true_eq] at hr
    exact down_all r _ hr.2 (h.step hr.1.1.1)
theorem region_mixed3 {id : Nat} {a : Act} {w : World} {l : List Oper} (S : World → Prop) (lA lB lC : List Nat) (hm : P.follows .mixedOrders = true) (hB : mixed3B l.toArray lA lB lC = true)
    (hQ : ∀ (dst : Option Tmp) v c a w, Q (.panic c) (a.put dst v) w → Q (.panic c) a w) (hS : S w.drew)
    (h : wpQuiet P l.toArray S (fun a' => wpChainK P l Q S (fun a2 w2 => wpQuiet P l.toArray S (fun a3 => Q .normal a3 w2) (sel l lC) a2) lB a' w.drew) (sel l lA) a) : (Code.region id l.toArray true).wp P Q a w := by
  simp only [mixed3B, Bool.and_eq_true, beq_iff_eq] at hB
  obtain ⟨⟨⟨⟨⟨h1, h2⟩, h3⟩, h4⟩, h5⟩, h6⟩ := hB
  refine wp_region_any hm (wpAny_of_E (S := S) (E := allE) _ _ _ _ ?_)
  have hd0 : Down .any l.toArray (Array.replicate l.toArray.size false) := by
    intro k ok hk hl
    rw [getD_replicate] at hl
    cases hl
  have hall : ∀ x : List Nat, (x.all fun i => (List.range l.toArray.size).all fun j => allE j || waitsB .any l.toArray l.toArray.size j i) = true := fun x => by simp [allE]
  rw [show l.toArray.size = lA.length + (lB.length + (lC.length + 0)) from h6.symm] at h2 h3 h4 h5 hd0 ⊢
  refine phaseA l rfl h1 hQ hS _ _ lA _ a h2 (hall lA) hd0 h ?_
  intro a' h'
  refine phaseBK l rfl _ _ lB _ a' _ h3 (down_all lA _ h2 hd0) hS h' ?_
  intro a2 w2 hS2 h2' hd2
  refine phaseA l rfl h1 hQ hS2 _ 0 lC _ a2 h4 (hall lC) hd2 h2' ?_
  intro a3 h3'
  exact ⟨by simpa using h5, h3'⟩
/-! ### where a panic's post reads the frame's first slots -/
def dstsB (ops : Array Oper) (l : List Nat) : Bool := l.all fun i => match ops[i]? with
  | some o => (match o.dst with
    | some d => decide (4 ≤ d)
    | none => true)
  | none => true
theorem dsts_put {o : Oper} {i : Nat} {l : List Nat} (h : dstsB ops l = true) (hi : i ∈ l) (ho : ops[i]? = some o) (hQ : ∀ d v c a w, 4 ≤ d → Q (.panic c) (a.put (some d) v) w → Q (.panic c) a w) (v : Value) (c) (a : Act) (w : World) (hp : Q (.panic c) (a.put o.dst v) w) : Q (.panic c) a w := by
  have h1 := List.all_eq_true.1 h i hi
  rw [ho] at h1
  simp only at h1
  cases hd : o.dst with
  | none => rw [hd] at hp; exact hp
  | some d =>
    rw [hd] at hp h1
    exact hQ d v c a w (by simpa using h1) hp
theorem phaseAd (l : List Oper) (hl : l.toArray = ops) (hs : Region.noSelect ops = true) (hQ : ∀ d v c a w, 4 ≤ d → Q (.panic c) (a.put (some d) v) w → Q (.panic c) a w) {w : World} (hS : S w) (K : Act → Prop) (fuel : Nat) : ∀ (lA : List Nat) (listed : Array Bool) (a : Act),
    readyA md ops lA listed = true → dstsB ops lA = true → Down md ops listed →
    wpQuiet P ops S K (sel l lA) a → (∀ a', K a' → wpAnyE P md ops Q S allE fuel (listedA lA listed) a' w) → wpAnyE P md ops Q S allE (lA.length + fuel) listed a w
  | [], listed, a, _, _, _, h, hK => by simpa [listedA] using hK a h
  | i :: r, listed, a, hr, he, hd, h, hK => by
    simp only [readyA, Bool.and_eq_true, List.contains_eq_mem, decide_eq_true_eq] at hr
    obtain ⟨⟨⟨hr1, hf⟩, hp⟩, hr2⟩ := hr
    have he' : dstsB ops r = true := by
      simp only [dstsB, List.all_cons, Bool.and_eq_true] at he
      exact he.2
    have hi : ∃ oi, ops[i]? = some oi ∧ plainOp oi.op = true := by
      cases h' : ops[i]? with
      | none => rw [h'] at hp; simp at hp
      | some o => rw [h'] at hp; exact ⟨o, rfl, by simpa using hp⟩
    obtain ⟨oi, hi, hpl⟩ := hi
    have hli : l[i]? = some oi := by rw [← hl] at hi; simpa using hi
    have hsel : sel l (i :: r) = oi :: sel l r := by simp only [sel, hli]
    rw [hsel] at h
    obtain ⟨v, hy, hk⟩ := yieldsIf_of hpl h ⟨w, hS⟩
    rw [List.length_cons, Nat.add_right_comm]
    refine wpAnyE_first hi (fun j o cs b hj => Region.noSelect_spec hs j o cs b hj) (fun c a w => dsts_put he (by simp) hi hQ v c a w) ?_ (r.length + fuel) listed a w hd (Region.free_spec hi hf) hr1 hy hS ?_
    · intro j oj hj hE
      cases hE
    · exact phaseAd l hl hs hQ hS K fuel r _ _ hr2 he' (hd.step hr1) hk hK
theorem region_mixed3d {id : Nat} {a : Act} {w : World} {l : List Oper} (S : World → Prop) (lA lB lC : List Nat) (hm : P.follows .mixedOrders = true) (hB : mixed3B l.toArray lA lB lC = true) (hdA : dstsB l.toArray lA = true) (hdC : dstsB l.toArray lC = true)
    (hQ : ∀ d v c a w, 4 ≤ d → Q (.panic c) (a.put (some d) v) w → Q (.panic c) a w) (hS : S w.drew)
    (h : wpQuiet P l.toArray S (fun a' => wpChainK P l Q S (fun a2 w2 => wpQuiet P l.toArray S (fun a3 => Q .normal a3 w2) (sel l lC) a2) lB a' w.drew) (sel l lA) a) : (Code.region id l.toArray true).wp P Q a w := by
  simp only [mixed3B, Bool.and_eq_true, beq_iff_eq] at hB
  obtain ⟨⟨⟨⟨⟨h1, h2⟩, h3⟩, h4⟩, h5⟩, h6⟩ := hB
  refine wp_region_any hm (wpAny_of_E (S := S) (E := allE) _ _ _ _ ?_)
  have hd0 : Down .any l.toArray (Array.replicate l.toArray.size false) := by
    intro k ok hk hl
    rw [getD_replicate] at hl
    cases hl
  rw [show l.toArray.size = lA.length + (lB.length + (lC.length + 0)) from h6.symm] at h2 h3 h4 h5 hd0 ⊢
  refine phaseAd l rfl h1 hQ hS _ _ lA _ a h2 hdA hd0 h ?_
  intro a' h'
  refine phaseBK l rfl _ _ lB _ a' _ h3 (down_all lA _ h2 hd0) hS h' ?_
  intro a2 w2 hS2 h2' hd2
  refine phaseAd l rfl h1 hQ hS2 _ 0 lC _ a2 h4 hdC hd2 h2' ?_
  intro a3 h3'
  exact ⟨by simpa using h5, h3'⟩
end
end Go.Proofs.YtbhpmmofgdppdaaGreatDoor
