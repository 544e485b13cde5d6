import Derived.Test.YtielcpnalepkfaaDoorLitNumP
import Derived.Test.YtielcpnalepkfaaDoorLitQuote
namespace Go.Proofs.YtielcpnalepkfaaDoor
open Go.RowKit Go.Lib Go.BigFrame
def digV (o : Option Nat) : Int := match o with
  | none => -1
  | some d => d
set_option maxRecDepth 100000 in
set_option maxHeartbeats 800000 in
theorem digit_any (c : Nat) (w : World) (hc : c ≤ 1114111) : Calls Tryd.prog 21 #[.int .i32 c] w (IntPost' (digV (digN c)) w) := by
  obtain ⟨p, hp⟩ : ∃ p, p = digV (digN c) := ⟨_, rfl⟩
  rw [← hp]
  have HP := hid hp
  clear hp
  by_cases h1 : 48 ≤ c ∧ c ≤ 57
  · have hp : Hid (p = ((c : Int) - 48)) := hid (by rw [HP.out]; unfold digN; rw [if_pos h1]; simp only [digV]; omega)
    obtain ⟨a1, a2⟩ := h1
    go_enter Tryd.func21, Tryd.ntmps21
    go_wp2
    go_ret
    exact ⟨by rw [hp.out]; rfl, rfl⟩
  · have h1' : c < 48 ∨ 57 < c := by omega
    by_cases h2 : 97 ≤ c ∧ c ≤ 102
    · have hp : Hid (p = ((c : Int) - 97 + 10)) := hid (by rw [HP.out]; unfold digN; rw [if_neg h1, if_pos h2]; simp only [digV]; omega)
      obtain ⟨a1, a2⟩ := h2
      clear h1 h1'
      go_enter Tryd.func21, Tryd.ntmps21
      go_wp2
      go_ret
      exact ⟨by rw [hp.out]; rfl, rfl⟩
    · have h2' : c < 97 ∨ 102 < c := by omega
      by_cases h3 : 65 ≤ c ∧ c ≤ 70
      · have hp : Hid (p = ((c : Int) - 65 + 10)) := hid (by rw [HP.out]; unfold digN; rw [if_neg h1, if_neg h2, if_pos h3]; simp only [digV]; omega)
        obtain ⟨a1, a2⟩ := h3
        clear h1 h1' h2 h2'
        go_enter Tryd.func21, Tryd.ntmps21
        go_wp2
        go_ret
        exact ⟨by rw [hp.out]; rfl, rfl⟩
      · have hp : Hid (p = -1) := hid (by rw [HP.out]; unfold digN; rw [if_neg h1, if_neg h2, if_neg h3]; rfl)
        have h3' : c < 65 ∨ 70 < c := by omega
        clear h1 h2 h3
        rcases h1' with a1 | a1
        · clear h2' h3'
          go_enter Tryd.func21, Tryd.ntmps21
          go_wp2
          go_ret
          exact ⟨by rw [hp.out]; rfl, rfl⟩
        · rcases h2' with a2 | a2
          · rcases h3' with a3 | a3
            all_goals
              go_enter Tryd.func21, Tryd.ntmps21
              go_wp2
              go_ret
              exact ⟨by rw [hp.out]; rfl, rfl⟩
          · clear h3'
            go_enter Tryd.func21, Tryd.ntmps21
            go_wp2
            go_ret
            exact ⟨by rw [hp.out]; rfl, rfl⟩
/-- The cells of digits. -/
def intVals (l : List Nat) : List Value := l.map fun x => .int .i64 (x : Nat)
theorem intVals_len (l : List Nat) : (intVals l).length = l.length := by simp [intVals]
theorem intVals_app (a b : List Nat) : intVals (a ++ b) = intVals a ++ intVals b := by simp [intVals]
theorem intVals_at {l : List Nat} {i : Nat} (h : i < l.length) : (intVals l)[i]? = some (.int .i64 ((l[i]'h : Nat) : Int)) := by simp [intVals, h]
/-- The row of digits. -/
structure DigRel (B : Nat) (w : World) (v : Value) (l : List Nat) : Prop where
  own : w.ownsRow B 3 1 v l.length (intVals l)
theorem DigRel.later {B : Nat} {F : Nat → Prop} {w w2 : World} {v : Value} {l : List Nat} (h : DigRel B w v l) (x : Ext F w w2) (hF : ∀ g, v.ownBlock = some g → ¬ F g) : DigRel B w2 v l := ⟨ownsRow_ext h.own x hF⟩
def TimesPost (B : Nat) (v : Value) (w : World) (r : List Nat) (e : Ending) (w' : World) : Prop :=
  ∃ v', e = .returned v' ∧ DigRel B w' v' r ∧ Ext (fun i => v.ownBlock = some i) w w' ∧ (v'.ownBlock = v.ownBlock ∨ ∃ g, v'.ownBlock = some g ∧ w.heap.size ≤ g)
set_option maxRecDepth 100000 in
set_option maxHeartbeats 3200000 in
theorem times_any (B : Nat) (v : Value) (l : List Nat) (f c : Nat) (w : World) (hv : DigRel B w v l) (hB : B ≤ w.heap.size) (hf : f ≤ 16) (hc : c ≤ 15) (hd : ∀ x ∈ l, x ≤ 9) (hl : l.length ≤ 100000) :
    Calls Tryd.prog 22 #[v, .int .i64 f, .int .i64 c] w (TimesPost B v w (timesP l f c)) := by
  obtain ⟨a, cp, rfl⟩ := own_slice hv.own
  have HV := hid hv
  have HD := hid hd
  have HLE := hid (mulL_len f l c)
  clear hv hd
  obtain ⟨i0, hi, hz0, hz1, hz2⟩ : ∃ i0, Tryd.prog.info? 3 = some i0 ∧ i0.zero = some (.int .i64 0) ∧ i0.size = 1 ∧ i0.bytes = 8 := ⟨_, rfl, rfl, rfl, rfl⟩
  have I0 := hid hi
  have I1 := hid hz0
  have I2 := hid hz1
  have I3 := hid hz2
  clear hi hz0 hz1 hz2
  go_enter Tryd.func22, Tryd.ntmps22
  go_wp2_with fail
  go_loopw [2, 7, 8, 11] (fun m _ _ z wr => ∃ (i k : Nat), z = .int .i64 i ∧ m = .int .i64 k ∧ i ≤ l.length ∧ k ≤ 15 ∧ Hid (k = (mulL f (l.take i) c).2) ∧ Hid (wr.ownsRow B 3 1 (.slice a l.length cp) l.length (intVals ((mulL f (l.take i) c).1 ++ l.drop i))) ∧
    Hid (Ext (fun i => (Value.slice a l.length cp).ownBlock = some i) w wr)) (fun _ _ _ z _ => l.length - (RowKit.intOf z).toNat)
  case atStart => exact ⟨0, c, rfl, rfl, by omega, hc, hid rfl, hid (by simpa [mulL] using HV.out.own), hid (Ext.refl _ _)⟩
  case round =>
    obtain ⟨i, k, rfl, rfl, hle, hk, HK, HO, HX⟩ := hrel
    by_cases hil : i < l.length
    · obtain ⟨x, hx⟩ : ∃ x, l[i]'hil = x := ⟨_, rfl⟩
      have hx9 : x ≤ 9 := by rw [← hx]; exact HD.out _ (List.getElem_mem hil)
      have etk : l.take (i + 1) = l.take i ++ [x] := by rw [List.take_add_one, List.getElem?_eq_getElem hil, hx]; rfl
      have hsn := mulL_snoc f (l.take i) x c
      rw [← etk, ← HK.out] at hsn
      obtain ⟨A, hA⟩ : ∃ A, (mulL f (l.take i) c).1 = A := ⟨_, rfl⟩
      rw [hA] at hsn HO
      have hAl : A.length = i := by rw [← hA, mulL_len, List.length_take]; omega
      have hdr : l.drop i = x :: l.drop (i + 1) := by rw [List.drop_eq_getElem_cons hil, hx]
      rw [hdr] at HO
      have hxf : x * f ≤ 9 * 16 := Nat.mul_le_mul hx9 hf
      obtain ⟨y, hy⟩ : ∃ y, x * f + k = y := ⟨_, rfl⟩
      have HYI : Hid ((x : Int) * f + k = (y : Nat)) := hid (by rw [← hy]; push_cast; rfl)
      have hxi : (x : Int) * f = ((x * f : Nat) : Int) := by push_cast; rfl
      have hm0 : (0 : Int) ≤ (x : Int) * f := by rw [hxi]; omega
      have hm1 : (x : Int) * f ≤ 144 := by rw [hxi]; omega
      clear hxi
      rw [hy] at hsn
      have hy1 : y ≤ 159 := by omega
      have hbl : (a = none → l.length = 0) := by
        rintro rfl
        rcases HO.out.2 with ⟨h, h0⟩ | ⟨g, cap, cur, h, _⟩
        · exact h0
        · injection h with h _ _; cases h
      cases a with
      | none => have := hbl rfl; omega
      | some ad =>
        obtain ⟨b, off, spot⟩ := ad
        obtain ⟨rfl, rfl⟩ : off = 0 ∧ spot = none := by
          rcases HO.out.2 with ⟨h, _⟩ | ⟨g, cap, cur, h, _⟩
          · injection h with h _ _; cases h
          · injection h with h _ _; injection h with h; injection h with h1 h2 h3; exact ⟨h2, h3⟩
        have ci := HO.out.cellAt i (by omega)
        rw [intVals_app, List.getElem?_append_right (by rw [intVals_len]; omega), intVals_len, hAl, Nat.sub_self] at ci
        simp only [intVals, List.map_cons, List.getElem?_cons_zero] at ci
        have fi := HO.out.frozenAt i
        have N := hid (HO.out.stored i (.int .i64 ((y % 10 : Nat) : Int))).1
        have hset : (intVals (A ++ x :: l.drop (i + 1))).set i (.int .i64 ((y % 10 : Nat) : Int)) = intVals ((mulL f (l.take (i + 1)) c).1 ++ l.drop (i + 1)) := by
          rw [hsn, intVals_app]
          rw [List.set_append_right _ _ (by rw [intVals_len]; omega), intVals_len, hAl, Nat.sub_self]
          simp [intVals]
        rw [hset] at N
        have NK : Hid (y / 10 = (mulL f (l.take (i + 1)) c).2) := hid (by rw [hsn])
        have NX := hid (HX.out.setCell (p := ⟨b, i, none⟩) (.inl (by simp [Value.ownBlock])) (.int .i64 ((y % 10 : Nat) : Int)))
        clear hset HO HX hsn hdr etk hA hAl hx hy hbl hxf hy1
        go_wp2_with fail
        have e1 : (y : Int) % 10 = ((y % 10 : Nat) : Int) := by omega
        have e2 : (y : Int) / 10 = ((y / 10 : Nat) : Int) := by omega
        rw [HYI.out, e1, e2]
        clear e1 e2
        have hy15 : y / 10 ≤ 15 := by have := HYI.out; omega
        go_roundw
        case rel => exact ⟨i + 1, y / 10, by go_num, rfl, by omega, hy15, NK, N, NX⟩
        case measure => simp [RowKit.intOf]; omega
    · obtain rfl : i = l.length := by omega
      have hm := HK.out
      rw [List.take_length] at hm
      have O1 := HO.out
      rw [List.take_length, List.drop_length, List.append_nil] at O1
      have HF : Hid ((mulL f l c).1 ++ carL k k = timesP l f c) := hid (by rw [hm]; rfl)
      have R1 : Hid (DigRel B wr (.slice a l.length cp) (mulL f l c).1) := hid ⟨by rw [HLE.out]; exact O1⟩
      have HX1 := HX
      have HT := hid (timesP_len hf hc HD.out)
      clear hm O1 HK HO HX
      go_wp2_with fail
      go_loopw [0, 2] (fun vo m wq => ∃ (done : List Nat) (q j : Nat), m = .int .i64 q ∧ q ≤ j ∧ q ≤ 15 ∧ Hid (done ++ carL j q = timesP l f c) ∧ Hid (DigRel B wq vo done) ∧ Hid (Ext (fun i => (Value.slice a l.length cp).ownBlock = some i) w wq) ∧
        Hid (vo.ownBlock = (Value.slice a l.length cp).ownBlock ∨ ∃ g, vo.ownBlock = some g ∧ w.heap.size ≤ g)) (fun _ m _ => (RowKit.intOf m).toNat)
      case atStart => exact ⟨_, k, k, rfl, Nat.le_refl _, hk, HF, R1, HX1, hid (.inl rfl)⟩
      case round =>
        obtain ⟨done, q, j, rfl, hqj, hq15, HE, HR, HXX, HBK⟩ := hrel
        by_cases hq : 0 < q
        · obtain ⟨j', rfl, hcs, hj'⟩ := carL_step hq hqj
          have HE2 : Hid ((done ++ [q % 10]) ++ carL j' (q / 10) = timesP l f c) := hid (by have := HE.out; rw [hcs] at this; rw [← this]; simp)
          have hdl : done.length ≤ 100002 := by
            have h1 := congrArg List.length HE.out
            rw [List.length_append] at h1
            have := HT.out
            omega
          have e1 : (q : Int) % 10 = ((q % 10 : Nat) : Int) := by omega
          have O2 := hid (ownsRow_ext HR.out.own ((Ext.refl none' wr).alloc (.cells #[.int .i64 ((q : Int) % 10)] 3)) (fun _ _ h => h))
          have S2 := hid (Src.one (P := Tryd.prog) (tx := 41) Tryd.underlying41 wr (.int .i64 ((q : Int) % 10)) 3 rfl)
          have HE1 := hid e1
          have HSZ := hid HXX.out.size
          have HS2 := hid HXX.out.size
          clear e1 hcs HE
          go_wp2_with (at_builtin; refine wpList_app _ rfl (.tmp 31) (.tmp 34) 41 41 rfl B 3 i0 _ 1 8 Tryd.underlying41 I0.out I1.out I2.out I3.out rfl _ done.length (intVals done) rfl O2.out _ 1 _ rfl S2.out ?_ ?_ ?_ ?_)
          · unfold maxLen; omega
          · omega
          · have := HSZ.out; simp; omega
          intro v3 w3 own3 grow3 blk3 _
          rw [HE1.out] at own3
          have N : Hid (DigRel B w3 v3 (done ++ [q % 10])) := hid ⟨by rw [intVals_app, List.length_append]; exact own3⟩
          have NX : Hid (Ext (fun i => (Value.slice a l.length cp).ownBlock = some i) w w3) := hid ((HXX.out.alloc _).grown grow3 (fun g hg => by
            rcases HBK.out with h | ⟨g', h, h'⟩
            · left; rw [← h]; exact hg
            · right; rw [h] at hg; injection hg with hg; omega))
          have NB : Hid (v3.ownBlock = (Value.slice a l.length cp).ownBlock ∨ ∃ g, v3.ownBlock = some g ∧ w.heap.size ≤ g) := hid (by
            rcases blk3 with h | h
            · rw [h]; exact HBK.out
            · exact .inr ⟨_, h, by have := HSZ.out; simp; omega⟩)
          clear own3 grow3 blk3
          go_wp2_with fail
          have e2 : (q : Int) / 10 = ((q / 10 : Nat) : Int) := by omega
          rw [e2]
          clear e2
          go_roundw
          case rel => exact ⟨_, q / 10, j', rfl, hj', by omega, HE2, N, NX, NB⟩
          case measure => simp [RowKit.intOf]; omega
        · obtain rfl : q = 0 := by omega
          have HE3 : Hid (done = timesP l f c) := hid (by have := HE.out; rw [carL_zero, List.append_nil] at this; exact this)
          go_wp2_with fail
          go_ret
          exact ⟨_, rfl, by rw [← HE3.out]; exact HR.out, HXX.out, HBK.out⟩
end Go.Proofs.YtielcpnalepkfaaDoor
