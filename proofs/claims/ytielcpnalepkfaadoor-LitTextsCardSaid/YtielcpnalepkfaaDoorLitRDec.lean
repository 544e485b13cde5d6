import Derived.Test.YtielcpnalepkfaaDoorLitRDig
import Derived.Test.YtielcpnalepkfaaDoorLitValP
import Derived.Test.YtielcpnalepkfaaDoorLitNum3
namespace Go.Proofs.YtielcpnalepkfaaDoor
open Go.RowKit Go.Lib Go.BigFrame
theorem carL_fuel : ∀ (k j c : Nat), c ≤ k → c ≤ j → carL k c = carL j c
  | 0, j, c, h, _ => by
    obtain rfl : c = 0 := by omega
    rw [carL_zero, carL_zero]
  | k + 1, 0, c, _, h => by
    obtain rfl : c = 0 := by omega
    rw [carL_zero, carL_zero]
  | k + 1, j + 1, c, h1, h2 => by
    unfold carL
    by_cases h : c = 0
    · rw [if_pos h, if_pos h]
    · rw [if_neg h, if_neg h, carL_fuel k j (c / 10) (by omega) (by omega)]
/-- The reference's row of figures: never empty. -/
def rowP (v : List Nat) : List Nat := if v = [] then [0] else v
theorem row_times (v : List Nat) (r d : Nat) : timesP (rowP v) r d = rowP (timesP v r d) := by
  by_cases h : v = []
  · subst h
    by_cases hd : d = 0
    · subst hd; simp [rowP, timesP, mulL, carL]
    · obtain ⟨e, rfl⟩ : ∃ e, d = e + 1 := ⟨d - 1, by omega⟩
      have e1 : timesP [] r (e + 1) = (e + 1) % 10 :: carL e ((e + 1) / 10) := by
        show [] ++ carL (e + 1) (e + 1) = _
        rw [List.nil_append]
        conv => lhs; unfold carL
        rw [if_neg (by omega)]
      have e2 : timesP (rowP []) r (e + 1) = (e + 1) % 10 :: carL ((e + 1) / 10) ((e + 1) / 10) := by
        unfold timesP rowP
        simp [mulL]
      rw [e1, e2, carL_fuel _ e _ (Nat.le_refl _) (by omega)]
      simp [rowP]
  · have h2 : timesP v r d ≠ [] := by
      intro e
      have e2 := congrArg List.length e
      unfold timesP at e2
      rw [List.length_append, mulL_len] at e2
      have : 0 < v.length := List.length_pos_iff.2 h
      simp only [List.length_nil] at e2
      omega
    unfold rowP
    rw [if_neg h, if_neg h2]
theorem row_dig {v : List Nat} (h : ∀ x ∈ v, x ≤ 9) : ∀ x ∈ rowP v, x ≤ 9 := by
  unfold rowP
  split
  · intro x hx; simp at hx; omega
  · exact h
theorem row_len (v : List Nat) : 1 ≤ (rowP v).length ∧ (rowP v).length ≤ v.length + 1 := by
  unfold rowP
  split
  · simp
  · rename_i h
    have : 0 < v.length := List.length_pos_iff.2 h
    omega
theorem row_show (v : List Nat) : showP v = revB (rowP v) := by
  unfold showP rowP
  split <;> rfl
theorem row_last {v : List Nat} (h : v.getLast? ≠ some 0) (h2 : 1 < (rowP v).length) : (rowP v)[(rowP v).length - 1]'(by omega) ≠ 0 := by
  intro e
  have e2 : (rowP v).getLast? = some 0 := by
    rw [List.getLast?_eq_getElem?, List.getElem?_eq_getElem (by omega), e]
  unfold rowP at h2 e2
  by_cases hv : v = []
  · rw [if_pos hv] at h2; simp at h2
  · rw [if_neg hv] at e2; exact h e2
def foldP (r : Nat) (ds : List Nat) : List Nat := ds.foldl (fun v d => timesP v r d) []
theorem foldP_snoc {r : Nat} {ds : List Nat} {i : Nat} (h : i < ds.length) : timesP (rowP (foldP r (ds.take i))) r (ds[i]'h) = rowP (foldP r (ds.take (i + 1))) := by
  have e : ds.take (i + 1) = ds.take i ++ [ds[i]'h] := by rw [List.take_add_one, List.getElem?_eq_getElem h]; rfl
  rw [row_times]
  congr 1
  unfold foldP
  rw [e, List.foldl_append]
  rfl
set_option maxRecDepth 100000 in
set_option maxHeartbeats 3200000 in
theorem rdecimal_any (G : Nat) (lv : Value) (ds : List Nat) (r : Nat) (w : World) (hlv : DigRel G w lv ds) (hr : r ≤ 16) (hr0 : 0 < r) (hd : ∀ x ∈ ds, x ≤ 15) (hl : ds.length ≤ 1000) :
    Calls Tryd.prog 30 #[lv, .int .i64 r] w (StrPost (showP (foldP r ds)) w) := by
  obtain ⟨a, cp, rfl⟩ := own_slice hlv.own
  have HV := hid hlv
  have HD := hid hd
  clear hlv hd
  obtain ⟨i0, hi, hz0, hz1, hz2⟩ : ∃ i0, Tryd.prog.info? 3 = some i0 ∧ i0.zero = some (.int .i64 0) ∧ i0.size = 1 ∧ i0.bytes = 8 := ⟨_, rfl, rfl, rfl, rfl⟩
  have I0 := hid hi
  have I1 := hid hz0
  have I2 := hid hz1
  have I3 := hid hz2
  clear hi hz0 hz1 hz2
  obtain ⟨j0, hi, hz0, hz1, hz2⟩ : ∃ i0, Tryd.prog.info? 5 = some i0 ∧ i0.zero = some (.int .u8 0) ∧ i0.size = 1 ∧ i0.bytes = 1 := ⟨_, rfl, rfl, rfl, rfl⟩
  have J0 := hid hi
  have J1 := hid hz0
  have J2 := hid hz1
  have J3 := hid hz2
  clear hi hz0 hz1 hz2
  have own0 : (w.alloc (.cells #[.int .i64 0] 3)).ownsRow w.heap.size 3 1 (.slice (some ⟨w.heap.size, 0, none⟩) 1 1) 1 [.int .i64 0] := World.ownsRow_lit w #[.int .i64 0] 1 (Nat.le_refl _) (by decide) rfl
  have R0 : Hid (DigRel w.heap.size (w.alloc (.cells #[.int .i64 0] 3)) (.slice (some ⟨w.heap.size, 0, none⟩) 1 1) (rowP (foldP r (ds.take 0)))) := hid ⟨own0⟩
  have X0 : Hid (Ext none' w (w.alloc (.cells #[.int .i64 0] 3))) := hid ((Ext.refl _ _).alloc _)
  have HFD := hid fun i => (fold_last hr0 (ds.take i) [] (by simp) (by simp))
  have HFL := hid fun i => (fold_len hr (ds.take i) [] (fun d hd => HD.out d (List.mem_of_mem_take hd)) (by simp))
  clear own0
  go_enter Tryd.func30, Tryd.ntmps30
  go_wp2_with fail
  obtain ⟨B, hB⟩ : ∃ B, B = w.heap.size := ⟨_, rfl⟩
  have HBE := hid hB
  rw [← hB] at R0 ⊢
  clear hB
  go_loopw [5, 6] (fun vo z wr => ∃ i : Nat, z = .int .i64 i ∧ i ≤ ds.length ∧ Hid (DigRel B wr vo (rowP (foldP r (ds.take i)))) ∧ Hid (Ext none' w wr)) (fun _ z _ => ds.length - (RowKit.intOf z).toNat)
  case atStart => exact ⟨0, rfl, by omega, R0, X0⟩
  case round =>
    obtain ⟨i, rfl, hle, HR, HX⟩ := hrel
    by_cases hil : i < ds.length
    · obtain ⟨x, hx⟩ : ∃ x, ds[i]'hil = x := ⟨_, rfl⟩
      have hx15 : x ≤ 15 := by rw [← hx]; exact HD.out _ (List.getElem_mem hil)
      have HSN := hid (hx ▸ foldP_snoc (r := r) hil)
      have RW := ownsRow_ext HV.out.own HX.out (fun _ _ h => h)
      cases a with
      | none =>
        rcases RW.2 with ⟨_, h⟩ | ⟨g, cap, cur, h, _⟩
        · omega
        · injection h with h _ _; cases h
      | some ad =>
      obtain ⟨b, off, spot⟩ := ad
      obtain ⟨rfl, rfl⟩ : off = 0 ∧ spot = none := by
        rcases RW.2 with ⟨h, _⟩ | ⟨g, cap, cur, h, _⟩
        · injection h with h _ _; cases h
        · injection h with h _ _; injection h with h; injection h with h1 h2 h3; exact ⟨h2, h3⟩
      have cj := RW.cellAt i (by omega)
      rw [intVals_at hil, hx] at cj
      clear hx RW
      have HLD := hid (show ∀ x ∈ rowP (foldP r (ds.take i)), x ≤ 9 from row_dig (HFD.out i).2)
      have HLL := hid (show (rowP (foldP r (ds.take i))).length ≤ 2001 by
        have h1 := (row_len (foldP r (ds.take i))).2
        have h2 := HFL.out i
        unfold foldP at h1 ⊢
        rw [List.length_nil, List.length_take] at h2
        omega)
      obtain ⟨l, hll⟩ : ∃ l, rowP (foldP r (ds.take i)) = l := ⟨_, rfl⟩
      rw [hll] at HSN HLD HLL HR
      clear hll
      obtain ⟨a2, c2, hu5⟩ := own_slice HR.out.own
      subst hu5
      obtain ⟨wa, hwa⟩ : ∃ wa, wa = wr := ⟨_, rfl⟩
      subst hwa
      go_wp2_with fail
      clear cj
      go_loopw [7, 8] (fun m z wr => ∃ (k c : Nat), z = .int .i64 k ∧ m = .int .i64 c ∧ k ≤ l.length ∧ c ≤ 15 ∧ Hid (c = (mulL r (l.take k) x).2) ∧ Hid (wr.ownsRow B 3 1 (.slice a2 l.length c2) l.length (intVals ((mulL r (l.take k) x).1 ++ l.drop k))) ∧
        Hid (Ext none' w wr)) (fun _ z _ => l.length - (RowKit.intOf z).toNat)
      case atStart => exact ⟨0, x, rfl, rfl, by omega, hx15, hid rfl, hid (by simpa [mulL] using HR.out.own), HX⟩
      case round =>
        obtain ⟨k, c, rfl, rfl, hkl, hc15, HK, HO, HXX⟩ := hrel
        by_cases hkl2 : k < l.length
        · obtain ⟨y, hy⟩ : ∃ y, l[k]'hkl2 = y := ⟨_, rfl⟩
          have hy9 : y ≤ 9 := by rw [← hy]; exact HLD.out _ (List.getElem_mem hkl2)
          have etk : l.take (k + 1) = l.take k ++ [y] := by rw [List.take_add_one, List.getElem?_eq_getElem hkl2, hy]; rfl
          have hsn := mulL_snoc r (l.take k) y x
          rw [← etk, ← HK.out] at hsn
          obtain ⟨A, hA⟩ : ∃ A, (mulL r (l.take k) x).1 = A := ⟨_, rfl⟩
          rw [hA] at hsn HO
          have hAl : A.length = k := by rw [← hA, mulL_len, List.length_take]; omega
          have hdr : l.drop k = y :: l.drop (k + 1) := by rw [List.drop_eq_getElem_cons hkl2, hy]
          rw [hdr] at HO
          have hyf : y * r ≤ 9 * 16 := Nat.mul_le_mul hy9 hr
          obtain ⟨z, hz⟩ : ∃ z, y * r + c = z := ⟨_, rfl⟩
          have HZI : Hid ((y : Int) * r + c = (z : Nat)) := hid (by rw [← hz]; push_cast; rfl)
          have hyi : (y : Int) * r = ((y * r : Nat) : Int) := by push_cast; rfl
          have hm0 : (0 : Int) ≤ (y : Int) * r := by rw [hyi]; omega
          have hm1 : (y : Int) * r ≤ 144 := by rw [hyi]; omega
          clear hyi
          rw [hz] at hsn
          have hz1 : z ≤ 159 := by omega
          cases a2 with
          | none =>
            rcases HO.out.2 with ⟨_, h⟩ | ⟨g, cap, cur, h, _⟩
            · omega
            · injection h with h _ _; cases h
          | some ad =>
          obtain ⟨b2, off, spot⟩ := ad
          obtain ⟨rfl, rfl⟩ : off = 0 ∧ spot = none := by
            rcases HO.out.2 with ⟨h, _⟩ | ⟨g, cap, cur, h, _⟩
            · injection h with h _ _; cases h
            · injection h with h _ _; injection h with h; injection h with h1 h2 h3; exact ⟨h2, h3⟩
          have hb2 := (HO.out.lt b2 rfl).1
          have ci := HO.out.cellAt k (by omega)
          rw [intVals_app, List.getElem?_append_right (by rw [intVals_len]; omega), intVals_len, hAl, Nat.sub_self] at ci
          simp only [intVals, List.map_cons, List.getElem?_cons_zero] at ci
          have fi := HO.out.frozenAt k
          have N := hid (HO.out.stored k (.int .i64 ((z % 10 : Nat) : Int))).1
          have hset : (intVals (A ++ y :: l.drop (k + 1))).set k (.int .i64 ((z % 10 : Nat) : Int)) = intVals ((mulL r (l.take (k + 1)) x).1 ++ l.drop (k + 1)) := by
            rw [hsn, intVals_app]
            rw [List.set_append_right _ _ (by rw [intVals_len]; omega), intVals_len, hAl, Nat.sub_self]
            simp [intVals]
          rw [hset] at N
          have NK : Hid (z / 10 = (mulL r (l.take (k + 1)) x).2) := hid (by rw [hsn])
          have NX := hid (HXX.out.setNew (by rw [← HBE.out]; exact hb2) k (.int .i64 ((z % 10 : Nat) : Int)))
          have hl2001 := HLL.out
          clear hset HO HXX hsn hdr etk hA hAl hy hz hyf hz1 hb2 HX HR
          go_wp2_with fail
          have e1 : (z : Int) % 10 = ((z % 10 : Nat) : Int) := by omega
          have e2 : (z : Int) / 10 = ((z / 10 : Nat) : Int) := by omega
          rw [HZI.out, e1, e2]
          clear e1 e2
          have hz15 : z / 10 ≤ 15 := by have := HZI.out; omega
          go_roundw
          case rel => exact ⟨k + 1, z / 10, by go_num, rfl, by omega, hz15, NK, N, NX⟩
          case measure => simp [RowKit.intOf]; omega
        · obtain rfl : k = l.length := by omega
          have hm := HK.out
          rw [List.take_length] at hm
          have O1 := HO.out
          rw [List.take_length, List.drop_length, List.append_nil] at O1
          have HF : Hid ((mulL r l x).1 ++ carL c c = timesP l r x) := hid (by rw [hm]; rfl)
          have R1 : Hid (DigRel B wr (.slice a2 l.length c2) (mulL r l x).1) := hid ⟨by rw [mulL_len]; exact O1⟩
          have HX1 := HXX
          have HT := hid (timesP_len hr hx15 HLD.out)
          clear hm O1 HK HO HXX HX HR
          go_wp2_with fail
          go_loopw [5, 7] (fun vo m wq => ∃ (done : List Nat) (q j : Nat), m = .int .i64 q ∧ q ≤ j ∧ q ≤ 15 ∧ Hid (done ++ carL j q = timesP l r x) ∧ Hid (DigRel B wq vo done) ∧ Hid (Ext none' w wq)) (fun _ m _ => (RowKit.intOf m).toNat)
          case atStart => exact ⟨_, c, c, rfl, Nat.le_refl _, hc15, HF, R1, HX1⟩
          case round =>
            obtain ⟨done, q, j, rfl, hqj, hq15, HE, HR, HXX⟩ := hrel
            by_cases hq : 0 < q
            · obtain ⟨j', rfl, hcs, hj'⟩ := carL_step hq hqj
              have HE2 : Hid ((done ++ [q % 10]) ++ carL j' (q / 10) = timesP l r x) := hid (by have := HE.out; rw [hcs] at this; rw [← this]; simp)
              have hdl : done.length ≤ 100002 := by
                have h1 := congrArg List.length HE.out
                rw [List.length_append] at h1
                have := HT.out
                have := HLL.out
                omega
              have e1 : (q : Int) % 10 = ((q % 10 : Nat) : Int) := by omega
              have O2 := hid (ownsRow_ext HR.out.own ((Ext.refl none' wr).alloc (.cells #[.int .i64 ((q : Int) % 10)] 3)) (fun _ _ h => h))
              have S2 := hid (Src.one (P := Tryd.prog) (tx := 41) Tryd.underlying41 wr (.int .i64 ((q : Int) % 10)) 3 rfl)
              have HE1 := hid e1
              have HSZ := hid HXX.out.size
              clear e1 hcs HE
              go_wp2_with (at_builtin; refine wpList_app _ rfl (.tmp 46) (.tmp 49) 41 41 rfl B 3 i0 _ 1 8 Tryd.underlying41 I0.out I1.out I2.out I3.out rfl _ done.length (intVals done) rfl O2.out _ 1 _ rfl S2.out ?_ ?_ ?_ ?_)
              · unfold maxLen; omega
              · omega
              · have := HSZ.out; rw [HBE.out]; simp; omega
              intro v3 w3 own3 grow3 blk3 _
              rw [HE1.out] at own3
              have N : Hid (DigRel B w3 v3 (done ++ [q % 10])) := hid ⟨by rw [intVals_app, List.length_append]; exact own3⟩
              have NX : Hid (Ext none' w w3) := hid ((HXX.out.alloc _).grown grow3 (fun g hg => .inr (by rw [← HBE.out]; exact (O2.out.lt g hg).1)))
              clear own3 grow3 blk3
              go_wp2_with fail
              have e2 : (q : Int) / 10 = ((q / 10 : Nat) : Int) := by omega
              rw [e2]
              clear e2
              go_roundw
              case rel => exact ⟨_, q / 10, j', rfl, hj', by omega, HE2, N, NX⟩
              case measure => simp [RowKit.intOf]; omega
            · obtain rfl : q = 0 := by omega
              have HE3 : Hid (done = rowP (foldP r (ds.take (i + 1)))) := hid (by have := HE.out; rw [carL_zero, List.append_nil] at this; rw [this]; exact HSN.out)
              have HR2 : Hid (DigRel B wr u5 (rowP (foldP r (ds.take (i + 1))))) := hid (by rw [← HE3.out]; exact HR.out)
              go_wp2_with fail
              go_roundw
              case rel => exact ⟨i + 1, by go_num, by omega, HR2, HXX⟩
              case measure => simp [RowKit.intOf]; omega
    · obtain rfl : i = ds.length := by omega
      have HF1 := HFD.out ds.length
      have HF2 := HFL.out ds.length
      rw [List.take_length] at HF1 HF2 HR
      have HL1 := hid HF1.1
      have HL9 := hid (row_dig HF1.2)
      have hrl : (foldP r ds).length ≤ 2000 := by unfold foldP; rw [List.length_nil] at HF2; omega
      clear HF1 HF2
      obtain ⟨v, hv⟩ : ∃ v, foldP r ds = v := ⟨_, rfl⟩
      have HV2 := hid hv
      change Hid ((foldP r ds).getLast? ≠ some 0) at HL1
      change Hid (∀ x ∈ rowP (foldP r ds), x ≤ 9) at HL9
      rw [hv] at HL1 HL9 HR hrl
      have hrw := row_len v
      have hlast : ∀ y, 1 < (rowP v).length → (rowP v)[(rowP v).length - 1]? = some y → y ≠ 0 := fun y h e => by
        rw [List.getElem?_eq_getElem (by omega)] at e
        injection e with e
        rw [← e]
        exact row_last HL1.out h
      have HSH := hid (row_show v)
      obtain ⟨l, hll⟩ : ∃ l, rowP v = l := ⟨_, rfl⟩
      rw [hll] at HL9 HR hrw HSH hlast
      obtain ⟨hrw1, hrw2⟩ := hrw
      clear hv hll hil
      have hl2 : l.length ≤ 2001 := by omega
      obtain ⟨a2, c2, hu5⟩ := own_slice HR.out.own
      subst hu5
      have RW := HR.out.own
      cases a2 with
      | none =>
        rcases RW.2 with ⟨_, h⟩ | ⟨g, cap, cur, h, _⟩
        · omega
        · injection h with h _ _; cases h
      | some ad =>
      obtain ⟨b2, off, spot⟩ := ad
      obtain ⟨rfl, rfl⟩ : off = 0 ∧ spot = none := by
        rcases RW.2 with ⟨h, _⟩ | ⟨g, cap, cur, h, _⟩
        · injection h with h _ _; cases h
        · injection h with h _ _; injection h with h; injection h with h1 h2 h3; exact ⟨h2, h3⟩
      obtain ⟨wa, hwa⟩ : ∃ wa, wa = wr := ⟨_, rfl⟩
      subst hwa
      go_wp2_with fail
      go_loopw [5] (fun vo wr => vo = .slice (some ⟨b2, 0, none⟩) l.length c2 ∧ wr = wa) (fun _ _ => 0)
      case atStart => exact ⟨rfl, rfl⟩
      case round =>
        obtain ⟨rfl, rfl⟩ := hrel
        have hbb : (decide (1 < (l.length : Int)) = false) ∨ (decide (1 < (l.length : Int)) = true ∧ ∃ y : Nat, wr.cell? ⟨b2, l.length - 1, none⟩ = some (.int .i64 (y : Nat)) ∧ ((y : Int) == 0) = false) := by
          by_cases h : 1 < l.length
          · right
            refine ⟨by simp; omega, l[l.length - 1]'(by omega), ?_, ?_⟩
            · have := RW.cellAt (l.length - 1) (by omega)
              rw [intVals_at (by omega)] at this
              exact this
            · have := hlast _ h (List.getElem?_eq_getElem (by omega))
              simp; omega
          · left; simp; omega
        have HRR := hid HR.out
        have HO0 : Hid (OutRel wr wr (.slice none 0 0) (revB (l.drop l.length))) := hid ⟨by rw [List.drop_length]; exact World.ownsRow_nil _ _ _ _, Ext.refl _ _⟩
        clear RW HR hlast
        obtain ⟨wb, hwb⟩ : ∃ wb, wb = wr := ⟨_, rfl⟩
        subst hwb
        rcases hbb with q1 | ⟨q1, y, hy, q2⟩
        all_goals
          go_wp2_with fail
          go_loopw [10, 11] (fun vo z wr => ∃ k : Nat, z = .int .i64 ((k : Int) - 1) ∧ k ≤ l.length ∧ Hid (OutRel wb wr vo (revB (l.drop k)))) (fun _ z _ => (RowKit.intOf z + 1).toNat)
          case atStart => exact ⟨l.length, rfl, Nat.le_refl _, HO0⟩
          case round =>
            obtain ⟨k, rfl, hk, HOR⟩ := hrel
            clear q1
            cases k with
            | zero =>
              rw [show (((0 : Nat) : Int) - 1) = -1 by omega]
              rw [List.drop_zero] at HOR
              obtain ⟨a3, c3, hu12⟩ := own_slice HOR.out.own
              subst hu12
              have HOR2 := HOR
              rw [revB_len] at *
              have hcv := conv_bytes (Bytes.of_owns HOR2.out.own) 23 5 Tryd.underlying23 Tryd.underlying5 9 Tryd.underlying9
              go_wp2_with fail
              go_ret
              rw [HV2.out, HSH.out]
              exact ⟨rfl, HX.out.trans HOR2.out.hx⟩
            | succ j =>
              have hjl : j < l.length := by omega
              rw [show (((j + 1 : Nat) : Int) - 1) = (j : Nat) by omega]
              have HRV := hid (revB_drop hjl)
              have RW := (HRR.out.later HOR.out.hx (fun _ _ h => h)).own
              obtain ⟨x, hx⟩ : ∃ x, l[j]'hjl = x := ⟨_, rfl⟩
              have hx9 : x ≤ 9 := by rw [← hx]; exact HL9.out _ (List.getElem_mem hjl)
              rw [hx] at HRV
              have cj := RW.cellAt j (by omega)
              rw [intVals_at hjl, hx] at cj
              have hbl : (revB (l.drop (j + 1))).length ≤ 2001 := by rw [revB_len, List.length_drop]; omega
              obtain ⟨bs, hbs⟩ : ∃ bs, bs = revB (l.drop (j + 1)) := ⟨_, rfl⟩
              rw [← hbs] at HOR HRV hbl
              obtain ⟨y, hy⟩ : ∃ y, y = UInt8.ofNat (48 + x) := ⟨_, rfl⟩
              have hu8 : 48 + (x : Int) = (y.toNat : Nat) := by rw [hy, UInt8.toNat_ofNat']; omega
              rw [← hy] at HRV
              have HU8 := hid hu8
              have O2 : Hid (OutRel wb (wr.alloc (.cells #[.int .u8 (48 + (x : Int))] 5)) u10 bs) := hid (HOR.out.later ((Ext.refl none' wr).alloc _))
              have S2 : Hid (Src Tryd.prog 1 23 (.slice (some ⟨wr.heap.size, 0, none⟩) 1 1) 1 (byteVals [y]) (wr.alloc (.cells #[.int .u8 (48 + (x : Int))] 5))) := hid (by
                rw [hu8]; exact Src.lits (bs := [y]) Tryd.underlying23 (heap_alloc_at rfl _))
              have HSZ := hid HOR.out.hx.size
              have HNX : Hid (revB (l.drop j) = bs ++ [y]) := hid HRV.out
              clear hbs hx RW HRV hu8 hy
              go_wp2_with (at_builtin; refine wpList_app _ rfl (.tmp 77) (.tmp 84) 23 23 rfl wb.heap.size 5 j0 _ 1 1 Tryd.underlying23 J0.out J1.out J2.out J3.out rfl _ bs.length (byteVals bs) rfl O2.out.own _ 1 _ rfl S2.out ?_ ?_ ?_ ?_)
              · unfold maxLen; omega
              · omega
              · have := HSZ.out; simp; omega
              intro v3 w3 own3 grow3 blk3 _
              have N := hid (O2.out.app (cs := [y]) own3 grow3)
              rw [← HNX.out] at N
              clear own3 grow3 blk3
              go_wp2_with fail
              go_roundw
              case rel => exact ⟨j, rfl, by omega, N⟩
              case measure => simp [RowKit.intOf]
end Go.Proofs.YtielcpnalepkfaaDoor
