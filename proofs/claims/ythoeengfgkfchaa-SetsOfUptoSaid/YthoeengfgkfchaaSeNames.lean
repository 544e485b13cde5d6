import Derived.Test.YthoeengfgkfchaaSeAwake
import Derived.Test.YthoeengfgkfchaaSeNamesP
namespace Go.Proofs.Ythoeengfgkfchaa
open Go.RowKit Go.Lib Go.BigFrame
def strVals (l : List (List UInt8)) : List Value := l.map fun s => .string ⟨s.toArray⟩
theorem str_src {P : Program} {tx e' : TypeId} (hk : P.underlying tx = some (.slice e')) {A : Nat → Prop} {w : World} {a : Option Addr} {cap : Nat} {l : List (List UInt8)} (h : IsStrs A w (.slice a l.length cap) l) : Src P 1 tx (.slice a l.length cap) l.length (strVals l) w := by
  by_cases hl : l = []
  · subst hl
    cases a with
    | none => exact Src.ofNil w hk cap
    | some a => exact Src.ofSlice w hk a 0 cap [] (by simp) (fun j u hj => by simp at hj) (fun u hu => by cases hu)
  · obtain ⟨b, off, rfl, _⟩ := h.cell 0 (List.length_pos_iff.2 hl)
    refine Src.ofSlice w hk _ _ cap _ (by simp [strVals]) (fun j u hj => ?_) (fun u hu => ?_)
    · have hjl : j < l.length := by have := (List.getElem?_eq_some_iff.1 hj).1; simpa [strVals] using this
      obtain ⟨b', off', e, hc⟩ := h.cell j hjl
      injection e with e
      injection e with e1 e2
      subst e1 e2
      have ea : (⟨b, off, none⟩ : Addr).add j = ⟨b, off + j, none⟩ := by unfold Addr.add; split <;> simp_all
      rw [ea, hc]
      simpa [strVals, hjl] using hj
    · obtain ⟨t, _, rfl⟩ := List.mem_map.1 hu
      rfl
theorem str_row {A : Nat → Prop} {w : World} {base : Nat} {v : Value} {l : List (List UInt8)} (h : w.ownsRow base 9 1 v l.length (strVals l)) : RowOf 1 9 IsStr A w base v l :=
  ⟨_, h, fun i hi => by
    show ((strVals l).drop (i * 1)).take 1 = [.string ⟨(l[i]).toArray⟩]
    unfold strVals
    rw [Nat.mul_one, ← List.map_drop, List.drop_eq_getElem_cons hi]
    rfl⟩
theorem infoStr : (Try.prog.info? 9).map (fun i => (i.zero, i.size, i.bytes)) = some (some (.string ⟨#[]⟩), 1, 16) := by kernel_rfl
def allN (i : Nat) : List UInt8 := if i = 0 then nInt else if i = 1 then nStr else nBool
/-- The laws' blocks. -/
structure Nf (B S Q : Nat) (s : Cn) (tv nv sv x1 x2 x3 : Value) (W : World) : Prop where
  b : W.heap[B]? = some (.cells #[.bool s.all, .bool s.cmp, tv, x1, x2, x3, nv] 32 (0, 0))
  s : W.heap[S]? = some (.cells #[.bool s.all, .bool s.cmp, sv] 45 (0, 0))
  q : W.heap[Q]? = some (.cells #[.string ⟨nInt.toArray⟩, .string ⟨nStr.toArray⟩, .string ⟨nBool.toArray⟩] 55 (0, 0))
set_option maxRecDepth 100000 in
theorem law_names_long (s : Cn) (names : List (List UInt8)) (k : Int) (n : List UInt8) (a0 a1 a2 : Option Addr) (n1 c0 c1 c2 : Nat) (more : List UInt8) (w : World) (h : 20 < s.terms.length ∨ 20 < names.length) :
    Calls Try.prog 5 #[.agg #[.bool s.all, .bool s.cmp, .slice a0 s.terms.length c0, .int .i64 k, .string ⟨n.toArray⟩, .slice a1 n1 c1, .slice a2 names.length c2], .string ⟨more.toArray⟩] w (TruePost w) := by
  obtain ⟨sa, sc, st⟩ := s
  simp only at h ⊢
  have hh : (20 < st.length) ∨ (¬ 20 < st.length ∧ 20 < names.length) := by omega
  rcases hh with h1 | ⟨h1, h2⟩
  · have q1 : decide (20 < (st.length : Int)) = true := decide_eq_true (by omega)
    go_enter Try.func5, Try.ntmps5
    go_wp2_with fail
    go_ret
    exact ⟨rfl, (Ext.refl _ _).alloc _⟩
  · have q1 : decide (20 < (st.length : Int)) = false := decide_eq_false (by omega)
    have q2 : decide (20 < (names.length : Int)) = true := decide_eq_true (by omega)
    go_enter Try.func5, Try.ntmps5
    go_wp2_with fail
    go_ret
    exact ⟨rfl, (Ext.refl _ _).alloc _⟩
set_option maxRecDepth 100000 in
set_option maxHeartbeats 3200000 in
theorem law_names (s : Cn) (names : List (List UInt8)) (k : Int) (n : List UInt8) (a0 a1 a2 : Option Addr) (n1 c0 c1 c2 : Nat) (more : List UInt8) (w : World) (hs : s.terms.length ≤ 20) (hn : names.length ≤ 20)
    (h0 : IsSl 2 IsTm none' w (.slice a0 s.terms.length c0) s.terms) (h2 : IsStrs none' w (.slice a2 names.length c2) names) :
    Calls Try.prog 5 #[.agg #[.bool s.all, .bool s.cmp, .slice a0 s.terms.length c0, .int .i64 k, .string ⟨n.toArray⟩, .slice a1 n1 c1, .slice a2 names.length c2], .string ⟨more.toArray⟩] w (TruePost w) := by
  have AW := hid fun W => awake_any W
  have CO := hid fun (W : World) (X : Ext none' w W) => lof_any s (by omega) none' (.agg #[.bool s.all, .bool s.cmp, .slice a0 s.terms.length c0]) W ⟨_, rfl, h0.ext isTm_good X fun _ _ h => h.elim⟩ (fun _ h => h.elim)
  have H2 := hid h2
  have HE := hid fun (h : eachP s names = true) => each_more more h
  have HL := hid fun (h : eachP s names = true) => fun n a b => lets_names (n := n) h a b
  have HPOS := hid fun (h : eachP s names = true) => each_pos h
  obtain ⟨B, hB⟩ : ∃ B, B = w.heap.size := ⟨_, rfl⟩
  have HB := hid hB
  have q1 : decide (20 < (s.terms.length : Int)) = false := decide_eq_false (by omega)
  have q2 : decide (20 < (names.length : Int)) = false := decide_eq_false (by omega)
  clear h0 hB
  go_enter Try.func5, Try.ntmps5
  go_wp2_with fail
  refine (CO.out _ ((Ext.refl _ _).alloc _)).mono ?_
  rintro e W1 ⟨u, rfl, ⟨y, rfl, hy⟩, X1⟩
  rw [← HB.out]
  have gB := X1.heap (heap_alloc_at (w := w) HB.out (.cells #[.bool s.all, .bool s.cmp, .slice a0 s.terms.length c0, .int .i64 k, .string ⟨n.toArray⟩, .slice a1 n1 c1, .slice a2 names.length c2] 32)) (fun h => h)
  have HY := hid hy
  obtain ⟨a3, c3, rfl, _⟩ := hy
  have X1 := hid (((Ext.refl none' w).alloc _).trans X1)
  have cB := cell_at (heap_alloc_keep gB (.cells #[.bool s.all, .bool s.cmp, .slice a3 s.terms.length c3] 45)) 6
  simp only [List.getElem?_toArray, List.getElem?_cons_zero, List.getElem?_cons_succ] at cB
  have GB := hid gB
  have CE := hid fun (l : List (List UInt8)) (hl : l.length ≤ 21) (nv : Value) (W : World) (X : Ext none' W1 W) (hv : IsStrs none' W nv l) => Each_any s l (by omega) (by omega) none' (.agg #[.bool s.all, .bool s.cmp, .slice a3 s.terms.length c3]) nv W ⟨_, rfl, HY.out.ext isTm_good X fun _ _ h => h.elim⟩ hv
  have CL := hid fun (n : List UInt8) (W : World) (X : Ext none' W1 W) => Lets_any [] ⟨(fun d hd => by cases hd), by simp, (fun d hd => by cases hd)⟩ [] (by simp) (fun b hb => by cases hb) s (by omega) (.mk 1 n []) (by simp [Ty.size, Ty.sizeL, bigD]) none' (.slice none 0 0) (.slice none 0 0) (.agg #[.bool s.all, .bool s.cmp, .slice a3 s.terms.length c3]) (.agg #[.int .i64 1, .string ⟨n.toArray⟩, .slice none 0 0]) W (IsSl.nil _ _ _ _) (IsSl.nil _ _ _ _) ⟨_, rfl, HY.out.ext isTm_good X fun _ _ h => h.elim⟩ ⟨_, rfl, IsSl.nil _ _ _ _⟩ (fun b hb => hb.elim)
  clear gB CO
  go_wp2_with fail
  refine (CE.out names (by omega) _ _ ((Ext.refl _ _).alloc _) (H2.out.ext isStr_good (X1.out.alloc _) fun _ _ h => h.elim)).mono ?_
  rintro e W2 ⟨rfl, X2⟩
  have gS := X2.heap (heap_alloc_at (w := W1) (k := W1.heap.size) rfl (.cells #[.bool s.all, .bool s.cmp, .slice a3 s.terms.length c3] 45)) (fun h => h)
  have X12 := hid (((Ext.refl none' W1).alloc _).trans X2)
  obtain ⟨ev, hev⟩ : ∃ ev, eachP s names = ev := ⟨_, rfl⟩
  rw [hev] at HE HL HPOS ⊢
  clear hev X2
  cases ev with
  | false =>
    go_wp2_with fail
    refine (AW.out _).mono ?_
    rintro e W3 ⟨rfl, X3⟩
    have X3 := hid ((X1.out.trans X12.out).trans X3)
    go_wp2_with fail
    go_ret
    exact ⟨rfl, X3.out⟩
  | true =>
    have HE1 := hid (HE.out rfl)
    have HL1 := hid (HL.out rfl)
    have HPOS1 := hid (HPOS.out rfl)
    clear HE HL HPOS
    obtain ⟨S, hS⟩ : ∃ S, S = W1.heap.size := ⟨_, rfl⟩
    rw [← hS] at gS ⊢
    have GS := hid gS
    have hBS := hid (show B < W1.heap.size from heap_lt GB.out)
    clear hS gS cB
    go_upto_region 7 with (fail)
    obtain ⟨Q, hQ⟩ : ∃ Q, Q = W2.heap.size := ⟨_, rfl⟩
    obtain ⟨W3, hW3⟩ : ∃ W3, W3 = W2.alloc (.cells #[.string ⟨#[105, 110, 116]⟩, .string ⟨#[115, 116, 114, 105, 110, 103]⟩, .string ⟨#[98, 111, 111, 108]⟩] 55) := ⟨_, rfl⟩
    rw [← hW3, ← hQ]
    have X23 : Ext none' W2 W3 := by rw [hW3]; exact (Ext.refl _ _).alloc _
    have X13 := hid (X12.out.trans X23)
    have X03 := hid (X1.out.trans X13.out)
    have NF : Hid (Nf B S Q s (.slice a0 s.terms.length c0) (.slice a2 names.length c2) (.slice a3 s.terms.length c3) (.int .i64 k) (.string ⟨n.toArray⟩) (.slice a1 n1 c1) W3) := hid ⟨X13.out.heap GB.out (fun h => h), X23.heap GS.out (fun h => h), by rw [hW3]; exact heap_alloc_at hQ _⟩
    have HN3 := hid (H2.out.ext isStr_good X03.out fun _ _ h => h.elim)
    have hqi : Hid (∀ W, Ext none' W3 W → ∀ i, i < 3 → W.cell? ⟨Q, i, none⟩ = some (.string ⟨(allN i).toArray⟩)) := hid fun W X i hi => by
      rw [cell_at (X.heap NF.out.q (fun h => h))]
      have : i = 0 ∨ i = 1 ∨ i = 2 := by omega
      rcases this with rfl | rfl | rfl <;> rfl
    have hb6 : Hid (∀ W, Ext none' W3 W → W.cell? ⟨B, 6, none⟩ = some (.slice a2 names.length c2)) := hid fun W X => by rw [cell_at (X.heap NF.out.b (fun h => h))]; rfl
    have hs0 : Hid (∀ W, Ext none' W3 W → W.cell? ⟨S, 0, none⟩ = some (.bool s.all) ∧ W.cell? ⟨S, 1, none⟩ = some (.bool s.cmp) ∧ W.cell? ⟨S, 2, none⟩ = some (.slice a3 s.terms.length c3)) := hid fun W X => by
      refine ⟨?_, ?_, ?_⟩ <;> rw [cell_at (X.heap NF.out.s (fun h => h))] <;> rfl
    clear hQ hW3 X23 GS
    go_wp2_with fail
    go_loopw [7] (fun z wr => ∃ (i : Nat), z = .int .i64 (i : Nat) ∧ i ≤ 3 ∧ Hid (Ext none' W3 wr)) (fun z _ => 3 - (RowKit.intOf z).toNat)
    case atStart => exact ⟨0, rfl, by omega, hid (Ext.refl _ _)⟩
    case round =>
      obtain ⟨i, rfl, hle, R⟩ := hrel
      by_cases hi : i < 3
      · obtain ⟨wq, hwq⟩ : ∃ wq, wq = wr := ⟨_, rfl⟩
        subst hwq
        go_wp2_with fail
        go_loopw [8, 9] (fun b z wx => ∃ (j : Nat), z = .int .i64 (j : Nat) ∧ j ≤ names.length ∧ b = .bool ((names.take j).any (· == allN i)) ∧ Hid (Ext none' W3 wx)) (fun _ z _ => names.length - (RowKit.intOf z).toNat)
        case atStart => exact ⟨0, rfl, by omega, by simp, R⟩
        case round =>
          obtain ⟨j, rfl, hjl, rfl, RX⟩ := hrel
          have b6 := hb6.out _ RX.out
          by_cases hj : j < names.length
          · obtain ⟨b', off', rfl, hcj⟩ := IsStrs.cell (HN3.out.ext isStr_good RX.out fun _ _ h => h.elim) j hj
            have b6' := fun t : LaterF none' wr => hb6.out _ (RX.out.trans t.x)
            have cq := fun t : LaterF none' wr => hqi.out _ (RX.out.trans t.x) i hi
            have cj : ∀ t : LaterF none' wr, t.w.cell? ⟨b', off' + j, none⟩ = some (.string ⟨(names[j]).toArray⟩) := fun t => by
              obtain ⟨b2, off2, e2, hc2⟩ := IsStrs.cell ((HN3.out.ext isStr_good RX.out fun _ _ h => h.elim).ext isStr_good t.x fun _ _ h => h.elim) j hj
              injection e2 with e2
              injection e2 with e3 e4
              subst e3 e4
              exact hc2
            have htk : (names.take (j + 1)).any (· == allN i) = ((names.take j).any (· == allN i) || (names[j] == allN i)) := by
              rw [List.take_add_one, List.getElem?_eq_getElem hj, List.any_append]; simp
            obtain ⟨bb, hbb⟩ : ∃ bb, (names.take j).any (· == allN i) = bb := ⟨_, rfl⟩
            obtain ⟨nj, hnj⟩ : ∃ nj, names[j] = nj := ⟨_, rfl⟩
            obtain ⟨ai, hai⟩ : ∃ ai, allN i = ai := ⟨_, rfl⟩
            rw [hbb] at htk ⊢
            rw [hnj, hai] at htk
            simp only [hnj] at cj
            simp only [hai] at cq
            have HTK := hid htk
            have HAI := hid hai
            clear htk hbb hnj hai hcj
            cases bb with
            | true =>
              have e9 : Hid ((names.take (j + 1)).any (· == allN i) = true) := hid (by rw [HAI.out, HTK.out]; rfl)
              go_upto_region 14 with (fail)
              refine region_tree none' wr [0, 1, 2, 3, 4, 5, 6, 7, 8, 9, 10, 11, 12] .fin (by kernel_rfl) (by kernel_rfl) (fun dst v c a w h => by cases dst <;> exact h) (Ext.refl _ _) ?_
              simp only [sel, List.getElem?_cons_succ, List.getElem?_cons_zero]
              repeat (go_big_quiet_step (fail))
              refine wpQuiet_nil ?_
              simp only [wpTree]
              clear cj cq b6' b6
              have RD := hid RX.out.drew
              go_wp2_with fail
              go_roundw
              case rel => exact ⟨j + 1, by go_num, by omega, by rw [e9.out], RD⟩
              case measure => simp [RowKit.intOf]; omega
            | false =>
              obtain ⟨qq, hqq⟩ : ∃ qq, (nj == ai) = qq := ⟨_, rfl⟩
              have e9 : Hid ((names.take (j + 1)).any (· == allN i) = qq) := hid (by rw [HAI.out, HTK.out, hqq]; rfl)
              cases qq
              all_goals
                go_upto_region 14 with (fail)
                refine region_tree none' wr [0, 1, 2, 3, 4, 5, 6, 7, 8, 9, 10, 11, 12] .fin (by kernel_rfl) (by kernel_rfl) (fun dst v c a w h => by cases dst <;> exact h) (Ext.refl _ _) ?_
                simp only [sel, List.getElem?_cons_succ, List.getElem?_cons_zero]
                repeat (go_big_quiet_step (fail))
                refine wpQuiet_nil ?_
                simp only [wpTree]
                clear cj cq b6' b6
                have RD := hid RX.out.drew
                go_wp2_with fail
                go_roundw
                case rel => exact ⟨j + 1, by go_num, by omega, by rw [e9.out], RD⟩
                case measure => simp [RowKit.intOf]; omega
          · obtain rfl : j = names.length := by omega
            rw [List.take_length]
            have s0 := fun t : LaterF none' wr => (hs0.out _ (RX.out.trans t.x)).1
            have s1 := fun t : LaterF none' wr => (hs0.out _ (RX.out.trans t.x)).2.1
            have s2 := fun t : LaterF none' wr => (hs0.out _ (RX.out.trans t.x)).2.2
            have cq := fun t : LaterF none' wr => hqi.out _ (RX.out.trans t.x) i hi
            have HLI := hid (HL1.out (allN i))
            have CLI := hid fun W (X : Ext none' wr W) => CL.out (allN i) W (X13.out.trans (RX.out.trans X))
            obtain ⟨ai, hai⟩ : ∃ ai, allN i = ai := ⟨_, rfl⟩
            obtain ⟨lp, hlp⟩ : ∃ lp, letsP [] [] s (.mk 1 ai []) = lp := ⟨_, rfl⟩
            obtain ⟨nn, hnn⟩ : ∃ nn, names.any (· == ai) = nn := ⟨_, rfl⟩
            rw [hai, hlp, hnn] at HLI
            simp only [hai, hlp] at CLI
            simp only [hai] at cq
            rw [hai, hnn]
            have hp0 := HPOS1.out
            have hp1 : decide (0 < (s.terms.length : Int)) = true := decide_eq_true (by omega)
            clear hai hlp hnn
            obtain ⟨sa, sc, st⟩ := s
            simp only at s0 s1 s2 HLI CLI hp0 hp1
            cases sa with
            | true =>
              go_upto_region 15 with (fail)
              refine region_tree none' wr [0, 1, 2, 3, 4, 5, 6, 7, 8, 9, 10, 11, 12, 13, 14, 15, 16, 17, 18, 19] (.one 20 false (.one 21 false (.one 22 false (.one 23 false (.one 24 false (.one 25 false .fin)))))) (by kernel_rfl) (by kernel_rfl) (fun dst v c a w h => by cases dst <;> exact h) (Ext.refl _ _) ?_
              simp only [sel, List.getElem?_cons_succ, List.getElem?_cons_zero]
              repeat (go_big_quiet_step (fail))
              refine wpQuiet_nil ?_
              simp only [wpTree, stepT, sel, List.getElem?_cons_succ, List.getElem?_cons_zero]
              clear s0 s1 s2 cq
              have RD := hid RX.out.drew
              go_wp2_with fail
              go_roundw
              case rel => exact ⟨i + 1, by go_num, by omega, RD⟩
              case measure => simp [RowKit.intOf]; omega
            | false =>
              cases sc with
              | true =>
                go_upto_region 15 with (fail)
                refine region_tree none' wr [0, 1, 2, 3, 4, 5, 6, 7, 8, 9, 10, 11, 12, 13, 14, 15, 16, 17, 18, 19] (.one 20 false (.one 21 false (.one 22 false (.one 23 false (.one 24 false (.one 25 false .fin)))))) (by kernel_rfl) (by kernel_rfl) (fun dst v c a w h => by cases dst <;> exact h) (Ext.refl _ _) ?_
                simp only [sel, List.getElem?_cons_succ, List.getElem?_cons_zero]
                repeat (go_big_quiet_step (fail))
                refine wpQuiet_nil ?_
                simp only [wpTree, stepT, sel, List.getElem?_cons_succ, List.getElem?_cons_zero]
                clear s0 s1 s2 cq
                have RD := hid RX.out.drew
                go_wp2_with fail
                go_roundw
                case rel => exact ⟨i + 1, by go_num, by omega, RD⟩
                case measure => simp [RowKit.intOf]; omega
              | false =>
                cases lp with
                | false =>
                  go_upto_region 15 with (fail)
                  refine region_tree none' wr [0, 1, 2, 3, 4, 5, 6, 7, 8, 9, 10, 11, 12, 13, 14, 15, 16, 17, 18, 19] (.one 20 false (.one 21 false (.one 22 false (.one 23 false (.one 24 false (.one 25 false .fin)))))) (by kernel_rfl) (by kernel_rfl) (fun dst v c a w h => by cases dst <;> exact h) (Ext.refl _ _) ?_
                  simp only [sel, List.getElem?_cons_succ, List.getElem?_cons_zero]
                  repeat (go_big_quiet_step (fail))
                  refine wpQuiet_nil ?_
                  simp only [wpTree, stepT, sel, List.getElem?_cons_succ, List.getElem?_cons_zero]
                  clear s0 s1 s2 cq
                  go_wp2_with fail
                  refine (CLI.out _ (Ext.refl _ _).drew).mono ?_
                  rintro e W5 ⟨rfl, X5⟩
                  have X5 := hid (RX.out.trans ((Ext.refl none' wr).drew.trans X5))
                  go_wp2_with fail
                  go_roundw
                  case rel => exact ⟨i + 1, by go_num, by omega, X5⟩
                  case measure => simp [RowKit.intOf]; omega
                | true =>
                  obtain rfl := HLI.out rfl rfl rfl
                  go_upto_region 15 with (fail)
                  refine region_tree none' wr [0, 1, 2, 3, 4, 5, 6, 7, 8, 9, 10, 11, 12, 13, 14, 15, 16, 17, 18, 19] (.one 20 false (.one 21 false (.one 22 false (.one 23 false (.one 24 false (.one 25 false .fin)))))) (by kernel_rfl) (by kernel_rfl) (fun dst v c a w h => by cases dst <;> exact h) (Ext.refl _ _) ?_
                  simp only [sel, List.getElem?_cons_succ, List.getElem?_cons_zero]
                  repeat (go_big_quiet_step (fail))
                  refine wpQuiet_nil ?_
                  simp only [wpTree, stepT, sel, List.getElem?_cons_succ, List.getElem?_cons_zero]
                  clear s0 s1 s2 cq
                  go_wp2_with fail
                  refine (CLI.out _ (Ext.refl _ _).drew).mono ?_
                  rintro e W5 ⟨rfl, X5⟩
                  have X5 := hid (RX.out.trans ((Ext.refl none' wr).drew.trans X5))
                  go_wp2_with fail
                  go_roundw
                  case rel => exact ⟨i + 1, by go_num, by omega, X5⟩
                  case measure => simp [RowKit.intOf]; omega
      · obtain rfl : i = 3 := by omega
        have s0 := fun t : LaterF none' wr => (hs0.out _ (R.out.trans t.x)).1
        have s1 := fun t : LaterF none' wr => (hs0.out _ (R.out.trans t.x)).2.1
        have s2 := fun t : LaterF none' wr => (hs0.out _ (R.out.trans t.x)).2.2
        have b6' := fun t : LaterF none' wr => hb6.out _ (R.out.trans t.x)
        clear hi
        go_upto_region 17 with (fail)
        refine region_tree none' wr [0, 2, 3, 5] (.two 1 true (.two 4 true (.one 6 true (.one 7 true (.one 8 false (.one 9 false (.one 10 false (.one 11 false (.one 12 false .fin))))))) 6 true (.one 4 true (.one 7 true (.one 8 false (.one 9 false (.one 10 false (.one 11 false (.one 12 false .fin)))))))) 6 true (.one 1 true (.one 4 true (.one 7 true (.one 8 false (.one 9 false (.one 10 false (.one 11 false (.one 12 false .fin))))))))) (by kernel_rfl) (by kernel_rfl) (fun dst v c a w h => by cases dst <;> exact h) (Ext.refl _ _) ?_
        simp only [sel, List.getElem?_cons_succ, List.getElem?_cons_zero]
        repeat (go_big_quiet_step (fail))
        refine wpQuiet_nil ?_
        simp only [wpTree, stepT, sel, List.getElem?_cons_succ, List.getElem?_cons_zero]
        clear s0 s1 s2 b6'
        have SN := hid fun (W : World) (X : Ext none' wr W) => str_src (P := Try.prog) Try.underlying30 (HN3.out.ext isStr_good (R.out.trans X) (fun _ _ h => h.elim))
        have MS : Hid (∀ (W : World) (b : Nat), W.heap[b]? = some (.cells #[.string ⟨more.toArray⟩] 9 (0, 0)) → Src Try.prog 1 30 (.slice (some ⟨b, 0, none⟩) 1 1) 1 (strVals [more]) W) := hid fun W b h => str_src (A := none') (l := [more]) Try.underlying30 (isSl_lit (xs := [more]) h (fun h => h) (by simp) (fun i hi => by
          obtain rfl : i = 0 := by simpa using hi
          rfl))
        have OW : Hid (∀ (W : World) (b : Nat), W.heap[b]? = some (.cells #[] 9 (0, 0)) → wr.heap.size ≤ b → W.ownsRow wr.heap.size 9 1 (.slice (some ⟨b, 0, none⟩) 0 0) 0 []) := hid fun W b h hb => ⟨rfl, .inr ⟨b, 0, #[], rfl, hb, h, Nat.le_refl _, by unfold maxLen; omega, rfl, rfl⟩⟩
        have CF : Hid (∀ (v : Value) (W : World), Ext none' wr W → W.ownsRow wr.heap.size 9 1 v (0 + names.length + 1) ([] ++ strVals names ++ strVals [more]) → Calls Try.prog 16 #[.agg #[.bool s.all, .bool s.cmp, .slice a3 s.terms.length c3], v] W (BoolP true W)) := hid fun v W X own => by
          have e := CE.out (names ++ [more]) (by simp; omega) v W (X13.out.trans (R.out.trans X)) (RowOf.sl isStr_good (str_row (A := none') (l := names ++ [more]) (by simpa [strVals] using own)) (fun _ _ h => h))
          rw [HE1.out] at e
          exact e
        obtain ⟨i0, hi0, hz0, hz1, hz2⟩ := info_parts infoStr
        have I0 := hid hi0
        have I1 := hid hz0
        have I2 := hid hz1
        have I3 := hid hz2
        clear hi0 hz0 hz1 hz2
        refine ⟨?_, ?_⟩
        · go_wp2_with fail
          refine ⟨In.of ((Ext.refl none' wr).alloc (.cells #[] 9 (0, 0))).drew, ?_, ?_⟩
          · have XB := hid (((Ext.refl none' wr).alloc (.cells #[] 9 (0, 0))).drew)
            have OB := hid (OW.out _ (wr.heap.size) (heap_alloc_at rfl _) (by omega))
            have HSZ := hid XB.out.size
            refine wpList_app _ rfl (.tmp 81) (.tmp 83) 30 30 rfl wr.heap.size 9 i0 _ 1 16 Try.underlying30 I0.out I1.out I2.out I3.out rfl _ 0 [] rfl OB.out _ names.length _ rfl (SN.out _ XB.out) ?_ ?_ ?_ ?_
            · unfold maxLen; omega
            · omega
            · exact HSZ.out
            intro v4 W4 own4 grow4 blk4 _
            have X4 := hid (XB.out.grown grow4 (fun g hg => .inr (OB.out.lt g hg).1))
            have O4 := hid own4
            clear own4 grow4 blk4 HSZ
            go_wp2_with fail
            refine ⟨In.of X4.out, ?_⟩
            go_wp2_with fail
            refine ⟨In.of (X4.out.alloc _), ?_⟩
            have XC := hid (X4.out.alloc (.cells #[.string ⟨more.toArray⟩] 9 (0, 0)))
            have OC := hid (ownsRow_ext O4.out ((Ext.refl none' _).alloc (.cells #[.string ⟨more.toArray⟩] 9 (0, 0))) (fun _ _ h => h))
            have HSZ := hid XC.out.size
            refine wpList_app _ rfl (.tmp 84) (.tmp 86) 30 30 rfl wr.heap.size 9 i0 _ 1 16 Try.underlying30 I0.out I1.out I2.out I3.out rfl _ _ _ rfl OC.out _ 1 _ rfl (MS.out _ _ (heap_alloc_at rfl _)) ?_ ?_ ?_ ?_
            · unfold maxLen; omega
            · omega
            · exact HSZ.out
            intro v7 W7 own7 grow7 blk7 _
            have X7 := hid (XC.out.grown grow7 (fun g hg => .inr (OC.out.lt g hg).1))
            have O7 := hid own7
            clear own7 grow7 blk7 HSZ
            refine ⟨In.of X7.out, ?_⟩
            go_wp2_with fail
            refine (CF.out _ _ X7.out O7.out).mono ?_
            rintro e W8 ⟨rfl, X8⟩
            have X8 := hid (X7.out.trans X8)
            go_wp2_with fail
            refine (AW.out _).mono ?_
            rintro e W9 ⟨rfl, X9⟩
            have X9 := hid (X8.out.trans X9)
            go_wp2_with fail
            go_ret
            exact ⟨rfl, X03.out.trans (R.out.trans X9.out)⟩
          · go_wp2_with fail
            refine ⟨In.of (((Ext.refl none' wr).alloc (.cells #[] 9 (0, 0))).alloc (.cells #[.string ⟨more.toArray⟩] 9 (0, 0))).drew, ?_⟩
            have XB := hid ((((Ext.refl none' wr).alloc (.cells #[] 9 (0, 0))).alloc (.cells #[.string ⟨more.toArray⟩] 9 (0, 0))).drew)
            have OB := hid (OW.out _ (wr.heap.size) (heap_alloc_keep (heap_alloc_at rfl (.cells #[] 9 (0, 0))) (.cells #[.string ⟨more.toArray⟩] 9 (0, 0))) (by omega))
            have HSZ := hid XB.out.size
            refine wpList_app _ rfl (.tmp 81) (.tmp 83) 30 30 rfl wr.heap.size 9 i0 _ 1 16 Try.underlying30 I0.out I1.out I2.out I3.out rfl _ 0 [] rfl OB.out _ names.length _ rfl (SN.out _ XB.out) ?_ ?_ ?_ ?_
            · unfold maxLen; omega
            · omega
            · exact HSZ.out
            intro v4 W4 own4 grow4 blk4 _
            have X4 := hid (XB.out.grown grow4 (fun g hg => .inr (OB.out.lt g hg).1))
            have G6 := hid (Ext.heap (F := fun i => (Value.slice (some ⟨wr.heap.size, 0, none⟩) 0 0).ownBlock = some i) ((Ext.refl _ _).grown grow4 fun k hk => .inl hk) (k := wr.heap.size + 1) (heap_alloc_at (World.size_alloc _ _).symm (.cells #[.string ⟨more.toArray⟩] 9 (0, 0))) (fun h => by have h2 : (some (wr.heap.size) : Option Nat) = some (wr.heap.size + 1) := h; injection h2 with h2; omega))
            have O4 := hid own4
            clear own4 grow4 blk4 HSZ
            go_wp2_with fail
            refine ⟨In.of X4.out, ?_⟩
            have XC := hid (X4.out)
            have OC := hid (O4.out)
            have HSZ := hid XC.out.size
            refine wpList_app _ rfl (.tmp 84) (.tmp 86) 30 30 rfl wr.heap.size 9 i0 _ 1 16 Try.underlying30 I0.out I1.out I2.out I3.out rfl _ _ _ rfl OC.out _ 1 _ rfl (MS.out _ _ G6.out) ?_ ?_ ?_ ?_
            · unfold maxLen; omega
            · omega
            · exact HSZ.out
            intro v7 W7 own7 grow7 blk7 _
            have X7 := hid (XC.out.grown grow7 (fun g hg => .inr (OC.out.lt g hg).1))
            have O7 := hid own7
            clear own7 grow7 blk7 HSZ
            refine ⟨In.of X7.out, ?_⟩
            go_wp2_with fail
            refine (CF.out _ _ X7.out O7.out).mono ?_
            rintro e W8 ⟨rfl, X8⟩
            have X8 := hid (X7.out.trans X8)
            go_wp2_with fail
            refine (AW.out _).mono ?_
            rintro e W9 ⟨rfl, X9⟩
            have X9 := hid (X8.out.trans X9)
            go_wp2_with fail
            go_ret
            exact ⟨rfl, X03.out.trans (R.out.trans X9.out)⟩
        · go_wp2_with fail
          refine ⟨In.of ((Ext.refl none' wr).alloc (.cells #[.string ⟨more.toArray⟩] 9 (0, 0))).drew, ?_⟩
          go_wp2_with fail
          refine ⟨In.of (((Ext.refl none' wr).alloc (.cells #[.string ⟨more.toArray⟩] 9 (0, 0))).alloc (.cells #[] 9 (0, 0))).drew, ?_⟩
          have XB := hid ((((Ext.refl none' wr).alloc (.cells #[.string ⟨more.toArray⟩] 9 (0, 0))).alloc (.cells #[] 9 (0, 0))).drew)
          have OB := hid (OW.out _ (wr.heap.size + 1) (heap_alloc_at (World.size_alloc _ (.cells #[.string ⟨more.toArray⟩] 9 (0, 0))).symm (.cells #[] 9 (0, 0))) (by omega))
          have HSZ := hid XB.out.size
          refine wpList_app _ rfl (.tmp 81) (.tmp 83) 30 30 rfl wr.heap.size 9 i0 _ 1 16 Try.underlying30 I0.out I1.out I2.out I3.out rfl _ 0 [] rfl OB.out _ names.length _ rfl (SN.out _ XB.out) ?_ ?_ ?_ ?_
          · unfold maxLen; omega
          · omega
          · exact HSZ.out
          intro v4 W4 own4 grow4 blk4 _
          have X4 := hid (XB.out.grown grow4 (fun g hg => .inr (OB.out.lt g hg).1))
          have G6 := hid (Ext.heap (F := fun i => (Value.slice (some ⟨wr.heap.size + 1, 0, none⟩) 0 0).ownBlock = some i) ((Ext.refl _ _).grown grow4 fun k hk => .inl hk) (k := wr.heap.size) (heap_alloc_keep (heap_alloc_at rfl (.cells #[.string ⟨more.toArray⟩] 9 (0, 0))) (.cells #[] 9 (0, 0))) (fun h => by have h2 : (some (wr.heap.size + 1) : Option Nat) = some (wr.heap.size) := h; injection h2 with h2; omega))
          have O4 := hid own4
          clear own4 grow4 blk4 HSZ
          go_wp2_with fail
          refine ⟨In.of X4.out, ?_⟩
          have XC := hid (X4.out)
          have OC := hid (O4.out)
          have HSZ := hid XC.out.size
          refine wpList_app _ rfl (.tmp 84) (.tmp 86) 30 30 rfl wr.heap.size 9 i0 _ 1 16 Try.underlying30 I0.out I1.out I2.out I3.out rfl _ _ _ rfl OC.out _ 1 _ rfl (MS.out _ _ G6.out) ?_ ?_ ?_ ?_
          · unfold maxLen; omega
          · omega
          · exact HSZ.out
          intro v7 W7 own7 grow7 blk7 _
          have X7 := hid (XC.out.grown grow7 (fun g hg => .inr (OC.out.lt g hg).1))
          have O7 := hid own7
          clear own7 grow7 blk7 HSZ
          refine ⟨In.of X7.out, ?_⟩
          go_wp2_with fail
          refine (CF.out _ _ X7.out O7.out).mono ?_
          rintro e W8 ⟨rfl, X8⟩
          have X8 := hid (X7.out.trans X8)
          go_wp2_with fail
          refine (AW.out _).mono ?_
          rintro e W9 ⟨rfl, X9⟩
          have X9 := hid (X8.out.trans X9)
          go_wp2_with fail
          go_ret
          exact ⟨rfl, X03.out.trans (R.out.trans X9.out)⟩
end Go.Proofs.Ythoeengfgkfchaa
