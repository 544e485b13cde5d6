import Derived.Test.YtokjnalmjdighaaDoorTokAwake
import Derived.Test.YtokjnalmjdighaaDoorTokCover
import Derived.Test.YtokjnalmjdighaaDoorTokRSign
import Derived.Deep.CutRange
namespace Go.Proofs.YtokjnalmjdighaaDoor
open Go.RowKit Go.Lib Go.BigFrame
theorem u8n {c k : UInt8} (h : c ≠ k) : c.toNat ≠ k.toNat := fun e => h (UInt8.toNat_inj.1 e)
set_option maxRecDepth 100000 in
theorem law_stands_long (aa : Option Addr) (len cap : Nat) (w : World) (h : 1000 < len) (hm : len ≤ 9223372036854775807) : Calls Tryd.prog 6 #[.slice aa len cap] w (TruePost w) := by
  go_enter Tryd.func6, Tryd.ntmps6
  go_wp2
  go_ret
  exact ⟨rfl, Ext.refl _ _⟩
theorem scanR_lens {s : List UInt8} {l n : List Tok} (h : scanR s = .good l n) (hs : s.length ≤ 1000) : l.length ≤ 1001 ∧ n.length ≤ 1000 := by
  obtain ⟨l1, I, rfl⟩ := scanR_ind (fun k l n => Inv s k l n) (Inv.start s) (fun _ _ _ _ _ _ hk hQ hst _ => Inv.stp hk hQ hst) h
  have := I.ll
  have := I.nl
  have := lineP_len' l1 s.length
  omega
/-- The box that holds a token. -/
def Box (w w' : World) (b : Nat) (t : Tok) : Prop := w'.heap[b]? = some (.cells #[.int .i64 t.kind, .string ⟨t.text.toArray⟩, .int .i64 t.pos] 29 (0, 0)) ∧ Ext none' w w' ∧ w.heap.size ≤ b
def bvals (n : Nat) (p : Nat → Bool) : List Value := (List.range n).map fun j => .bool (p j)
theorem bvals_at {n : Nat} {p : Nat → Bool} {j : Nat} (h : j < n) : (bvals n p)[j]? = some (.bool (p j)) := by simp [bvals, h]
theorem bvals_len (n : Nat) (p : Nat → Bool) : (bvals n p).length = n := by simp [bvals]
theorem bvals_set {n : Nat} {p q : Nat → Bool} {j : Nat} (hq : ∀ i, i < n → q i = if i = j then true else p i) : (bvals n p).set j (.bool true) = bvals n q := by
  apply List.ext_getElem?
  intro i
  by_cases hi : i < n
  · rw [bvals_at hi, hq i hi]
    by_cases e : i = j
    · subst e; rw [List.getElem?_set_self (by rw [bvals_len]; exact hi), if_pos rfl]
    · rw [List.getElem?_set_ne (fun h => e h.symm), bvals_at hi, if_neg e]
  · rw [List.getElem?_eq_none (by rw [List.length_set, bvals_len]; omega), List.getElem?_eq_none (by rw [bvals_len]; omega)]
/-- The row 'used'. -/
def Used (g n : Nat) (w wr : World) (p : Nat → Bool) : Prop := wr.ownsRow g 4 1 (.slice (some ⟨g, 0, none⟩) n n) n (bvals n p) ∧ Ext none' w wr
theorem bvals_false (n : Nat) : List.replicate n (Value.bool false) = bvals n fun _ => false := by
  apply List.ext_getElem?
  intro i
  by_cases hi : i < n
  · rw [bvals_at hi]; simp [hi]
  · rw [List.getElem?_eq_none (by simp; omega), List.getElem?_eq_none (by rw [bvals_len]; omega)]
theorem Used.congr {g n : Nat} {w wr : World} {p q : Nat → Bool} (h : Used g n w wr p) (e : ∀ j, j < n → p j = q j) : Used g n w wr q := by
  have : bvals n p = bvals n q := by
    unfold bvals
    apply List.map_congr_left
    intro j hj
    rw [e j (by simpa using hj)]
  unfold Used
  rw [← this]; exact h
theorem Used.later {g n : Nat} {w wr w2 : World} {p : Nat → Bool} (h : Used g n w wr p) (x : Ext none' wr w2) : Used g n w w2 p := ⟨ownsRow_ext h.1 x (fun _ _ h => h), h.2.trans x⟩
theorem Used.set {g n : Nat} {w wr : World} {p q : Nat → Bool} {j : Nat} (h : Used g n w wr p) (hg : w.heap.size ≤ g) (hq : ∀ i, i < n → q i = if i = j then true else p i) : Used g n w (wr.setCell ⟨g, j, none⟩ (.bool true)) q := by
  refine ⟨?_, h.2.setNew hg j _⟩
  have := (h.1.stored j (.bool true)).1
  rw [bvals_set hq] at this
  exact this
theorem any_take {L : List Tok} {i : Nat} (h : i < L.length) (j : Nat) : (L.take (i + 1)).any (inT j) = ((L.take i).any (inT j) || inT j (L[i]'h)) := by
  have e : L.take (i + 1) = L.take i ++ [L[i]'h] := by rw [List.take_add_one, List.getElem?_eq_getElem h]; rfl
  rw [e, List.any_append, List.any_cons, List.any_nil, Bool.or_false]
set_option maxRecDepth 100000 in
set_option maxHeartbeats 3200000 in
theorem law_stands_bad (s : List UInt8) (v : Value) (w : World) (hv : Bytes w.heap.size w v s) (hT : Tabs w) (hm : MaxL w) (hs : s.length ≤ 1000) (p c : Nat) (hr : scanR s = .bad p c) : Calls Tryd.prog 6 #[v] w (TruePost w) := by
  have C := hid (Scan_any _ s v w hv hT hm (by omega))
  have NC := hid fun w' (x : Ext none' w w') => Notes_any _ s v w' (hv.keep x) (hT.ext x) (hm.ext x (fun h => h)) (by omega)
  have AW := hid fun w' (x : Ext none' w w') => awake_any w' (hT.ext x) (hm.ext x (fun h => h))
  obtain ⟨aa, cap, rfl, h1, h2, h3, h4⟩ := hv
  clear h3 h4 hT hm
  have hb := scanR_bad hr
  have hc0 : ((c : Int) != 0) = true := by have := hb.1; simp; omega
  have hps := hb.2
  rw [hr] at C NC
  clear hr hb
  go_enter Tryd.func6, Tryd.ntmps6
  go_wp2_with fail
  refine C.out.mono ?_
  rintro e w1 ⟨v, rfl, ⟨a1, c1, rfl, T⟩, X1⟩
  rw [show (ScR.bad p c).err = c from rfl, show (ScR.bad p c).pos = p from rfl, show (ScR.bad p c).toks = [] from rfl]
  have X1 := hid X1
  clear T
  go_wp2_with fail
  refine (NC.out _ X1.out).mono ?_
  rintro e w2 ⟨v, rfl, ⟨a2, c2, rfl, T⟩, X2⟩
  rw [show (ScR.bad p c).notes = [] from rfl]
  have X2 := hid (X1.out.trans X2)
  clear T
  go_wp2_with fail
  refine (AW.out _ X2.out).mono ?_
  rintro e w3 ⟨rfl, X3⟩
  have X3 := hid (X2.out.trans X3)
  go_wp2_with fail
  go_ret
  exact ⟨rfl, X3.out⟩
set_option maxRecDepth 100000 in
set_option maxHeartbeats 6400000 in
theorem law_stands_good (s : List UInt8) (v : Value) (w : World) (hv : Bytes w.heap.size w v s) (hT : Tabs w) (hm : MaxL w) (hs : s.length ≤ 1000) (l n : List Tok) (hr : scanR s = .good l n) : Calls Tryd.prog 6 #[v] w (TruePost w) := by
  have C := hid (Scan_any _ s v w hv hT hm (by omega))
  have NC := hid fun w' (x : Ext none' w w') => Notes_any _ s v w' (hv.keep x) (hT.ext x) (hm.ext x (fun h => h)) (by omega)
  have AW := hid fun w' (x : Ext none' w w') => awake_any w' (hT.ext x) (hm.ext x (fun h => h))
  have HV := hid hv
  obtain ⟨aa, cap, rfl, h1, h2, h3, h4⟩ := hv
  have H4 := hid h4
  clear h3 h4 hT hm
  have ST := hid (scanR_stand hr)
  obtain ⟨hll, hnl⟩ := scanR_lens hr hs
  rw [hr] at C NC
  clear hr
  go_enter Tryd.func6, Tryd.ntmps6
  go_wp2_with fail
  refine C.out.mono ?_
  rintro e w1 ⟨v, rfl, ⟨a1, c1, rfl, T1⟩, X1⟩
  rw [show (ScR.good l n).err = 0 from rfl, show (ScR.good l n).pos = 0 from rfl, show (ScR.good l n).toks = l from rfl] at *
  have X1 := hid X1
  have HT1 := hid T1
  clear T1
  go_wp2_with fail
  refine (NC.out _ X1.out).mono ?_
  rintro e w2 ⟨v, rfl, ⟨a2, c2, rfl, T2⟩, X2⟩
  rw [show (ScR.good l n).notes = n from rfl] at *
  have HT2 := hid T2
  have Y2 := hid X2
  have X2 := hid (X1.out.trans X2)
  clear T2
  obtain ⟨K, hK⟩ : ∃ K, K = s.length + 1 := ⟨_, rfl⟩
  have hKi : ((s.length : Nat) : Int) + 1 = (K : Nat) := by omega
  have HKI := hid hKi
  have hKl : K ≤ 1001 := by omega
  have HKS := hid hK
  clear hK hKi
  obtain ⟨i0, hi, hz0, hz1, hz2⟩ : ∃ i0, Tryd.prog.info? 4 = some i0 ∧ i0.zero = some (.bool false) ∧ i0.size = 1 ∧ i0.bytes = 1 := ⟨_, rfl, rfl, rfl, rfl⟩
  obtain ⟨w3, hrun, own1, grow1⟩ := run_make_full (P := Tryd.prog) w2 w2.heap.size 36 4 i0 _ 1 Tryd.underlying36 hi hz0 hz1 .i64 .i64 K (by rw [hz2]; omega) (by unfold maxLen; omega) (Nat.le_refl _)
  rw [← HKI.out] at hrun
  have X3 : Ext none' w2 w3 := (Ext.refl none' w2).grown grow1 (fun k hk => by cases hk)
  have HO := hid own1
  have HX := hid X3
  clear hi hz0 hz1 hz2 own1 grow1 X3
  go_wp2_with fail
  rw [HKI.out]
  clear hrun
  obtain ⟨g, hg⟩ : ∃ g, g = w2.heap.size := ⟨_, rfl⟩
  rw [← hg] at HO ⊢
  have HG := hid hg
  clear hg
  have U0 : Hid (Used g K w2 w3 fun j => ((l ++ n).take 0).any (inT j)) := hid ⟨by have := HO.out; rw [show (Value.bool false).cells = #[.bool false] from rfl, toList_madeCells_one, Nat.mul_one, bvals_false] at this; exact this, HX.out⟩
  have HN0 := hid (HG.out ▸ Nat.le_refl g : w2.heap.size ≤ g)
  clear HO
  go_loopw [8, 9, 10, 11] (fun en z _ _ wr => ∃ (i e : Nat), z = .int .i64 i ∧ en = .int .i64 e ∧ i ≤ l.length + n.length ∧ e ≤ 1000 ∧ Hid (Used g K w2 wr fun j => ((l ++ n).take i).any (inT j)) ∧ Hid (∀ j (h : j < l.length), i ≤ j → e ≤ (l[j]'h).pos)) (fun _ z _ _ _ => l.length + n.length - (RowKit.intOf z).toNat)
  case atStart => exact ⟨0, 0, rfl, rfl, by omega, by omega, U0, hid fun j h _ => Nat.zero_le _⟩
  case round =>
    obtain ⟨i, e, rfl, rfl, hle, he, HU, HE⟩ := hrel
    by_cases hi : i < l.length + n.length
    · have hiL : i < (l ++ n).length := by rw [List.length_append]; exact hi
      obtain ⟨t, ht⟩ : ∃ t, (l ++ n)[i] = t := ⟨_, rfl⟩
      have HTT := hid ht
      clear ht
      go_upto_if 65 with (fail)
      go_cut [] from 66 to 80 (fun wx => Hid (Box wr wx wr.heap.size t))
      case first =>
        by_cases hil : i < l.length
        · have hlt : l[i] = t := by rw [← HTT.out, List.getElem_append_left hil]
          obtain ⟨g1, rfl, _, hg1, hc⟩ := HT1.out (by intro e; subst e; simp at hil)
          have Y := Y2.out.trans HU.out.2
          have c0 := (Y.cell (p := ⟨g1, i * 3, none⟩) hg1 (fun h => h)).trans (hc i hil).1
          have c1 := (Y.cell (p := ⟨g1, i * 3 + 1, none⟩) hg1 (fun h => h)).trans (hc i hil).2.1
          have c2 := (Y.cell (p := ⟨g1, i * 3 + 2, none⟩) hg1 (fun h => h)).trans (hc i hil).2.2
          have hgr : g1 < wr.heap.size := Nat.lt_of_lt_of_le hg1 Y.size
          have hep := HE.out i hil (Nat.le_refl _)
          rw [hlt] at c0 c1 c2 hep
          obtain ⟨kd, tx, ps⟩ := t
          simp only at c0 c1 c2 hep
          clear hlt hc hg1 Y
          go_wp2_with fail
          go_meet
          case rel =>
            exact hid ⟨heap_alloc_at rfl _, (Ext.refl _ _).alloc _, Nat.le_refl _⟩
        · obtain ⟨j, rfl⟩ : ∃ j, i = l.length + j := ⟨i - l.length, by omega⟩
          have hj : j < n.length := by omega
          have hlt : n[j] = t := by
            rw [← HTT.out, List.getElem_append_right (by omega)]
            simp
          obtain ⟨g1, rfl, _, hg1, hc⟩ := HT2.out (by intro e; subst e; simp at hj)
          have Y := HU.out.2
          have c0 := (Y.cell (p := ⟨g1, j * 3, none⟩) hg1 (fun h => h)).trans (hc j hj).1
          have c1 := (Y.cell (p := ⟨g1, j * 3 + 1, none⟩) hg1 (fun h => h)).trans (hc j hj).2.1
          have c2 := (Y.cell (p := ⟨g1, j * 3 + 2, none⟩) hg1 (fun h => h)).trans (hc j hj).2.2
          have hgr : g1 < wr.heap.size := Nat.lt_of_lt_of_le hg1 Y.size
          have hsub : (↑(l.length + j) : Int) - (l.length : Nat) = (j : Nat) := by omega
          rw [hlt] at c0 c1 c2
          obtain ⟨kd, tx, ps⟩ := t
          simp only at c0 c1 c2
          clear hlt hc hg1 Y hil
          go_wp2_with fail
          go_meet
          case rel =>
            exact hid ⟨heap_alloc_at rfl _, (Ext.refl _ _).alloc _, Nat.le_refl _⟩
      case rest =>
        obtain ⟨b, hb⟩ : ∃ b, b = wr.heap.size := ⟨_, rfl⟩
        rw [← hb] at hcut ⊢
        have HBX := hcut
        have HBB := hid hb
        have U1 := hid (HU.out.later hcut.out.2.1)
        have hgb : g ≠ b := by
          have := (HU.out.1.lt g rfl).2
          omega
        clear hcut hb
        obtain ⟨kd, tx, ps⟩ := t
        have b0 := cell_at HBX.out.1 0
        have b1 := cell_at HBX.out.1 1
        have b2 := cell_at HBX.out.1 2
        simp only [List.getElem?_toArray, List.getElem?_cons_zero, List.getElem?_cons_succ] at b0 b1 b2
        obtain ⟨rb, hrb⟩ : ∃ rb, rb = (kd == 6 && tx == [10]) := ⟨_, rfl⟩
        have HRB := hid hrb
        clear hrb
        have hmem : (⟨kd, tx, ps⟩ : Tok) ∈ l ++ n := by rw [← HTT.out]; exact List.getElem_mem hiL
        have HMEM := hid hmem
        have hps := ST.out.pos _ hmem
        simp only at hps
        have HAT := hid fun j => any_take hiL j
        clear hmem
        go_upto_region 18 with (fail)
        go_cut [88] from 81 to 88 (fun z wx => z = .bool rb ∧ wx = wc)
        case first =>
          by_cases k6 : kd = 6
          · subst k6
            by_cases t10 : tx = [10]
            · subst t10
              have hbt : rb = true := by rw [HRB.out]; rfl
              go_wp2_with fail
              go_meet
              case rel => exact ⟨by rw [hbt], rfl⟩
            · have e10 : (tx == [10]) = false := by simpa using t10
              have hbf : rb = false := by rw [HRB.out, e10]; rfl
              clear t10
              go_wp2_with fail
              go_meet
              case rel => exact ⟨by rw [hbf], rfl⟩
          · have e6 : ((kd : Int) == 6) = false := by simp; omega
            have hbf : rb = false := by rw [HRB.out]; simp [k6]
            clear k6
            go_wp2_with fail
            go_meet
            case rel => exact ⟨by rw [hbf], rfl⟩
        case rest =>
          obtain ⟨rfl, rfl⟩ := hcut
          cases rb with
          | true =>
            have hrt : realT ⟨kd, tx, ps⟩ = false := by unfold realT; simp only; rw [← HRB.out]; rfl
            have N := hid (U1.out.congr (q := fun j => ((l ++ n).take (i + 1)).any (inT j)) fun j _ => by
              rw [HAT.out, HTT.out]
              unfold inT
              rw [hrt]; simp)
            have NE : Hid (∀ j (h : j < l.length), i + 1 ≤ j → e ≤ (l[j]'h).pos) := hid fun j h hj => HE.out j h (by omega)
            clear hrt
            go_wp2_with fail
            go_roundw
            case rel => exact ⟨i + 1, e, by go_num, rfl, by omega, by omega, N, NE⟩
            case measure => simp [RowKit.intOf]; omega
          | false =>
            have hrt : realT ⟨kd, tx, ps⟩ = true := by unfold realT; simp only; rw [← HRB.out]; rfl
            obtain ⟨s1, s2, s3⟩ := ST.out.tok _ HMEM.out hrt
            simp only at s1 s2 s3
            have s4 := ST.out.free i hiL (by rw [HTT.out]; exact hrt)
            rw [HTT.out] at s4
            simp only [fin] at s4
            have S3 := hid s3
            have S4 := hid s4
            have HRT := hid hrt
            have htl : 0 < tx.length := List.length_pos_iff.2 s1
            have etx : (tx == []) = false := by simpa using s1
            have hne : s ≠ [] := by intro h; subst h; rw [List.length_nil] at s2; omega
            obtain ⟨bb, off, rfl, hbB, hbw, hcell⟩ := H4.out hne
            have hcv : ∀ t : LaterF none' wc, (convert 22 9 (.slice (some ⟨bb, off + ps, none⟩) tx.length (cap - ps))).run Tryd.prog t.w = .ok (.string ⟨tx.toArray⟩) t.w := fun t => by
              have hx : Ext none' w t.w := ((X2.out.trans HU.out.2).trans HBX.out.2.1).trans t.x
              have hsub := (HV.out.keep hx).sub ps (ps + tx.length) (by omega) s2 (cap - ps) (by omega) (by omega)
              rw [show ps + tx.length - ps = tx.length by omega, S3.out] at hsub
              exact conv_bytes hsub _ _ Tryd.underlying22 Tryd.underlying5 _ Tryd.underlying9
            have d0 : ∀ t : LaterF none' wc, t.w.cell? ⟨b, 0, none⟩ = some (.int .i64 kd) := fun t => by rw [cell_at (t.x.heap HBX.out.1 (fun h => h)) 0]; rfl
            have d1 : ∀ t : LaterF none' wc, t.w.cell? ⟨b, 1, none⟩ = some (.string ⟨tx.toArray⟩) := fun t => by rw [cell_at (t.x.heap HBX.out.1 (fun h => h)) 1]; rfl
            have d2 : ∀ t : LaterF none' wc, t.w.cell? ⟨b, 2, none⟩ = some (.int .i64 ps) := fun t => by rw [cell_at (t.x.heap HBX.out.1 (fun h => h)) 2]; rfl
            have p0 : decide ((ps : Int) < 0) = false := by simp
            have p1 : decide (s.length < ps + tx.length) = false := by simpa using s2
            have p2 : decide ((s.length : Int) < (ps : Int) + (tx.length : Int)) = false := by simp; omega
            clear s1 s3 s4 hrt hcell hne hbB hbw b0 b1 b2
            go_wp2_with fail
            refine region_in none' wc [0, 1, 2, 3, 4, 5, 6, 7, 8, 9, 10, 11, 12, 13, 14, 15, 16, 17, 18, 19, 20, 21, 22, 23, 24, 25, 26, 27, 28, 29, 30, 31, 32, 33, 34] [] (by kernel_rfl) (by kernel_rfl) (fun dst v c a w h => by cases dst <;> exact h) (Ext.refl _ _) ?_
            simp only [sel, List.getElem?_cons_succ, List.getElem?_cons_zero]
            repeat (go_big_quiet_step (fail))
            refine wpQuiet_nil ?_
            simp only [wpChain]
            clear hcv d0 d1 d2 p0 p1 p2
            have UD := hid (U1.out.later (Ext.refl none' wc).drew)
            have HD0 := hid ((Ext.refl none' wc).drew.heap HBX.out.1 (fun h => h))
            have b2 := cell_at HD0.out 2
            simp only [List.getElem?_toArray, List.getElem?_cons_zero, List.getElem?_cons_succ] at b2
            obtain ⟨W, hW⟩ : ∃ W, W = wc.drew := ⟨_, rfl⟩
            rw [← hW] at UD HD0 b2 ⊢
            clear hW
            go_upto_region 21 with (fail)
            go_wp2_with fail
            go_loopw [11] (fun z wq => ∃ a : Nat, z = .int .i64 a ∧ ps ≤ a ∧ a ≤ ps + tx.length ∧ Hid (Used g K w2 wq fun j => ((l ++ n).take i).any (inT j) || (decide (ps ≤ j) && decide (j < a))) ∧
              Hid (wq.heap[b]? = some (.cells #[.int .i64 kd, .string ⟨tx.toArray⟩, .int .i64 ps] 29 (0, 0)))) (fun z _ => ps + tx.length - (RowKit.intOf z).toNat)
            case atStart =>
              refine ⟨ps, rfl, by omega, by omega, hid (UD.out.congr fun j _ => ?_), HD0⟩
              have : (decide (ps ≤ j) && decide (j < ps)) = false := by simp
              rw [this, Bool.or_false]
            case round =>
              obtain ⟨a, rfl, ha1, ha2, UA, HA⟩ := hrel
              have b1 := cell_at HA.out 1
              have b2 := cell_at HA.out 2
              simp only [List.getElem?_toArray, List.getElem?_cons_zero, List.getElem?_cons_succ] at b1 b2
              by_cases hlt : a < ps + tx.length
              · have hak : a < K := by have := HKS.out; omega
                have ua := UA.out.1.cellAt a (by omega)
                rw [bvals_at hak, S4.out a ha1 hlt] at ua
                have : (decide (ps ≤ a) && decide (a < a)) = false := by simp
                rw [this, Bool.or_false] at ua
                have fa := UA.out.1.frozenAt a
                have UN := hid (UA.out.set (j := a) (q := fun j => ((l ++ n).take i).any (inT j) || (decide (ps ≤ j) && decide (j < a + 1))) HN0.out (fun j _ => by
                  by_cases e : j = a
                  · subst e
                    rw [if_pos rfl]
                    simp [ha1]
                  · rw [if_neg e]
                    have : decide (j < a + 1) = decide (j < a) := by rw [Bool.eq_iff_iff]; simp; omega
                    rw [this]))
                have HN := hid (heap_setCell_other (p := ⟨g, a, none⟩) HA.out hgb (.bool true))
                clear this UA
                go_wp2_with fail
                go_roundw
                case rel => exact ⟨a + 1, by go_num, by omega, by omega, UN, HN⟩
                case measure => simp [RowKit.intOf]; omega
              · obtain rfl : a = ps + tx.length := by omega
                have N := hid (UA.out.congr (q := fun j => ((l ++ n).take (i + 1)).any (inT j)) fun j _ => by
                  rw [HAT.out, HTT.out]
                  unfold inT
                  rw [HRT.out]; rfl)
                by_cases hil : i < l.length
                · have NE : Hid (∀ j (h : j < l.length), i + 1 ≤ j → ps + tx.length ≤ (l[j]'h).pos) := hid fun j h hj => by
                    have := ST.out.ord i j (by omega) h (by
                      rw [show l[i] = (l ++ n)[i] from (List.getElem_append_left hil).symm, HTT.out]; exact HRT.out)
                    rw [show l[i] = (l ++ n)[i] from (List.getElem_append_left hil).symm, HTT.out] at this
                    exact this
                  clear UA
                  go_wp2_with fail
                  go_roundw
                  case rel => exact ⟨i + 1, ps + tx.length, by go_num, by go_num, by omega, by omega, N, NE⟩
                  case measure => simp [RowKit.intOf]; omega
                · have NE : Hid (∀ j (h : j < l.length), i + 1 ≤ j → e ≤ (l[j]'h).pos) := hid fun j h hj => by omega
                  clear UA
                  go_wp2_with fail
                  go_roundw
                  case rel => exact ⟨i + 1, e, by go_num, rfl, by omega, by omega, N, NE⟩
                  case measure => simp [RowKit.intOf]; omega
    · have hiN : i = (l ++ n).length := by rw [List.length_append]; omega
      have UF := hid (HU.out.congr (q := fun j => (l ++ n).any (inT j)) fun j _ => by rw [hiN, List.take_length])
      obtain rfl : i = l.length + n.length := by omega
      have HXW := hid (X2.out.trans HU.out.2)
      clear hiN HU
      go_wp2_with fail
      go_loop [12, 13] (fun z _ => ∃ a : Nat, z = .int .i64 a ∧ a ≤ s.length) (fun z _ => s.length - (RowKit.intOf z).toNat)
      case atStart => exact ⟨0, rfl, by omega⟩
      case round =>
        obtain ⟨k, rfl, hk⟩ := hrel
        by_cases hkl : k < s.length
        · have hne : s ≠ [] := by intro h; subst h; simp at hkl
          obtain ⟨bb, off, rfl, hbB, hbw, hcell⟩ := H4.out hne
          have ck := (HXW.out.cell (p := ⟨bb, off + k, none⟩) hbw (fun h => h)).trans (hcell k hkl)
          have c0 := (HXW.out.cell (p := ⟨bb, off + 0, none⟩) hbw (fun h => h)).trans (hcell 0 (by omega))
          rw [Nat.add_zero] at c0
          have hkK : k < K := by have := HKS.out; omega
          have uk := UF.out.1.cellAt k (by omega)
          rw [bvals_at hkK] at uk
          have HF : Hid ((l ++ n).any (inT k) = false → blankAt s k) := hid fun h => by
            rcases ST.out.full k hkl with h' | h'
            · rw [h] at h'; cases h'
            · exact h'
          obtain ⟨bu, hbu⟩ : ∃ bu, (l ++ n).any (inT k) = bu := ⟨_, rfl⟩
          rw [hbu] at uk HF
          obtain ⟨c, hc⟩ : ∃ c, s[k] = c := ⟨_, rfl⟩
          obtain ⟨d, hd⟩ : ∃ d, s[0]'(by omega) = d := ⟨_, rfl⟩
          rw [hc] at ck
          rw [hd] at c0
          have HF2 : Hid (bu = false → c = 32 ∨ c = 9 ∨ c = 13 ∨ c = 10 ∨ (k < 3 ∧ 3 ≤ s.length ∧ d = 239)) := hid fun h => by
            have := HF.out h
            unfold blankAt at this
            rw [List.getElem?_eq_getElem hkl, List.getElem?_eq_getElem (show 0 < s.length by omega), hc, hd] at this
            simpa using this
          clear hcell hbu hc hd HF hbB
          go_upto_region 32 with (fail)
          go_cut [13] from 159 to 199 (fun z wx => wx = wr ∧ ∃ bl, z = .bool bl ∧ (bu = false → bl = true))
          case first =>
            by_cases q1 : c = 32
            · subst q1
              clear HF2
              go_wp2_with fail
              go_meet
              case rel => exact ⟨rfl, _, rfl, fun _ => rfl⟩
            · have n1 : ((c.toNat : Int) == 32) = false := by have := u8n q1; simp at this ⊢; omega
              by_cases q2 : c = 9
              · subst q2
                clear HF2
                go_wp2_with fail
                go_meet
                case rel => exact ⟨rfl, _, rfl, fun _ => rfl⟩
              · have n2 : ((c.toNat : Int) == 9) = false := by have := u8n q2; simp at this ⊢; omega
                by_cases q3 : c = 13
                · subst q3
                  clear HF2
                  go_wp2_with fail
                  go_meet
                  case rel => exact ⟨rfl, _, rfl, fun _ => rfl⟩
                · have n3 : ((c.toNat : Int) == 13) = false := by have := u8n q3; simp at this ⊢; omega
                  by_cases q4 : c = 10
                  · subst q4
                    clear HF2
                    go_wp2_with fail
                    go_meet
                    case rel => exact ⟨rfl, _, rfl, fun _ => rfl⟩
                  · have n4 : ((c.toNat : Int) == 10) = false := by have := u8n q4; simp at this ⊢; omega
                    have HF3 : Hid (bu = false → (k < 3 ∧ 3 ≤ s.length ∧ d = 239)) := hid fun h => by
                      rcases HF2.out h with h | h | h | h | h
                      · exact absurd h q1
                      · exact absurd h q2
                      · exact absurd h q3
                      · exact absurd h q4
                      · exact h
                    clear HF2 q1 q2 q3 q4
                    by_cases k3 : k < 3
                    · by_cases l3 : 3 ≤ s.length
                      · by_cases d3 : d = 239
                        · subst d3
                          clear HF3
                          go_wp2_with fail
                          go_meet
                          case rel => exact ⟨rfl, _, rfl, fun _ => rfl⟩
                        · have n5 : ((d.toNat : Int) == 239) = false := by have := u8n d3; simp at this ⊢; omega
                          have HG2 : Hid (bu = false → False) := hid fun h => d3 (HF3.out h).2.2
                          clear HF3 d3
                          go_wp2_with fail
                          go_meet
                          case rel => exact ⟨rfl, _, rfl, fun h => (HG2.out h).elim⟩
                      · have HG2 : Hid (bu = false → False) := hid fun h => l3 (HF3.out h).2.1
                        clear HF3
                        go_wp2_with fail
                        go_meet
                        case rel => exact ⟨rfl, _, rfl, fun h => (HG2.out h).elim⟩
                    · have HG2 : Hid (bu = false → False) := hid fun h => k3 (HF3.out h).1
                      clear HF3
                      go_wp2_with fail
                      go_meet
                      case rel => exact ⟨rfl, _, rfl, fun h => (HG2.out h).elim⟩
          case rest =>
            obtain ⟨rfl, bl, rfl, hbl⟩ := hcut
            cases bu with
            | true =>
              clear hbl
              go_wp2_with fail
              go_round
              case rel => exact ⟨k + 1, by go_num, by omega⟩
              case measure => simp [RowKit.intOf]; omega
            | false =>
              obtain rfl := hbl rfl
              clear hbl
              go_wp2_with fail
              go_round
              case rel => exact ⟨k + 1, by go_num, by omega⟩
              case measure => simp [RowKit.intOf]; omega
        · go_wp2_with fail
          refine (AW.out _ HXW.out).mono ?_
          rintro e w5 ⟨rfl, X5⟩
          have X5 := hid (HXW.out.trans X5)
          go_wp2_with fail
          go_ret
          exact ⟨rfl, X5.out⟩
theorem law_stands (s : List UInt8) (v : Value) (w : World) (hv : Bytes w.heap.size w v s) (hT : Tabs w) (hm : MaxL w) (hs : s.length ≤ 1000) : Calls Tryd.prog 6 #[v] w (TruePost w) := by
  cases hr : scanR s with
  | good l n => exact law_stands_good s v w hv hT hm hs l n hr
  | bad p c => exact law_stands_bad s v w hv hT hm hs p c hr
end Go.Proofs.YtokjnalmjdighaaDoor
