import Derived.Test.YtokjnalmjdighaaDoorTokAwake
import Derived.Test.YtokjnalmjdighaaDoorTokRScan2
import Derived.Test.YtokjnalmjdighaaDoorAppend
namespace Go.Proofs.YtokjnalmjdighaaDoor
open Go.RowKit Go.Lib Go.BigFrame
set_option maxRecDepth 100000 in
theorem law_scans_long (aa : Option Addr) (len cap : Nat) (w : World) (h : 1000 < len) (hm : len ≤ 9223372036854775807) : Calls Tryd.prog 5 #[.slice aa len cap] w (TruePost w) := by
  go_enter Tryd.func5, Tryd.ntmps5
  go_wp2
  go_ret
  exact ⟨rfl, Ext.refl _ _⟩
theorem rscan_all (B : Nat) (s : List UInt8) (v : Value) (w : World) (hv : Bytes B w v s) (hs : s.length ≤ 1000000) : Calls Tryd.prog 12 #[v] w (RScanPost w (scanR s)) := by
  by_cases h : 65536 < s.length ∨ 0 ≤ wrongP s
  · exact rscan_early B s v w hv hs h
  · have e : scanR s = runR s := by
      unfold scanR
      rw [if_neg (fun e => h (.inl e)), if_neg (fun e => h (.inr e))]
    rw [e]
    exact rscan_main B s v w hv (by omega) (by omega)
set_option maxRecDepth 100000 in
set_option maxHeartbeats 1600000 in
theorem told_any (lo1 lo2 : Nat) (l : List Tok) (v u : Value) (w : World) (hv : Toks lo1 w v l) (hu : Toks lo2 w u l) (hl : l.length ≤ 100000) : Calls Tryd.prog 13 #[v, u] w (TruePost w) := by
  obtain ⟨a1, c1, rfl, T1⟩ := hv
  obtain ⟨a2, c2, rfl, T2⟩ := hu
  have HT1 := hid T1
  have HT2 := hid T2
  clear T1 T2
  go_enter Tryd.func13, Tryd.ntmps13
  go_wp2_with fail
  go_loopw [5] (fun z wr => ∃ a : Nat, z = .int .i64 a ∧ a ≤ l.length ∧ Hid (Ext none' w wr)) (fun z _ => l.length - (RowKit.intOf z).toNat)
  case atStart => exact ⟨0, rfl, by omega, hid (Ext.refl _ _)⟩
  case round =>
    obtain ⟨a, rfl, ha, HQ⟩ := hrel
    by_cases hal : a < l.length
    · obtain ⟨g1, rfl, _, hg1, hc1⟩ := HT1.out (by intro e; subst e; simp at hal)
      obtain ⟨g2, rfl, _, hg2, hc2⟩ := HT2.out (by intro e; subst e; simp at hal)
      have d0 : ∀ t : LaterF none' wr, t.w.cell? ⟨g1, a * 3, none⟩ = some (.int .i64 (l[a]'hal).kind) := fun t => ((HQ.out.trans t.x).cell (p := ⟨g1, a * 3, none⟩) hg1 (fun h => h)).trans (hc1 a hal).1
      have d1 : ∀ t : LaterF none' wr, t.w.cell? ⟨g1, a * 3 + 1, none⟩ = some (.string ⟨(l[a]'hal).text.toArray⟩) := fun t => ((HQ.out.trans t.x).cell (p := ⟨g1, a * 3 + 1, none⟩) hg1 (fun h => h)).trans (hc1 a hal).2.1
      have d2 : ∀ t : LaterF none' wr, t.w.cell? ⟨g1, a * 3 + 2, none⟩ = some (.int .i64 (l[a]'hal).pos) := fun t => ((HQ.out.trans t.x).cell (p := ⟨g1, a * 3 + 2, none⟩) hg1 (fun h => h)).trans (hc1 a hal).2.2
      have e0 : ∀ t : LaterF none' wr, t.w.cell? ⟨g2, a * 3, none⟩ = some (.int .i64 (l[a]'hal).kind) := fun t => ((HQ.out.trans t.x).cell (p := ⟨g2, a * 3, none⟩) hg2 (fun h => h)).trans (hc2 a hal).1
      have e1 : ∀ t : LaterF none' wr, t.w.cell? ⟨g2, a * 3 + 1, none⟩ = some (.string ⟨(l[a]'hal).text.toArray⟩) := fun t => ((HQ.out.trans t.x).cell (p := ⟨g2, a * 3 + 1, none⟩) hg2 (fun h => h)).trans (hc2 a hal).2.1
      have e2 : ∀ t : LaterF none' wr, t.w.cell? ⟨g2, a * 3 + 2, none⟩ = some (.int .i64 (l[a]'hal).pos) := fun t => ((HQ.out.trans t.x).cell (p := ⟨g2, a * 3 + 2, none⟩) hg2 (fun h => h)).trans (hc2 a hal).2.2
      obtain ⟨kd, hkd⟩ : ∃ kd, (l[a]'hal).kind = kd := ⟨_, rfl⟩
      obtain ⟨tx, htx⟩ : ∃ tx, (l[a]'hal).text = tx := ⟨_, rfl⟩
      obtain ⟨ps, hps⟩ : ∃ ps, (l[a]'hal).pos = ps := ⟨_, rfl⟩
      simp only [hkd, htx, hps] at d0 d1 d2 e0 e1 e2
      have hXW := hid (HQ.out.drew)
      clear hc1 hc2 hkd htx hps hg1 hg2 HQ
      go_wp2_with fail
      refine region_in none' wr [0, 1, 2, 3, 4, 5, 6, 7, 8, 9, 10, 11, 12, 13, 14, 15, 16, 17, 18, 19, 20] [] (by kernel_rfl) (by kernel_rfl) (fun dst v c a w h => by cases dst <;> exact h) (Ext.refl _ _) ?_
      simp only [sel, List.getElem?_cons_succ, List.getElem?_cons_zero]
      repeat (go_big_quiet_step (fail))
      refine wpQuiet_nil ?_
      simp only [wpChain]
      clear d0 d1 d2 e0 e1 e2
      go_wp2_with fail
      go_roundw
      case rel => exact ⟨a + 1, by go_num, by omega, hXW⟩
      case measure => simp [RowKit.intOf]; omega
    · go_wp2_with fail
      go_ret
      exact ⟨rfl, HQ.out⟩
theorem scanR_le {s : List UInt8} (hs : s.length ≤ 1000) : (scanR s).toks.length ≤ 100000 ∧ (scanR s).notes.length ≤ 100000 := by
  cases hr : scanR s with
  | bad p c => exact ⟨Nat.zero_le _, Nat.zero_le _⟩
  | good l n =>
    obtain ⟨l1, I, rfl⟩ := scanR_ind (fun k l n => Inv s k l n) (Inv.start s) (fun _ _ _ _ _ _ hk hQ hst _ => Inv.stp hk hQ hst) hr
    have := I.ll
    have := I.nl
    have := lineP_len' l1 s.length
    simp only [ScR.toks, ScR.notes]
    omega
set_option maxRecDepth 100000 in
set_option maxHeartbeats 3200000 in
theorem law_scans (s : List UInt8) (v : Value) (w : World) (hv : Bytes w.heap.size w v s) (hT : Tabs w) (hm : MaxL w) (hs : s.length ≤ 1000) : Calls Tryd.prog 5 #[v] w (TruePost w) := by
  have AW := hid fun w' (x : Ext none' w w') => awake_any w' (hT.ext x) (hm.ext x (fun h => h))
  have NC := hid fun w' (x : Ext none' w w') => Notes_any _ s v w' (hv.keep x) (hT.ext x) (hm.ext x (fun h => h)) (by omega)
  have RC := hid fun w' (x : Ext none' w w') => rscan_all _ s v w' (hv.keep x) (by omega)
  have SC := hid fun w' u (x : Ext none' w w') (h : Bytes w'.heap.size w' u s) => Scan_any _ s u w' h (hT.ext x) (hm.ext x (fun h => h)) (by omega)
  have HV := hid hv
  have TC := hid fun lo1 lo2 l v u w' h1 h2 h3 => told_any lo1 lo2 l v u w' h1 h2 h3
  obtain ⟨hl1, hl2⟩ := scanR_le hs
  obtain ⟨r, hr⟩ : ∃ r, r = scanR s := ⟨_, rfl⟩
  rw [← hr] at NC RC SC hl1 hl2
  obtain ⟨aa, cap, rfl, h1, h2, h3, h4⟩ := hv
  clear h3 h4 hT hm hr
  obtain ⟨i0, hi, hz0, hz1, hz2⟩ : ∃ i0, Tryd.prog.info? 5 = some i0 ∧ i0.zero = some (.int .u8 0) ∧ i0.size = 1 ∧ i0.bytes = 1 := ⟨_, rfl, rfl, rfl, rfl⟩
  have I0 := hid hi
  have I1 := hid hz0
  have I2 := hid hz1
  have I3 := hid hz2
  clear hi hz0 hz1 hz2
  have E0 : Ext none' w (w.alloc (.cells #[] 5)) := (Ext.refl _ _).alloc _
  have own0 : (w.alloc (.cells #[] 5)).ownsRow w.heap.size 5 1 (.slice (some ⟨w.heap.size, 0, none⟩) 0 0) 0 [] := World.ownsRow_lit w #[] 0 (Nat.le_refl _) (by decide) rfl
  have O0 := hid own0
  have S0 := hid (Src.bytes Tryd.underlying22 (HV.out.keep E0))
  have EE := hid E0
  obtain ⟨tk, htk⟩ : ∃ tk, r.toks = tk := ⟨_, rfl⟩
  obtain ⟨nt, hnt⟩ : ∃ nt, r.notes = nt := ⟨_, rfl⟩
  obtain ⟨ps, hps⟩ : ∃ ps, r.pos = ps := ⟨_, rfl⟩
  obtain ⟨er, her⟩ : ∃ er, r.err = er := ⟨_, rfl⟩
  rw [htk] at hl1
  rw [hnt] at hl2
  have HK := hid htk
  have HN := hid hnt
  have HP := hid hps
  have HE := hid her
  clear own0 E0 htk hnt hps her
  go_enter Tryd.func5, Tryd.ntmps5
  go_wp2_with (at_builtin; refine wpList_app _ rfl (.tmp 14) (.tmp 15) 22 22 rfl w.heap.size 5 i0 (.int .u8 0) 1 1 Tryd.underlying22 I0.out I1.out I2.out I3.out rfl _ 0 [] rfl O0.out _ s.length (byteVals s) rfl S0.out ?_ ?_ ?_ ?_)
  · unfold maxLen; omega
  · omega
  · simp
  intro v1 w1 own1 grow1 blk1 _
  have X1 : Ext none' w w1 := EE.out.grown grow1 (fun k hk => .inr (by simp [Value.ownBlock] at hk; omega))
  have BB := hid (Bytes.of_owns own1)
  have X1 := hid X1
  clear own1 grow1 blk1
  go_wp2_with fail
  refine (SC.out _ _ X1.out BB.out).mono ?_
  rintro e w2 ⟨v2, rfl, T2, X2⟩
  rw [HP.out, HE.out]
  rw [HK.out] at T2
  have X2 := hid (X1.out.trans X2)
  have T2 := hid T2
  go_wp2_with fail
  refine (RC.out _ X2.out).mono ?_
  rintro e w3 ⟨v3, u3, rfl, T3, U3, X3⟩
  rw [HP.out, HE.out]
  rw [HK.out] at T3
  rw [HN.out] at U3
  have T2 := hid (T2.out.keep X3)
  have X3 := hid (X2.out.trans X3)
  have T3 := hid T3
  have U3 := hid U3
  go_wp2_with fail
  refine (TC.out _ _ _ _ _ _ T2.out T3.out hl1).mono ?_
  rintro e w4 ⟨rfl, X4⟩
  have U4 := hid (U3.out.keep X4)
  have X4 := hid (X3.out.trans X4)
  go_wp2_with fail
  refine (NC.out _ X4.out).mono ?_
  rintro e w5 ⟨v5, rfl, T5, X5⟩
  rw [HN.out] at T5
  have U5 := hid (U4.out.keep X5)
  have T5 := hid T5
  have X5 := hid (X4.out.trans X5)
  go_wp2_with fail
  refine (TC.out _ _ _ _ _ _ T5.out U5.out hl2).mono ?_
  rintro e w6 ⟨rfl, X6⟩
  have X6 := hid (X5.out.trans X6)
  go_wp2_with fail
  refine (AW.out _ X6.out).mono ?_
  rintro e w7 ⟨rfl, X7⟩
  have X7 := hid (X6.out.trans X7)
  go_wp2_with fail
  go_ret
  exact ⟨rfl, X7.out⟩
end Go.Proofs.YtokjnalmjdighaaDoor
