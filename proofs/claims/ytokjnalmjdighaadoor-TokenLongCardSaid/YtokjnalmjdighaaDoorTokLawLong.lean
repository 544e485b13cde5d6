import Derived.Test.YtokjnalmjdighaaDoorTokAwake
import Derived.Test.YtokjnalmjdighaaDoorTokStp
namespace Go.Proofs.YtokjnalmjdighaaDoor
open Go.RowKit Go.Lib Go.BigFrame
/-! ### plain -/
theorem wrR_ascii : ∀ (n : Nat) (s : List UInt8) (i : Nat), s.length ≤ n → (∀ c ∈ s, 0 < c.toNat ∧ c.toNat < 128) → wrR s i = -1
  | n, s, i, hn, h => by
    by_cases hs : s = []
    · subst hs; exact wrR_nil i
    · rw [wrR_step s i hs]
      cases s with
      | nil => exact absurd rfl hs
      | cons c t =>
        have hc := h c (by simp)
        have hd : decodeL (c :: t) = (c.toNat, 1) := by rw [decodeL_N]; exact decodeN_low _ _ _ _ _ hc.2
        rw [hd]
        have hh : ¬ halts (c.toNat, 1) i := by
          unfold halts
          simp only [Prod.mk.injEq]
          omega
        rw [if_neg hh]
        match n, hn with
        | 0, hn => simp at hn
        | n + 1, hn => exact wrR_ascii n _ _ (by simpa using hn) (fun d hd => h d (by simp at hd ⊢; exact .inr hd))
theorem words_short : ∀ t ∈ words1 ++ words2, t.length ≤ 20 := by decide
theorem wordK_long {t : List UInt8} (h : 20 < t.length) : wordK t = 0 := by
  have n : t ∉ words1 ++ words2 := fun hm => by have := words_short t hm; omega
  rw [List.mem_append, not_or] at n
  unfold wordK
  rw [if_neg n.1, if_neg n.2]
theorem idLen_rep : ∀ m : Nat, idLen (List.replicate m 97) = m
  | 0 => rfl
  | m + 1 => by
    unfold idLen
    rw [List.replicate_succ, List.takeWhile_cons]
    have : idB 97 = true := by decide
    rw [this]
    simp only [if_true, List.length_cons]
    have := idLen_rep m
    unfold idLen at this
    rw [this]
theorem scan_rep (k : Nat) (h : 30 ≤ k) (hk : k ≤ 65536) : (scanR (List.replicate k 97)).toks.length = 2 := by
  have hl : (List.replicate k (97 : UInt8)).length = k := List.length_replicate
  have hw : wrongP (List.replicate k 97) = -1 := wrR_ascii k _ 0 (by rw [hl]; exact Nat.le_refl _) (fun c hc => by rw [List.eq_of_mem_replicate hc]; decide)
  have hst : stepP (List.replicate k 97) 0 [] [] = some (k, [⟨1, List.replicate k 97, 0⟩], []) := by
    obtain ⟨j, rfl⟩ : ∃ j, k = j + 3 := ⟨k - 3, by omega⟩
    have hid := idLen_rep (j + 3)
    have hwk : wordK (List.replicate (j + 3) 97) = 0 := wordK_long (by rw [hl]; omega)
    unfold stepP
    simp only [List.drop_zero]
    have e : List.replicate (j + 3) (97 : UInt8) = 97 :: 97 :: 97 :: List.replicate j 97 := rfl
    have hh : (List.replicate (j + 3) (97 : UInt8)).head? = some 97 := by rw [e]; rfl
    have h3 : ¬ (True ∧ (List.replicate (j + 3) (97 : UInt8)).take 3 = [239, 187, 191]) := by rw [e]; simp
    have hn : noteP (List.replicate (j + 3) (97 : UInt8)) = .none := by rw [e]; simp [noteP]
    have hL : letterB (UInt8.toNat 97) = true := by decide
    rw [hh]
    simp only [true_and] at h3 ⊢
    rw [if_neg h3, if_neg (by decide), if_neg (by decide), hn]
    simp only
    rw [if_pos hL, hid, List.take_of_length_le (by rw [hl]; exact Nat.le_refl _), hwk]
    simp
  have hr : runR (List.replicate k 97) = .good [⟨1, List.replicate k 97, 0⟩, ⟨6, [10], k⟩] [] := by
    unfold runR
    rw [runP_step (by rw [hl]; omega) (by omega), hst]
    simp only
    rw [runP_end (by rw [hl]; exact Nat.le_refl _), hl]
    simp [lineP, endsP, endsT]
  unfold scanR
  rw [if_neg (by rw [hl]; omega), if_neg (by rw [hw]; omega), hr]
  rfl
theorem scan_err {s : List UInt8} (h : s.length ≤ 65536) : (scanR s).err ≠ 12 := by
  cases hr : scanR s with
  | good l n => simp [ScR.err]
  | bad p c =>
    show c ≠ 12
    unfold scanR at hr
    rw [if_neg (by omega)] at hr
    split at hr
    · injection hr with _ h2; omega
    · unfold runR at hr
      split at hr
      · injection hr with _ h2; omega
      · cases hr
/-! ### the walk -/
/-- What the loop keeps: the row's first i bytes are c. -/
def LgRel (g K : Nat) (c : UInt8) (w wr : World) (i : Nat) : Prop :=
  ∃ xs, wr.ownsRow g 5 1 (.slice (some ⟨g, 0, none⟩) K K) K xs ∧ Ext none' w wr ∧ ∀ j, j < i → xs[j]? = some (.int .u8 (c.toNat : Nat))
set_option maxRecDepth 100000 in
set_option maxHeartbeats 1600000 in
theorem law_long (n : Nat) (c : UInt8) (w : World) (hn : n < 65536) (hT : Tabs w) (hm : MaxL w) : Calls Tryd.prog 7 #[.int .u16 n, .int .u8 (c.toNat : Nat)] w (TruePost w) := by
  have AW := hid fun w' (x : Ext none' w w') => awake_any w' (hT.ext x) (hm.ext x (fun h => h))
  have HT := hid hT
  have HM := hid hm
  clear hT hm
  obtain ⟨K, hK⟩ : ∃ K, K = 65530 + n % 12 := ⟨_, rfl⟩
  have hKi : (65530 + (n : Int) % 12) = (K : Nat) := by omega
  have HKI := hid hKi
  have hK1 : 65530 ≤ K := by omega
  have hK2 : K ≤ 65541 := by omega
  clear hK hKi
  go_enter Tryd.func7, Tryd.ntmps7
  obtain ⟨i0, hi, hz0, hz1, hz2⟩ : ∃ i0, Tryd.prog.info? 5 = some i0 ∧ i0.zero = some (.int .u8 0) ∧ i0.size = 1 ∧ i0.bytes = 1 := ⟨_, rfl, rfl, rfl, rfl⟩
  obtain ⟨w1, hrun, own1, grow1⟩ := run_make_full (P := Tryd.prog) w w.heap.size 22 5 i0 _ 1 Tryd.underlying22 hi hz0 hz1 .i64 .i64 K (by rw [hz2]; omega) (by unfold maxLen; omega) (Nat.le_refl _)
  rw [← HKI.out] at hrun
  have X1 : Ext none' w w1 := (Ext.refl none' w).grown grow1 (fun k hk => by cases hk)
  have HO := hid own1
  have HX := hid X1
  clear hi hz0 hz1 hz2 own1 grow1 X1
  go_wp2_with fail
  rw [HKI.out]
  clear hrun
  obtain ⟨g, hg⟩ : ∃ g, g = w.heap.size := ⟨_, rfl⟩
  rw [← hg] at HO ⊢
  have HG := hid hg
  clear hg
  go_loopw [7] (fun z wr => ∃ (i : Nat), z = .int .i64 i ∧ i ≤ K ∧ LgRel g K c w wr i) (fun z _ => K - (RowKit.intOf z).toNat)
  case atStart => exact ⟨0, rfl, by omega, _, HO.out, HX.out, fun j hj => by omega⟩
  case round =>
    obtain ⟨i, rfl, hle, xs, own, x, hxs⟩ := hrel
    by_cases hi : i < K
    · have ci := own.cellAt i (by omega)
      have fi := own.frozenAt i
      have hxl : xs.length = K := by have := own.1; omega
      rw [List.getElem?_eq_getElem (by omega)] at ci
      obtain ⟨u, hu⟩ : ∃ u, xs[i]'(by omega) = u := ⟨_, rfl⟩
      rw [hu] at ci
      have N := hid (show LgRel g K c w (wr.setCell ⟨g, i, none⟩ (.int .u8 (c.toNat : Nat))) (i + 1) from
        ⟨_, (own.stored i (.int .u8 (c.toNat : Nat))).1, x.setNew (by rw [HG.out]; exact Nat.le_refl _) i _, fun j hj => by
          by_cases e : j = i
          · subst e; rw [List.getElem?_set_self (by omega)]
          · rw [List.getElem?_set_ne (fun h => e h.symm)]; exact hxs j (by omega)⟩)
      clear own x hxs hu hxl
      go_wp2_with fail
      go_roundw
      case rel => exact ⟨i + 1, by go_num, by omega, N.out⟩
      case measure => simp [RowKit.intOf]; omega
    · obtain rfl : i = K := by omega
      have hxl : xs.length = i := by have := own.1; omega
      have hxv : xs = byteVals (List.replicate i c) := by
        apply List.ext_getElem?
        intro j
        by_cases hj : j < i
        · rw [hxs j hj]; simp [byteVals, hj]
        · rw [List.getElem?_eq_none (by omega), List.getElem?_eq_none (by simp [byteVals]; omega)]
      rw [hxv] at own
      have hll : (List.replicate i c).length = i := List.length_replicate
      have hb : Bytes wr.heap.size wr (.slice (some ⟨g, 0, none⟩) i i) (List.replicate i c) := by
        refine Bytes.of_owns (base := g) (e := 5) ?_
        rw [hll]; exact own
      have SC := hid (Scan_any _ _ _ wr hb (HT.out.ext x) (HM.out.ext x (fun h => h)) (by rw [hll]; omega))
      have NC := hid fun w' (y : Ext none' wr w') => Notes_any _ _ _ w' (hb.keep y) (HT.out.ext (x.trans y)) (HM.out.ext (x.trans y) (fun h => h)) (by rw [hll]; omega)
      have XR := hid x
      obtain ⟨r, hr⟩ : ∃ r, r = scanR (List.replicate i c) := ⟨_, rfl⟩
      rw [← hr] at SC NC
      clear own x hxs hxv hb hxl
      by_cases hbig : 65536 < i
      · have hrr : r = .bad 65536 12 := by rw [hr]; unfold scanR; rw [if_pos (by rw [hll]; exact hbig)]
        rw [hrr] at SC NC
        clear hr hrr hll
        go_wp2_with fail
        refine SC.out.mono ?_
        rintro e w2 ⟨v, rfl, ⟨a, cc, rfl, hT⟩, X2⟩
        rw [show (ScR.bad 65536 12).err = 12 from rfl, show (ScR.bad 65536 12).pos = 65536 from rfl, show (ScR.bad 65536 12).toks = [] from rfl]
        have X2 := hid X2
        clear hT
        go_wp2_with fail
        refine (NC.out _ X2.out).mono ?_
        rintro e w3 ⟨v, rfl, ⟨a2, cc2, rfl, hT⟩, X3⟩
        rw [show (ScR.bad 65536 12).notes = [] from rfl]
        have X3 := hid ((XR.out.trans X2.out).trans X3)
        clear hT
        go_wp2_with fail
        refine (AW.out _ X3.out).mono ?_
        rintro e w4 ⟨rfl, X4⟩
        have X4 := hid (X3.out.trans X4)
        go_wp2_with fail
        go_ret
        exact ⟨rfl, X4.out⟩
      · have he := scan_err (s := List.replicate i c) (by rw [hll]; omega)
        rw [← hr] at he
        have hc97 : c.toNat ≠ 97 ∨ r.toks.length = 2 := by
          by_cases e : c = 97
          · right; rw [hr, e]; exact scan_rep i (by omega) (by omega)
          · left; intro h; exact e (UInt8.toNat_inj.1 h)
        obtain ⟨er, her⟩ : ∃ er, r.err = er := ⟨_, rfl⟩
        obtain ⟨po, hpo⟩ : ∃ po, r.pos = po := ⟨_, rfl⟩
        obtain ⟨tl, htl⟩ : ∃ tl, r.toks = tl := ⟨_, rfl⟩
        rw [her] at he
        rw [htl] at hc97
        obtain ⟨m, hm⟩ : ∃ m, tl.length = m := ⟨_, rfl⟩
        rw [hm] at hc97
        obtain ⟨x, hx⟩ : ∃ x, c.toNat = x := ⟨_, rfl⟩
        rw [hx] at hc97 ⊢
        have e12 : ((er : Int) != 12) = true := by simp; omega
        have HA := hid her
        have HB := hid hpo
        have HC := hid htl
        have HD := hid hm
        clear hr hll he her hpo htl hm hx NC
        by_cases hx97 : x = 97
        · have hm2 : m = 2 := hc97.resolve_left (fun h => h hx97)
          subst hx97 hm2
          go_wp2_with fail
          refine SC.out.mono ?_
          rintro e w2 ⟨v, rfl, ⟨a, cc, rfl, hT⟩, X2⟩
          rw [HA.out, HB.out, HC.out, HD.out]
          have X2 := hid (XR.out.trans X2)
          clear hT
          go_wp2_with fail
          refine (AW.out _ X2.out).mono ?_
          rintro e w4 ⟨rfl, X4⟩
          have X4 := hid (X2.out.trans X4)
          go_wp2_with fail
          go_ret
          exact ⟨rfl, X4.out⟩
        · have e97 : ((x : Int) != 97) = true := by simp; omega
          clear hc97 hx97
          go_wp2_with fail
          refine SC.out.mono ?_
          rintro e w2 ⟨v, rfl, ⟨a, cc, rfl, hT⟩, X2⟩
          rw [HA.out, HB.out, HC.out, HD.out]
          have X2 := hid (XR.out.trans X2)
          clear hT
          go_wp2_with fail
          refine (AW.out _ X2.out).mono ?_
          rintro e w4 ⟨rfl, X4⟩
          have X4 := hid (X2.out.trans X4)
          go_wp2_with fail
          go_ret
          exact ⟨rfl, X4.out⟩
end Go.Proofs.YtokjnalmjdighaaDoor
