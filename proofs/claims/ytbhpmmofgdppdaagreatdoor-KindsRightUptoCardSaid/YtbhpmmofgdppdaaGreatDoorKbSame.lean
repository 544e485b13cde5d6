import Derived.Test.YtbhpmmofgdppdaaGreatDoorKbP
import Derived.Test.YtbhpmmofgdppdaaGreatDoorZAv
/-
  demoticref06.Same: are two nodes, to a depth?
-/
namespace Go.Proofs.YtbhpmmofgdppdaaGreatDoor
open Go.RowKit Go.Lib Go.BigFrame
set_option maxRecDepth 100000 in
set_option maxHeartbeats 1600000 in
theorem nsame_any : ∀ (f : Nat), f ≤ 100000 → ∀ (a b : Nd), a.size ≤ bigD → b.size ≤ bigD → ∀ (v u : Value) (w : World), NdV none' w a v → NdV none' w b u → Calls Tryz.prog 28 #[v, u, .int .i64 (f : Nat)] w (BoolP (sameN f a b) w) := by
  intro f
  induction f with
  | zero =>
    intro _ a b _ _ v u w hv hu
    obtain ⟨x, rfl, hx⟩ := hv
    obtain ⟨y, rfl, hy⟩ := hu
    obtain ⟨a1, cap1, rfl, _⟩ := hx
    obtain ⟨a2, cap2, rfl, _⟩ := hy
    go_enter Tryz.func28, Tryz.ntmps28
    go_wp2_with fail
    all_goals
      go_ret
      exact ⟨rfl, ((Ext.refl _ _).alloc _).alloc _⟩
  | succ f ih =>
    intro hf a b ha hbs v u w hv hu
    have hal : a.kids.length ≤ bigD := by have := a.kids_len; omega
    have hbl : b.kids.length ≤ bigD := by have := b.kids_len; omega
    obtain ⟨x, rfl, hx⟩ := hv
    obtain ⟨y, rfl, hy⟩ := hu
    have HX := hid hx
    have HY := hid hy
    obtain ⟨a1, cap1, rfl, _⟩ := hx
    obtain ⟨a2, cap2, rfl, _⟩ := hy
    have HIH := hid (ih (by omega))
    have HAS := hid fun (i : Nat) (h : i < a.kids.length) => (show a.kids[i].size ≤ bigD from by have := Nd.size_kid (List.getElem_mem h); omega)
    have HBS := hid fun (i : Nat) (h : i < b.kids.length) => (show b.kids[i].size ≤ bigD from by have := Nd.size_kid (List.getElem_mem h); omega)
    obtain ⟨r, hr⟩ : ∃ r, r = sameN (f + 1) a b := ⟨_, rfl⟩
    rw [← hr]
    rw [sameN] at hr
    have hz : (((f + 1 : Nat) : Int) == 0) = false := by simp only [beq_eq_false_iff_ne]; omega
    have hs : ((f + 1 : Nat) : Int) - 1 = (f : Int) := by omega
    obtain ⟨F, hF⟩ : ∃ F : Int, F = ((f + 1 : Nat) : Int) := ⟨_, rfl⟩
    have hFb : F ≤ 100000 ∧ 1 ≤ F := by omega
    rw [← hF] at hz hs ⊢
    unfold bigD at hal hbl
    clear ih ha hf hbs hF
    by_cases hk : a.kind = b.kind
    · have q1 : (a.kind == b.kind) = true := by simpa using hk
      have q1' : (a.kind != b.kind) = false := by simpa using hk
      by_cases hn : a.text = b.text
      · have q2 : (a.text == b.text) = true := by simpa using hn
        have q2' : (a.text != b.text) = false := by simpa using hn
        rw [q1, q2, Bool.true_and, Bool.true_and] at hr
        by_cases hlen : a.kids.length = b.kids.length
        · have q3 : ((a.kids.length : Int) != (b.kids.length : Int)) = false := by simp only [bne_eq_false_iff_eq]; omega
          have HR := hid hr
          have HL := hid hlen
          rw [← hlen] at HY
          rw [← hk, ← hn, ← hlen]
          obtain ⟨B, hB⟩ : ∃ B, B = w.heap.size := ⟨_, rfl⟩
          obtain ⟨W1, hW1⟩ : ∃ W1, W1 = (w.alloc (.cells #[.int .i64 a.kind, .string ⟨a.text.toArray⟩, .slice a1 a.kids.length cap1, .int .i64 a.pos] 49)).alloc (.cells #[.int .i64 a.kind, .string ⟨a.text.toArray⟩, .slice a2 a.kids.length cap2, .int .i64 b.pos] 49) := ⟨_, rfl⟩
          have X1 := hid (show Ext none' w W1 by rw [hW1]; exact ((Ext.refl _ _).alloc _).alloc _)
          have G0 := hid (show W1.heap[B]? = some (.cells #[.int .i64 a.kind, .string ⟨a.text.toArray⟩, .slice a1 a.kids.length cap1, .int .i64 a.pos] 49 (0, 0)) by rw [hW1]; exact heap_alloc_keep (heap_alloc_at hB _) _)
          have G1 := hid (show W1.heap[B + 1]? = some (.cells #[.int .i64 a.kind, .string ⟨a.text.toArray⟩, .slice a2 a.kids.length cap2, .int .i64 b.pos] 49 (0, 0)) by rw [hW1]; exact heap_alloc_at (by rw [hB]; simp) _)
          clear hr hlen hk hn q1 q2 q1' q2' hbl
          go_enter Tryz.func28, Tryz.ntmps28
          go_wp2_with fail
          rw [← hW1, ← hB]
          clear hB hW1
          go_loopw [7] (fun z wr => ∃ (i : Nat), z = .int .i64 (i : Nat) ∧ i ≤ a.kids.length ∧ Hid (Ext none' W1 wr ∧ ∀ j (h1 : j < a.kids.length) (h2 : j < b.kids.length), j < i → sameN f a.kids[j] b.kids[j] = true)) (fun z _ => a.kids.length - (RowKit.intOf z).toNat)
          case atStart => exact ⟨0, rfl, by omega, hid ⟨Ext.refl _ _, fun j _ _ h => by omega⟩⟩
          case round =>
            obtain ⟨i, rfl, hle, RR⟩ := hrel
            have HRX := hid RR.out.1
            have HRY := hid RR.out.2
            clear RR
            have s2 := cell_at (HRX.out.heap G0.out fun h => h) 2
            have s3 := cell_at (HRX.out.heap G1.out fun h => h) 2
            simp only [List.getElem?_toArray, List.getElem?_cons_zero, List.getElem?_cons_succ] at s2 s3
            by_cases hi : i < a.kids.length
            · have hib : i < b.kids.length := by have := HL.out; omega
              go_upto_region 6 with (fail)
              obtain ⟨b1, o1, cs1, rfl, _, hw1, hcc1, ht1⟩ := (HX.out.ext isNd_good (X1.out.trans HRX.out) fun _ _ h => h.elim).at i hi
              obtain ⟨b2, o2, cs2, rfl, _, hw2, hcc2, ht2⟩ := (HY.out.ext isNd_good (X1.out.trans HRX.out) fun _ _ h => h.elim).at i hib
              obtain ⟨x1, rfl, hx1⟩ := ht1.parts
              obtain ⟨x2, rfl, hx2⟩ := ht2.parts
              have HX1 := hid hx1
              have HX2 := hid hx2
              obtain ⟨a3, cap3, rfl, _⟩ := hx1
              obtain ⟨a4, cap4, rfl, _⟩ := hx2
              have C1 := hid fun W (X : Ext none' wr W) => HIH.out a.kids[i] b.kids[i] (HAS.out i hi) (HBS.out i hib) (.agg #[.int .i64 a.kids[i].kind, .string ⟨a.kids[i].text.toArray⟩, .slice a3 a.kids[i].kids.length cap3, .int .i64 a.kids[i].pos]) (.agg #[.int .i64 b.kids[i].kind, .string ⟨b.kids[i].text.toArray⟩, .slice a4 b.kids[i].kids.length cap4, .int .i64 b.kids[i].pos]) W ⟨_, rfl, HX1.out.ext isNd_good X fun _ _ h => h⟩ ⟨_, rfl, HX2.out.ext isNd_good X fun _ _ h => h⟩
              have y2 := fun t' : LaterF none' wr => cell_at ((HRX.out.trans t'.x).heap G0.out fun h => h) 2
              have z2 := fun t' : LaterF none' wr => cell_at ((HRX.out.trans t'.x).heap G1.out fun h => h) 2
              simp only [List.getElem?_toArray, List.getElem?_cons_zero, List.getElem?_cons_succ] at y2 z2
              have d0 := fun t' : LaterF none' wr => (t'.x.cell (p := ⟨b1, o1 + i * 4, none⟩) hw1 (fun h => h)).trans (by simpa using hcc1 0 _ rfl)
              have d1 := fun t' : LaterF none' wr => (t'.x.cell (p := ⟨b1, o1 + i * 4 + 1, none⟩) hw1 (fun h => h)).trans (by simpa using hcc1 1 _ rfl)
              have d2 := fun t' : LaterF none' wr => (t'.x.cell (p := ⟨b1, o1 + i * 4 + 2, none⟩) hw1 (fun h => h)).trans (by simpa using hcc1 2 _ rfl)
              have d3 := fun t' : LaterF none' wr => (t'.x.cell (p := ⟨b1, o1 + i * 4 + 3, none⟩) hw1 (fun h => h)).trans (by simpa using hcc1 3 _ rfl)
              have e0 := fun t' : LaterF none' wr => (t'.x.cell (p := ⟨b2, o2 + i * 4, none⟩) hw2 (fun h => h)).trans (by simpa using hcc2 0 _ rfl)
              have e1 := fun t' : LaterF none' wr => (t'.x.cell (p := ⟨b2, o2 + i * 4 + 1, none⟩) hw2 (fun h => h)).trans (by simpa using hcc2 1 _ rfl)
              have e2 := fun t' : LaterF none' wr => (t'.x.cell (p := ⟨b2, o2 + i * 4 + 2, none⟩) hw2 (fun h => h)).trans (by simpa using hcc2 2 _ rfl)
              have e3 := fun t' : LaterF none' wr => (t'.x.cell (p := ⟨b2, o2 + i * 4 + 3, none⟩) hw2 (fun h => h)).trans (by simpa using hcc2 3 _ rfl)
              obtain ⟨q, hq⟩ : ∃ q, sameN f a.kids[i] b.kids[i] = q := ⟨_, rfl⟩
              rw [hq] at C1
              have HQ := hid hq
              obtain ⟨ta, hta⟩ : ∃ t, a.kids[i] = t := ⟨_, rfl⟩
              obtain ⟨tb, htb⟩ : ∃ t, b.kids[i] = t := ⟨_, rfl⟩
              rw [hta] at d0 d1 d2 d3 C1
              rw [htb] at e0 e1 e2 e3 C1
              clear hcc1 hcc2 ht1 ht2 hq hta htb s2 s3 HX1 HX2
              refine region_q none' wr (.qs [0, 1, 2, 3, 4, 5, 6, 7, 8, 9, 10, 11] (.one 12 false (.one 13 false .fin))) (by kernel_rfl) (by kernel_rfl) (fun dst v c a w h => by cases dst <;> exact h) ?_
              refine ⟨In.of (Ext.refl _ _).drew, ?_⟩
              change wpQuiet _ _ (fun w' => ∃ t : LaterF none' wr, w' = t.w) _ _ _
              simp only [sel, List.getElem?_cons_succ, List.getElem?_cons_zero]
              repeat (go_big_quiet_step (fail))
              refine wpQuiet_nil ?_
              simp only [wpTreeQ, stepT, sel, List.getElem?_cons_succ, List.getElem?_cons_zero]
              have D1 := hid (Ext.refl none' wr).drew
              clear y2 z2 d0 d1 d2 d3 e0 e1 e2 e3
              go_wp2_with fail
              refine (C1.out _ D1.out).mono ?_
              rintro e w2 ⟨rfl, X2⟩
              have X2 := hid (HRX.out.trans (D1.out.trans X2))
              cases q with
              | true =>
                have N : Hid (Ext none' W1 w2 ∧ ∀ j (h1 : j < a.kids.length) (h2 : j < b.kids.length), j < i + 1 → sameN f a.kids[j] b.kids[j] = true) := hid ⟨X2.out, fun j h1 h2 hj => by
                  by_cases e : j = i
                  · subst e; exact HQ.out
                  · exact HRY.out j h1 h2 (by omega)⟩
                go_wp2_with fail
                go_roundw
                case rel => exact ⟨i + 1, by go_num, by omega, N⟩
                case measure => simp [RowKit.intOf]; omega
              | false =>
                have E : Hid (r = false) := hid (by rw [HR.out]; exact samesN_bad hi hib HQ.out)
                go_wp2_with fail
                go_ret
                exact ⟨by rw [E.out]; rfl, X1.out.trans X2.out⟩
            · obtain rfl : i = a.kids.length := by omega
              have E : Hid (r = true) := hid (by rw [HR.out]; exact samesN_good HL.out fun j h1 h2 => HRY.out j h1 h2 h1)
              go_wp2_with fail
              go_ret
              exact ⟨by rw [E.out]; rfl, X1.out.trans HRX.out⟩
        · have q3 : ((a.kids.length : Int) != (b.kids.length : Int)) = true := by simp only [bne_iff_ne, ne_eq]; omega
          have E : Hid (r = false) := hid (by rw [hr]; exact samesN_len hlen)
          rw [← hk, ← hn]
          clear hr hlen hk hn q1 q2 q1' q2'
          go_enter Tryz.func28, Tryz.ntmps28
          go_wp2_with fail
          all_goals
            go_ret
            exact ⟨by rw [E.out]; rfl, ((Ext.refl _ _).alloc _).alloc _⟩
      · have q2 : (a.text == b.text) = false := by simpa using hn
        have q2' : (a.text != b.text) = true := by simpa using hn
        have E : Hid (r = false) := hid (by rw [hr, q2]; simp)
        rw [← hk]
        clear hr hk q1 q2 q1' q2'
        go_enter Tryz.func28, Tryz.ntmps28
        go_wp2_with fail
        all_goals
          go_ret
          exact ⟨by rw [E.out]; rfl, ((Ext.refl _ _).alloc _).alloc _⟩
    · have q1 : (a.kind == b.kind) = false := by simpa using hk
      have q1' : (a.kind != b.kind) = true := by simpa using hk
      have E : Hid (r = false) := hid (by rw [hr, q1]; rfl)
      clear hr hk q1
      go_enter Tryz.func28, Tryz.ntmps28
      go_wp2_with fail
      all_goals
        go_ret
        exact ⟨by rw [E.out]; rfl, ((Ext.refl _ _).alloc _).alloc _⟩
end Go.Proofs.YtbhpmmofgdppdaaGreatDoor
