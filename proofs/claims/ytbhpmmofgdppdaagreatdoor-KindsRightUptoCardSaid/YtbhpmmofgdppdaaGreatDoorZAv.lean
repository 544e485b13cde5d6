import Derived.Test.YtbhpmmofgdppdaaGreatDoorZAu
import Derived.Test.YtbhpmmofgdppdaaGreatDoorZAo
import Derived.Test.YtbhpmmofgdppdaaGreatDoorZAr
import Derived.Deep.Cut
import Derived.Test.YtbhpmmofgdppdaaGreatDoorZAf
/-
  demoticlaw10: has, told.
-/
namespace Go.Proofs.YtbhpmmofgdppdaaGreatDoor
open Go.RowKit Go.Lib Go.BigFrame
set_option maxRecDepth 100000 in
set_option maxHeartbeats 1600000 in
theorem lhas_any (nm : List UInt8) (t : Ty) : t.size ≤ bigD → ∀ (v : Value) (w : World), TyV none' w t v → Calls Tryz.prog 21 #[v, .string ⟨nm.toArray⟩] w (BoolP (hasB nm t) w) := by
  induction t using Ty.induct with
  | h k n l ih =>
    intro hsz v w hv
    obtain ⟨p, hp⟩ : ∃ p, p = hasB nm (.mk k n l) := ⟨_, rfl⟩
    rw [← hp]
    rw [hasB, hasL_any] at hp
    obtain ⟨x, rfl, hx⟩ := hv
    have hx : IsSl 3 IsTy none' w x l := hx
    have HX := hid hx
    obtain ⟨a0, cap0, rfl, _⟩ := hx
    have HIH := hid ih
    have hll : l.length ≤ bigD := by have := Ty.args_len (.mk k n l); simp only [Ty.args] at this; omega
    unfold bigD at hll
    have HSZ := hid hsz
    clear ih hsz
    show Calls Tryz.prog 21 #[.agg #[.int .i64 k, .string ⟨n.toArray⟩, .slice a0 l.length cap0], .string ⟨nm.toArray⟩] w (BoolP p w)
    by_cases h4 : k = 4 ∧ n = nm
    · obtain ⟨rfl, rfl⟩ := h4
      have E : Hid (p = true) := hid (by rw [hp]; simp)
      clear hp
      go_enter Tryz.func21, Tryz.ntmps21
      go_wp2_with fail
      go_ret
      exact ⟨by rw [E.out]; rfl, (Ext.refl _ _).alloc _⟩
    · have hz : (k == 4 && n == nm) = false := by
        by_cases h : k = 4
        · have : n ≠ nm := fun e => h4 ⟨h, e⟩
          simp [this]
        · simp [h]
      rw [hz, Bool.false_or] at hp
      have HP := hid hp
      obtain ⟨B, hB⟩ : ∃ B, B = w.heap.size := ⟨_, rfl⟩
      have g0 := heap_alloc_at (w := w) hB (.cells #[.int .i64 k, .string ⟨n.toArray⟩, .slice a0 l.length cap0] 25)
      obtain ⟨W1, hW1⟩ : ∃ W1, W1 = w.alloc (.cells #[.int .i64 k, .string ⟨n.toArray⟩, .slice a0 l.length cap0] 25) := ⟨_, rfl⟩
      have X1 : Ext none' w W1 := by rw [hW1]; exact (Ext.refl _ _).alloc _
      rw [← hW1] at g0
      have HX1 := hid (HX.out.ext isTy_good X1 fun _ _ h => h.elim)
      have X1 := hid X1
      have hb2 : Hid (∀ W, Ext none' W1 W → W.cell? ⟨B, 2, none⟩ = some (.slice a0 l.length cap0)) := hid fun W X => by rw [cell_at (X.heap g0 (fun h => h))]; rfl
      clear g0 hp
      have hk : (k == 4) = false ∨ ((k == 4) = true ∧ (n == nm) = false) := by
        by_cases h : k = 4
        · right
          refine ⟨by simpa using h, by simpa using fun e => h4 ⟨h, e⟩⟩
        · left; simpa using h
      clear h4 hz
      rcases hk with hk | ⟨hk, hn⟩
      all_goals
        go_enter Tryz.func21, Tryz.ntmps21
        go_wp2_with fail
        rw [← hW1, ← hB]
        clear hB hW1
        go_loopw [5] (fun z wr => ∃ (i : Nat), z = .int .i64 (i : Nat) ∧ i ≤ l.length ∧ Hid (Ext none' W1 wr ∧ ∀ j (h : j < l.length), j < i → hasB nm l[j] = false)) (fun z _ => l.length - (RowKit.intOf z).toNat)
        case atStart => exact ⟨0, rfl, by omega, hid ⟨Ext.refl _ _, fun j _ h => by omega⟩⟩
        case round =>
          obtain ⟨i, rfl, hle, HR⟩ := hrel
          have b2 := hb2.out _ HR.out.1
          by_cases hi : i < l.length
          · obtain ⟨b, off, cs, rfl, hAb, hbw, hcc, hty⟩ := (HX1.out.ext isTy_good HR.out.1 fun _ _ h => h.elim).at i hi
            obtain ⟨x', rfl, hx'⟩ := hty.parts
            have c0 := hcc 0 _ rfl
            have c1 := hcc 1 _ rfl
            have c2 := hcc 2 _ rfl
            simp only [Nat.add_zero] at c0
            have hmem := List.getElem_mem hi
            have hts : l[i].size ≤ bigD := by have := Ty.size_arg (t := .mk k n l) hmem; have := HSZ.out; omega
            have HX2 := hid hx'
            obtain ⟨a', cap', rfl, _⟩ := hx'
            have CS := hid (HIH.out _ hmem hts (.agg #[.int .i64 l[i].kind, .string ⟨l[i].name.toArray⟩, .slice a' l[i].args.length cap']) wr ⟨_, rfl, HX2.out⟩)
            obtain ⟨q, hq⟩ : ∃ q, hasB nm l[i] = q := ⟨_, rfl⟩
            rw [hq] at CS
            have HQ := hid hq
            obtain ⟨t, ht⟩ : ∃ t, l[i] = t := ⟨_, rfl⟩
            rw [ht] at c0 c1 c2 CS
            have HM := hid hmem
            clear hcc hty hq ht hmem hts HX2
            go_wp2_with fail
            refine CS.out.mono ?_
            rintro e w2 ⟨rfl, X2⟩
            have X2 := hid (HR.out.1.trans X2)
            cases q with
            | false =>
              have N : Hid (Ext none' W1 w2 ∧ ∀ j (h : j < l.length), j < i + 1 → hasB nm l[j] = false) := hid ⟨X2.out, fun j h hj => by
                by_cases e : j = i
                · subst e; exact HQ.out
                · exact HR.out.2 j h (by omega)⟩
              go_wp2_with fail
              go_roundw
              case rel => exact ⟨i + 1, by go_num, by omega, N⟩
              case measure => simp [RowKit.intOf]; omega
            | true =>
              have E : Hid (p = true) := hid (by rw [HP.out, List.any_eq_true]; exact ⟨_, HM.out, HQ.out⟩)
              go_wp2_with fail
              go_ret
              exact ⟨by rw [E.out]; rfl, X1.out.trans X2.out⟩
          · have E : Hid (p = false) := hid (by
              rw [HP.out, List.any_eq_false]
              intro y hy
              obtain ⟨j, hj, rfl⟩ := List.mem_iff_getElem.1 hy
              rw [HR.out.2 j hj (by omega)]; simp)
            obtain rfl : i = l.length := by omega
            go_wp2_with fail
            go_ret
            exact ⟨by rw [E.out]; rfl, X1.out.trans HR.out.1⟩
set_option maxRecDepth 100000 in
set_option maxHeartbeats 1600000 in
theorem told_any : ∀ (f : Nat), f ≤ bigD → ∀ (a b : Ty), a.size ≤ f → b.args.length ≤ bigD → (∀ y ∈ b.args, y.size ≤ bigD) → ∀ (v u : Value) (w : World), TyV none' w a v → TyV none' w b u → Calls Tryz.prog 16 #[v, u] w (BoolP (sameP f a b) w) := by
  intro f
  induction f with
  | zero => intro _ a b ha; have := a.size_pos; omega
  | succ f ih =>
    intro hf a b ha hbl hbs v u w hv hu
    have hal : a.args.length ≤ bigD := by have := a.args_len; omega
    obtain ⟨x, rfl, hx⟩ := hv
    obtain ⟨y, rfl, hy⟩ := hu
    have HX := hid hx
    have HY := hid hy
    obtain ⟨a1, cap1, rfl, _⟩ := hx
    obtain ⟨a2, cap2, rfl, _⟩ := hy
    have HIH := hid (ih (by omega))
    have HAS := hid fun (i : Nat) (h : i < a.args.length) => (show a.args[i].size ≤ f from by have := Ty.size_arg (List.getElem_mem h); omega)
    have HBS := hid hbs
    obtain ⟨r, hr⟩ : ∃ r, r = sameP (f + 1) a b := ⟨_, rfl⟩
    rw [← hr]
    rw [sameP] at hr
    unfold bigD at hal hbl
    clear ih ha hf hbs
    by_cases hk : a.kind = b.kind
    · have q1 : (a.kind == b.kind) = true := by simpa using hk
      have q1' : (a.kind != b.kind) = false := by simpa using hk
      by_cases hn : a.name = b.name
      · have q2 : (a.name == b.name) = true := by simpa using hn
        have q2' : (a.name != b.name) = false := by simpa using hn
        rw [q1, q2, Bool.true_and, Bool.true_and] at hr
        by_cases hlen : a.args.length = b.args.length
        · have q3 : ((a.args.length : Int) != (b.args.length : Int)) = false := by simp only [bne_eq_false_iff_eq]; omega
          have HR := hid hr
          have HL := hid hlen
          rw [← hlen] at HY
          rw [← hk, ← hn, ← hlen]
          obtain ⟨B, hB⟩ : ∃ B, B = w.heap.size := ⟨_, rfl⟩
          obtain ⟨W1, hW1⟩ : ∃ W1, W1 = (w.alloc (.cells #[.int .i64 a.kind, .string ⟨a.name.toArray⟩, .slice a1 a.args.length cap1] 32)).alloc (.cells #[.int .i64 a.kind, .string ⟨a.name.toArray⟩, .slice a2 a.args.length cap2] 25) := ⟨_, rfl⟩
          have X1 := hid (show Ext none' w W1 by rw [hW1]; exact ((Ext.refl _ _).alloc _).alloc _)
          have G0 := hid (show W1.heap[B]? = some (.cells #[.int .i64 a.kind, .string ⟨a.name.toArray⟩, .slice a1 a.args.length cap1] 32 (0, 0)) by rw [hW1]; exact heap_alloc_keep (heap_alloc_at hB _) _)
          have G1 := hid (show W1.heap[B + 1]? = some (.cells #[.int .i64 a.kind, .string ⟨a.name.toArray⟩, .slice a2 a.args.length cap2] 25 (0, 0)) by rw [hW1]; exact heap_alloc_at (by rw [hB]; simp) _)
          clear hr hlen hk hn q1 q2 q1' q2' hbl
          go_enter Tryz.func16, Tryz.ntmps16
          go_wp2_with fail
          rw [← hW1, ← hB]
          clear hB hW1
          go_loopw [5] (fun z wr => ∃ (i : Nat), z = .int .i64 (i : Nat) ∧ i ≤ a.args.length ∧ Hid (Ext none' W1 wr ∧ ∀ j (h1 : j < a.args.length) (h2 : j < b.args.length), j < i → sameP f a.args[j] b.args[j] = true)) (fun z _ => a.args.length - (RowKit.intOf z).toNat)
          case atStart => exact ⟨0, rfl, by omega, hid ⟨Ext.refl _ _, fun j _ _ h => by omega⟩⟩
          case round =>
            obtain ⟨i, rfl, hle, RR⟩ := hrel
            have HRX := hid RR.out.1
            have HRY := hid RR.out.2
            clear RR
            have s2 := cell_at (HRX.out.heap G0.out fun h => h) 2
            have s3 := cell_at (HRX.out.heap G1.out fun h => h) 2
            simp only [List.getElem?_toArray, List.getElem?_cons_zero, List.getElem?_cons_succ] at s2 s3
            by_cases hi : i < a.args.length
            · have hib : i < b.args.length := by have := HL.out; omega
              go_upto_region 6 with (fail)
              obtain ⟨b1, o1, cs1, rfl, _, hw1, hcc1, ht1⟩ := (HX.out.ext isTy_good (X1.out.trans HRX.out) fun _ _ h => h.elim).at i hi
              obtain ⟨b2, o2, cs2, rfl, _, hw2, hcc2, ht2⟩ := (HY.out.ext isTy_good (X1.out.trans HRX.out) fun _ _ h => h.elim).at i hib
              obtain ⟨x1, rfl, hx1⟩ := ht1.parts
              obtain ⟨x2, rfl, hx2⟩ := ht2.parts
              have HX1 := hid hx1
              have HX2 := hid hx2
              obtain ⟨a3, cap3, rfl, _⟩ := hx1
              obtain ⟨a4, cap4, rfl, _⟩ := hx2
              have C1 := hid fun W (X : Ext none' wr W) => HIH.out a.args[i] b.args[i] (HAS.out i hi) (by have := HBS.out _ (List.getElem_mem hib); have := (b.args[i]).args_len; omega) (fun y hy => by have := HBS.out _ (List.getElem_mem hib); have := Ty.size_arg hy; omega) (.agg #[.int .i64 a.args[i].kind, .string ⟨a.args[i].name.toArray⟩, .slice a3 a.args[i].args.length cap3]) (.agg #[.int .i64 b.args[i].kind, .string ⟨b.args[i].name.toArray⟩, .slice a4 b.args[i].args.length cap4]) W ⟨_, rfl, HX1.out.ext isTy_good X fun _ _ h => h⟩ ⟨_, rfl, HX2.out.ext isTy_good X fun _ _ h => h⟩
              have y2 := fun t' : LaterF none' wr => cell_at ((HRX.out.trans t'.x).heap G0.out fun h => h) 2
              have z2 := fun t' : LaterF none' wr => cell_at ((HRX.out.trans t'.x).heap G1.out fun h => h) 2
              simp only [List.getElem?_toArray, List.getElem?_cons_zero, List.getElem?_cons_succ] at y2 z2
              have d0 := fun t' : LaterF none' wr => (t'.x.cell (p := ⟨b1, o1 + i * 3, none⟩) hw1 (fun h => h)).trans (by simpa using hcc1 0 _ rfl)
              have d1 := fun t' : LaterF none' wr => (t'.x.cell (p := ⟨b1, o1 + i * 3 + 1, none⟩) hw1 (fun h => h)).trans (by simpa using hcc1 1 _ rfl)
              have d2 := fun t' : LaterF none' wr => (t'.x.cell (p := ⟨b1, o1 + i * 3 + 2, none⟩) hw1 (fun h => h)).trans (by simpa using hcc1 2 _ rfl)
              have e0 := fun t' : LaterF none' wr => (t'.x.cell (p := ⟨b2, o2 + i * 3, none⟩) hw2 (fun h => h)).trans (by simpa using hcc2 0 _ rfl)
              have e1 := fun t' : LaterF none' wr => (t'.x.cell (p := ⟨b2, o2 + i * 3 + 1, none⟩) hw2 (fun h => h)).trans (by simpa using hcc2 1 _ rfl)
              have e2 := fun t' : LaterF none' wr => (t'.x.cell (p := ⟨b2, o2 + i * 3 + 2, none⟩) hw2 (fun h => h)).trans (by simpa using hcc2 2 _ rfl)
              obtain ⟨q, hq⟩ : ∃ q, sameP f a.args[i] b.args[i] = q := ⟨_, rfl⟩
              rw [hq] at C1
              have HQ := hid hq
              obtain ⟨ta, hta⟩ : ∃ t, a.args[i] = t := ⟨_, rfl⟩
              obtain ⟨tb, htb⟩ : ∃ t, b.args[i] = t := ⟨_, rfl⟩
              rw [hta] at d0 d1 d2 C1
              rw [htb] at e0 e1 e2 C1
              clear hcc1 hcc2 ht1 ht2 hq hta htb s2 s3 HX1 HX2
              refine region_q none' wr (.qs [0, 1, 2, 3, 4, 5, 6, 7, 8, 9] (.one 10 false (.one 11 false .fin))) (by kernel_rfl) (by kernel_rfl) (fun dst v c a w h => by cases dst <;> exact h) ?_
              refine ⟨In.of (Ext.refl _ _).drew, ?_⟩
              change wpQuiet _ _ (fun w' => ∃ t : LaterF none' wr, w' = t.w) _ _ _
              simp only [sel, List.getElem?_cons_succ, List.getElem?_cons_zero]
              repeat (go_big_quiet_step (fail))
              refine wpQuiet_nil ?_
              simp only [wpTreeQ, stepT, sel, List.getElem?_cons_succ, List.getElem?_cons_zero]
              have D1 := hid (Ext.refl none' wr).drew
              clear y2 z2 d0 d1 d2 e0 e1 e2
              go_wp2_with fail
              refine (C1.out _ D1.out).mono ?_
              rintro e w2 ⟨rfl, X2⟩
              have X2 := hid (HRX.out.trans (D1.out.trans X2))
              cases q with
              | true =>
                have N : Hid (Ext none' W1 w2 ∧ ∀ j (h1 : j < a.args.length) (h2 : j < b.args.length), j < i + 1 → sameP f a.args[j] b.args[j] = true) := hid ⟨X2.out, fun j h1 h2 hj => by
                  by_cases e : j = i
                  · subst e; exact HQ.out
                  · exact HRY.out j h1 h2 (by omega)⟩
                go_wp2_with fail
                go_roundw
                case rel => exact ⟨i + 1, by go_num, by omega, N⟩
                case measure => simp [RowKit.intOf]; omega
              | false =>
                have E : Hid (r = false) := hid (by rw [HR.out]; exact samesL_bad i hi hib HQ.out)
                go_wp2_with fail
                go_ret
                exact ⟨by rw [E.out]; rfl, X1.out.trans X2.out⟩
            · obtain rfl : i = a.args.length := by omega
              have E : Hid (r = true) := hid (by rw [HR.out]; exact samesL_good HL.out fun j h1 h2 => HRY.out j h1 h2 h1)
              go_wp2_with fail
              go_ret
              exact ⟨by rw [E.out]; rfl, X1.out.trans HRX.out⟩
        · have q3 : ((a.args.length : Int) != (b.args.length : Int)) = true := by simp only [bne_iff_ne, ne_eq]; omega
          have E : Hid (r = false) := hid (by rw [hr]; exact samesL_len hlen)
          rw [← hk, ← hn]
          clear hr hlen hk hn q1 q2 q1' q2'
          go_enter Tryz.func16, Tryz.ntmps16
          go_wp2_with fail
          all_goals
            go_ret
            exact ⟨by rw [E.out]; rfl, ((Ext.refl _ _).alloc _).alloc _⟩
      · have q2 : (a.name == b.name) = false := by simpa using hn
        have q2' : (a.name != b.name) = true := by simpa using hn
        have E : Hid (r = false) := hid (by rw [hr, q2]; simp)
        rw [← hk]
        clear hr hk q1 q2 q1' q2'
        go_enter Tryz.func16, Tryz.ntmps16
        go_wp2_with fail
        all_goals
          go_ret
          exact ⟨by rw [E.out]; rfl, ((Ext.refl _ _).alloc _).alloc _⟩
    · have q1 : (a.kind == b.kind) = false := by simpa using hk
      have q1' : (a.kind != b.kind) = true := by simpa using hk
      have E : Hid (r = false) := hid (by rw [hr, q1]; rfl)
      clear hr hk q1
      go_enter Tryz.func16, Tryz.ntmps16
      go_wp2_with fail
      all_goals
        go_ret
        exact ⟨by rw [E.out]; rfl, ((Ext.refl _ _).alloc _).alloc _⟩
end Go.Proofs.YtbhpmmofgdppdaaGreatDoor
/-
  demoticref10.Size: the size of a tree.
-/
namespace Go.Proofs.YtbhpmmofgdppdaaGreatDoor
open Go.RowKit Go.Lib Go.BigFrame
set_option maxRecDepth 100000 in
set_option maxHeartbeats 1600000 in
theorem rsize_any (t : Ty) : t.size ≤ bigD → ∀ (A : Nat → Prop) (v : Value) (w : World), TyV A w t v → Calls Tryz.prog 10 #[v] w (IntP (t.size : Nat) w) := by
  induction t using Ty.induct with
  | h k n l ih =>
    intro hsz A v w hv
    obtain ⟨p, hp⟩ : ∃ p, p = Ty.size (.mk k n l) := ⟨_, rfl⟩
    rw [← hp]
    rw [Ty.size] at hp
    have HP := hid hp
    obtain ⟨x, rfl, hx⟩ := hv
    have hx : IsSl 3 IsTy A w x l := hx
    have HX := hid hx
    obtain ⟨a0, cap0, rfl, _⟩ := hx
    have HIH := hid ih
    have hll : l.length ≤ bigD := by have := Ty.args_len (.mk k n l); simp only [Ty.args] at this; omega
    unfold bigD at hll
    have HSZ := hid hsz
    clear ih hp hsz
    show Calls Tryz.prog 10 #[.agg #[.int .i64 k, .string ⟨n.toArray⟩, .slice a0 l.length cap0]] w (IntP (p : Nat) w)
    obtain ⟨B, hB⟩ : ∃ B, B = w.heap.size := ⟨_, rfl⟩
    have g0 := heap_alloc_at (w := w) hB (.cells #[.int .i64 k, .string ⟨n.toArray⟩, .slice a0 l.length cap0] 25)
    obtain ⟨W1, hW1⟩ : ∃ W1, W1 = w.alloc (.cells #[.int .i64 k, .string ⟨n.toArray⟩, .slice a0 l.length cap0] 25) := ⟨_, rfl⟩
    have X1 : Ext none' w W1 := by rw [hW1]; exact (Ext.refl _ _).alloc _
    rw [← hW1] at g0
    have HX1 := hid (HX.out.ext isTy_good X1 fun _ _ h => h.elim)
    have X1 := hid X1
    have hb2 : Hid (∀ W, Ext none' W1 W → W.cell? ⟨B, 2, none⟩ = some (.slice a0 l.length cap0)) := hid fun W X => by rw [cell_at (X.heap g0 (fun h => h))]; rfl
    clear g0
    go_enter Tryz.func10, Tryz.ntmps10
    go_wp2_with fail
    rw [← hW1, ← hB]
    clear hB hW1
    go_loopw [3, 4] (fun c z wr => ∃ (i : Nat), z = .int .i64 (i : Nat) ∧ i ≤ l.length ∧ c = .int .i64 ((1 + Ty.sizeL (l.take i) : Nat) : Nat) ∧ Hid (Ext none' W1 wr)) (fun _ z _ => l.length - (RowKit.intOf z).toNat)
    case atStart => exact ⟨0, rfl, by omega, rfl, hid (Ext.refl _ _)⟩
    case round =>
      obtain ⟨i, rfl, hle, rfl, HR⟩ := hrel
      have b2 := hb2.out _ HR.out
      by_cases hi : i < l.length
      · obtain ⟨b, off, cs, rfl, hAb, hbw, hcc, hty⟩ := (HX1.out.ext isTy_good HR.out fun _ _ h => h.elim).at i hi
        obtain ⟨x', rfl, hx'⟩ := hty.parts
        have c0 := hcc 0 _ rfl
        have c1 := hcc 1 _ rfl
        have c2 := hcc 2 _ rfl
        simp only [Nat.add_zero] at c0
        have hmem := List.getElem_mem hi
        have hts : l[i].size ≤ bigD := by have := Ty.size_arg (t := .mk k n l) hmem; have := HSZ.out; omega
        have HX2 := hid hx'
        obtain ⟨a', cap', rfl, _⟩ := hx'
        have CS := hid (HIH.out _ hmem hts A (.agg #[.int .i64 l[i].kind, .string ⟨l[i].name.toArray⟩, .slice a' l[i].args.length cap']) wr ⟨_, rfl, HX2.out⟩)
        have htake : l.take (i + 1) = l.take i ++ [l[i]] := by rw [List.take_add_one, List.getElem?_eq_getElem hi]; rfl
        have hsn : 1 + Ty.sizeL (l.take (i + 1)) = 1 + Ty.sizeL (l.take i) + l[i].size := by rw [htake, Ty.sizeL_append]; simp [Ty.sizeL]; omega
        have hbd : l[i].size ≤ 20000000000 := hts
        have htk : Ty.sizeL (l.take i) ≤ Ty.sizeL l := by
          have e := Ty.sizeL_append (l.take i) (l.drop i)
          rw [List.take_append_drop] at e
          omega
        have hfull : Ty.sizeL l ≤ 20000000000 := by have := HSZ.out; rw [Ty.size] at this; unfold bigD at this; omega
        have hcl : 1 + Ty.sizeL (l.take i) ≤ 20000000001 := by omega
        obtain ⟨q, hq⟩ : ∃ q, l[i].size = q := ⟨_, rfl⟩
        obtain ⟨c, hc⟩ : ∃ c, 1 + Ty.sizeL (l.take i) = c := ⟨_, rfl⟩
        rw [hq] at CS hsn hbd
        rw [hc] at hsn hcl ⊢
        have HSN := hid hsn
        clear hcc hty hsn htake hq hc htk hfull hts
        go_wp2_with fail
        refine CS.out.mono ?_
        rintro e w2 ⟨rfl, X2⟩
        have X2 := hid (HR.out.trans X2)
        go_wp2_with fail
        go_roundw
        case rel => exact ⟨i + 1, by go_num, by omega, by rw [HSN.out]; rfl, X2⟩
        case measure => simp [RowKit.intOf]; omega
      · obtain rfl : i = l.length := by omega
        have e1 : Hid (1 + Ty.sizeL (l.take l.length) = p) := hid (by rw [HP.out, List.take_length]; omega)
        rw [e1.out]
        go_wp2_with fail
        go_ret
        exact ⟨rfl, X1.out.trans HR.out⟩
end Go.Proofs.YtbhpmmofgdppdaaGreatDoor
/-
  demoticlaw10.of: a document's type as the program's: the same tree.
-/
namespace Go.Proofs.YtbhpmmofgdppdaaGreatDoor
open Go.RowKit Go.Lib Go.BigFrame
structure TypRel (A : Nat → Prop) (k : Int) (n : List UInt8) (l : List Ty) (sv : Value) (B : Nat) (w wr : World) (v : Value) (i : Nat) : Prop where
  g0 : wr.heap[B]? = some (.cells #[.int .i64 k, .string ⟨n.toArray⟩, sv] 25 (0, 0))
  g1 : wr.heap[B + 1]? = some (.cells #[.int .i64 0, .string ⟨#[]⟩, .slice none 0 0] 32 (0, 0))
  g2 : wr.heap[B + 1 + 1]? = some (.cells #[.int .i64 k, .string ⟨n.toArray⟩, v] 32 (0, 0))
  row : RowOf 3 32 IsTy (and1 (and1 A (B + 1)) (B + 1 + 1)) wr (B + 3) v (l.take i)
  hx : Ext none' w wr
set_option maxRecDepth 100000 in
set_option maxHeartbeats 3200000 in
theorem of_tyany (t : Ty) : t.size ≤ bigD → ∀ (A : Nat → Prop) (v : Value) (w : World), TyV none' w t v → (∀ b, A b → b < w.heap.size) → Calls Tryz.prog 13 #[v] w (TyPost none' A w t) := by
  induction t using Ty.induct with
  | h k n l ih =>
    intro hsz A v w hv hA
    obtain ⟨x, rfl, hx⟩ := hv
    have hx : IsSl 3 IsTy none' w x l := hx
    have HX := hid hx
    obtain ⟨a, cap, rfl, _⟩ := hx
    have HIH := hid ih
    have hll : l.length ≤ bigD := by have := Ty.args_len (.mk k n l); simp only [Ty.args] at this; omega
    unfold bigD at hll
    have HSZ := hid hsz
    clear ih hsz
    obtain ⟨i0, hi0, hz0, hz1, hz2⟩ := info_parts infoTy
    have I0 := hid hi0
    have I1 := hid hz0
    have I2 := hid hz1
    have I3 := hid hz2
    obtain ⟨B, hB⟩ : ∃ B, B = w.heap.size := ⟨_, rfl⟩
    have HB := hid hB
    clear hi0 hz0 hz1 hz2 hB
    show Calls Tryz.prog 13 #[.agg #[.int .i64 k, .string ⟨n.toArray⟩, .slice a l.length cap]] w (TyPost none' A w (.mk k n l))
    go_enter Tryz.func13, Tryz.ntmps13
    go_wp2_with fail
    rw [← HB.out]
    go_loopw [4] (fun z wr => ∃ (i : Nat) (v : Value), z = .int .i64 (i : Nat) ∧ i ≤ l.length ∧ Hid (TypRel A k n l (.slice a l.length cap) B w wr v i)) (fun z _ => l.length - (RowKit.intOf z).toNat)
    case atStart =>
      have hB := HB.out
      exact ⟨0, .slice none 0 0, rfl, by omega, hid ⟨heap_alloc_keep (heap_alloc_keep (heap_alloc_at hB _) _) _, heap_alloc_keep (heap_alloc_at (by rw [hB]; simp) _) _, heap_alloc_at (by rw [hB]; simp) _, RowOf.nil _ _ _ _ _ _, (((Ext.refl _ _).alloc _).alloc _).alloc _⟩⟩
    case round =>
      obtain ⟨i, v, rfl, hle, R⟩ := hrel
      obtain ⟨cells, own0, hr0⟩ := R.out.row
      have hln : (l.take i).length = i := by rw [List.length_take, Nat.min_eq_left hle]
      have OW := hid own0
      have HR0 := hid hr0
      rw [hln] at own0
      have hsh := own_slice own0
      obtain ⟨a1, cap1, rfl⟩ := hsh
      have OWI := hid own0
      have HLN := hid hln
      clear own0 hr0 hln
      have p2 := cell_at R.out.g0 2
      simp only [List.getElem?_toArray, List.getElem?_cons_zero, List.getElem?_cons_succ] at p2
      by_cases hi : i < l.length
      · obtain ⟨b, off, cs, rfl, hAb, hbw, hcc, hty⟩ := (HX.out.ext isTy_good R.out.hx fun _ _ h => h.elim).at i hi
        obtain ⟨x', rfl, hx'⟩ := hty.parts
        have HX2 := hid hx'
        obtain ⟨a', cap', rfl, _⟩ := hx'
        have hcc := hid hcc
        have hmem := List.getElem_mem hi
        have hts : l[i].size ≤ bigD := by have := Ty.size_arg (t := .mk k n l) hmem; have := HSZ.out; omega
        have CS := hid (HIH.out _ hmem hts (plus (and1 (and1 A (B + 1)) (B + 1 + 1)) (.slice a1 i cap1)) (.agg #[.int .i64 l[i].kind, .string ⟨l[i].name.toArray⟩, .slice a' l[i].args.length cap']) wr.drew ⟨_, rfl, HX2.out.ext isTy_good (Ext.refl none' wr).drew fun _ _ h => h.elim⟩ (fun b hb => by
          have h1 := heap_lt R.out.g1
          have h2 := heap_lt R.out.g2
          have h3 := R.out.hx.size
          show b < wr.heap.size
          rcases hb with ((hb | hb) | hb) | hb
          · have := hA b hb; omega
          · omega
          · omega
          · exact (OWI.out.lt b hb).2))
        obtain ⟨t, ht⟩ : ∃ t, l[i] = t := ⟨_, rfl⟩
        have htk : l.take (i + 1) = l.take i ++ [t] := by rw [List.take_add_one, List.getElem?_eq_getElem hi, ht]; rfl
        have HTK := hid htk
        rw [ht] at hcc CS
        clear htk hty hts hmem HX2
        clear ht
        have y0 := fun t' : LaterF none' wr => (t'.x.cell (p := ⟨b, off + i * 3, none⟩) hbw (fun h => h)).trans (by simpa using hcc.out 0 _ rfl)
        have y1 := fun t' : LaterF none' wr => (t'.x.cell (p := ⟨b, off + i * 3 + 1, none⟩) hbw (fun h => h)).trans (hcc.out 1 _ rfl)
        have y2 := fun t' : LaterF none' wr => (t'.x.cell (p := ⟨b, off + i * 3 + 2, none⟩) hbw (fun h => h)).trans (hcc.out 2 _ rfl)
        have r2 := fun t' : LaterF none' wr => cell_at (t'.x.heap R.out.g0 (fun h => h)) 2
        have r5 := fun t' : LaterF none' wr => cell_at (t'.x.heap R.out.g2 (fun h => h)) 2
        simp only [List.getElem?_toArray, List.getElem?_cons_zero, List.getElem?_cons_succ] at r2 r5
        go_upto_region 5 with (fail)
        refine region_tree none' wr [0, 1, 2, 3, 4, 5, 6] (.one 7 true (.one 8 true (.one 9 false (.one 10 false (.one 11 false .fin))))) (by kernel_rfl) (by kernel_rfl) (fun dst v c a w h => by cases dst <;> exact h) (Ext.refl _ _) ?_
        simp only [sel, List.getElem?_cons_succ, List.getElem?_cons_zero]
        repeat (go_big_quiet_step (fail))
        refine wpQuiet_nil ?_
        simp only [wpTree, stepT, sel, List.getElem?_cons_succ, List.getElem?_cons_zero]
        clear y0 y1 y2 r2 r5 p2
        go_wp2_with fail
        refine CS.out.mono ?_
        rintro e W2 ⟨u, rfl, ⟨xx, rfl, hxx⟩, X2⟩
        have X2 := hid ((Ext.refl none' wr).drew.trans X2)
        have HY := hid hxx
        obtain ⟨a2, cap2, rfl, _⟩ := hxx
        go_wp2_with fail
        refine ⟨In.of X2.out, ?_⟩
        go_wp2_with fail
        obtain ⟨W3, hW3⟩ : ∃ W3, W3 = W2.alloc (.cells #[.int .i64 t.kind, .string ⟨t.name.toArray⟩, .slice a2 t.args.length cap2] 32) := ⟨_, rfl⟩
        have XD : Hid (Ext none' wr W3) := hid (by rw [hW3]; exact X2.out.alloc _)
        have XE : Hid (Ext none' W2 W3) := hid (by rw [hW3]; exact (Ext.refl _ _).alloc _)
        have S2 : Hid (Src Tryz.prog 3 30 (.slice (some ⟨W2.heap.size, 0, none⟩) 1 1) 1 [.int .i64 t.kind, .string ⟨t.name.toArray⟩, .slice a2 t.args.length cap2] W3) := hid (by rw [hW3]; exact three_src (P := Tryz.prog) Tryz.underlying30 W2 _ _ _ 32 rfl rfl rfl)
        rw [← hW3]
        clear hW3
        refine ⟨In.of XD.out, ?_⟩
        have O2 := hid (ownsRow_ext OWI.out XD.out (fun _ _ h => h))
        have O2' := hid (ownsRow_ext OW.out XD.out (fun _ _ h => h))
        have HSZ3 := hid (show B + 3 ≤ W3.heap.size by have := XD.out.size; have := heap_lt R.out.g2; omega)
        refine wpList_app _ rfl (.tmp 18) (.tmp 25) 30 30 rfl (B + 3) 32 i0 _ 3 48 Tryz.underlying30 I0.out I1.out I2.out I3.out rfl _ i cells rfl O2.out _ 1 _ rfl S2.out ?_ ?_ ?_ ?_
        · unfold maxLen; omega
        · omega
        · exact HSZ3.out
        intro v3 w3 own3 grow3 blk3 _
        have N0 : Hid (RowOf 3 32 IsTy (and1 (and1 A (B + 1)) (B + 1 + 1)) w3 (B + 3) v3 (l.take i ++ [t])) := hid (RowOf.snoc isTy_good O2'.out (fun j hj => isTy_good.ext (HR0.out j hj) XD.out fun _ _ h => h.elim) (isTy_good.ext (TyV.ty HY.out) XE.out fun _ _ h => h.elim) (by rw [HLN.out]; exact own3) grow3 blk3)
        obtain ⟨a3, cap3, rfl⟩ := own_slice own3
        have hlt := fun g hg => (O2.out.lt g hg).1
        have X3 : Ext (fun k => Value.ownBlock (.slice a1 i cap1) = some k) wr w3 := (XD.out.mono fun _ _ h => h.elim).grown grow3 (fun g hg => .inl hg)
        have nB : ∀ k, k < B + 3 → ¬ (Value.ownBlock (.slice a1 i cap1) = some k) := fun k hk h => by have := hlt k h; omega
        have g0 := X3.heap R.out.g0 (nB _ (by omega))
        have g1 := X3.heap R.out.g1 (nB _ (by omega))
        have g2 := X3.heap R.out.g2 (nB _ (by omega))
        have e2 := cell_at g2 2
        have f2 := free_at g2 2
        simp only [List.getElem?_toArray, List.getElem?_cons_zero, List.getElem?_cons_succ] at e2
        have XS : Ext (one (B + 1 + 1)) w3 (w3.setCell ⟨B + 1 + 1, 2, none⟩ (.slice a3 (i + 1) cap3)) := (Ext.refl _ _).set 2 _
        have N : Hid (TypRel A k n l (.slice (some ⟨b, off, none⟩) l.length cap) B w (w3.setCell ⟨B + 1 + 1, 2, none⟩ (.slice a3 (i + 1) cap3)) (.slice a3 (i + 1) cap3) (i + 1)) := hid
          ⟨XS.heap g0 (by unfold one; omega), XS.heap g1 (by unfold one; omega), heap_setCell_same g2 2 _, by
            rw [HTK.out]
            exact N0.out.ext isTy_good XS (fun _ _ h => .inr h) (fun g hg h => by have h1 := (N0.out.lt g hg).1; have h2 : g = B + 1 + 1 := h; omega), (R.out.hx.trans (XD.out) |>.grown grow3 (fun g hg => .inr (by have := hlt g hg; have := HB.out; omega))).setNew (by have := HB.out; omega) 2 _⟩
        clear own3 grow3 blk3 X3 XS g0 g1 g2 nB hlt
        go_wp2_with fail
        go_roundw
        case rel => exact ⟨i + 1, _, by go_num, by omega, N⟩
        case measure => simp [RowKit.intOf]; omega
      · obtain rfl : i = l.length := by omega
        have c0 := cell_at R.out.g2 0
        have c1 := cell_at R.out.g2 1
        have c2 := cell_at R.out.g2 2
        have e0 := cell_at R.out.g1 0
        have e1 := cell_at R.out.g1 1
        have e2 := cell_at R.out.g1 2
        have f0 := free_at R.out.g1 0
        have f1 := free_at R.out.g1 1
        have f2 := free_at R.out.g1 2
        simp only [List.getElem?_toArray, List.getElem?_cons_zero, List.getElem?_cons_succ] at c0 c1 c2 e0 e1 e2
        have hrow := R.out.row
        rw [List.take_length] at hrow
        have HS := hid ((hrow.mono (B := and1 A (B + 1)) isTy_good fun _ _ h => .inl h).sl isTy_good (fun b hb h => h.elim (fun h => by have := hA b h; have := HB.out; omega) fun h => by omega))
        go_wp2_with fail
        refine ret_ty rfl rfl (set3 R.out.g1 _ _ _) rfl ?_
        exact ⟨_, rfl, TyV.stored (t := .mk k n l) HS.out _ _ _, R.out.hx.set3 (b := B + 1) (.inr (by have := HB.out; omega)) _ _ _⟩
end Go.Proofs.YtbhpmmofgdppdaaGreatDoor
