import Derived.Test.YtmlhkgocilpobaaUnOwn
import Derived.WalkMore
/-
  (*unify.state).parts.
-/
namespace Go.Proofs.Ytmlhkgocilpobaa
open Go.RowKit Go.Lib Go.BigFrame
def FitPost (ds : List Df) (row : List (List UInt8)) (S base : Nat) (dv rv bv : Value) (r : Bool × List Ty) (w : World) (e : Ending) (w' : World) : Prop :=
  e = .returned (.bool r.1) ∧ St ds row r.2 S base dv rv bv w' ∧ Ext (plus none' bv) w w' ∧ ∀ x ∈ r.2, x.size ≤ bigD
def FitAt (fn : Nat) (ds : List Df) (row : List (List UInt8)) (S base : Nat) (dv rv bv : Value) (f : Nat) (g : Ty → Ty → List Ty → Bool × List Ty) : Prop :=
  ∀ (p t : Ty) (by' : List Ty) (pv tv : Value) (w : World), p.size ≤ bigD → t.size ≤ bigD → (∀ x ∈ by', x.size ≤ bigD) → St ds row by' S base dv rv bv w → TyV (plus none' bv) w p pv → TyV (plus none' bv) w t tv →
    Calls Try.prog fn #[.pointer (some ⟨S, 0, none⟩), pv, tv, .int .i64 (f : Nat)] w (FitPost ds row S base dv rv bv (g p t by') w)
structure PRel (ds : List Df) (row : List (List UInt8)) (S base : Nat) (dv rv bv : Value) (g : Ty → Ty → List Ty → Bool × List Ty) (p t : Ty) (by' : List Ty) (B : Nat) (pc tc : Array Value) (w wr : World) (i : Nat) : Prop where
  g0 : wr.heap[B]? = some (.cells pc 33 (0, 0))
  g1 : wr.heap[B + 1]? = some (.cells tc 33 (0, 0))
  st : St ds row (partsAt g p t by' i).2 S base dv rv bv wr
  hx : Ext (plus none' bv) w wr
  ok : (partsAt g p t by' i).1 = true
  sz : ∀ x ∈ (partsAt g p t by' i).2, x.size ≤ bigD
set_option maxRecDepth 100000 in
set_option maxHeartbeats 3200000 in
theorem parts_any {ds : List Df} {row : List (List UInt8)} {S base : Nat} {dv rv bv : Value} {f : Nat} (hf : f ≤ 100000) {g : Ty → Ty → List Ty → Bool × List Ty} (IH : FitAt 17 ds row S base dv rv bv f g) :
    FitAt 26 ds row S base dv rv bv (f + 1) (partsP g) := by
  intro p t by' pv tv w hp ht hby hst hpv htv
  have HIH := hid IH
  have HST := hid hst
  have HBY := hid hby
  have HPS := hid hp
  have HTS := hid ht
  obtain ⟨x, rfl, hx⟩ := hpv
  obtain ⟨y, rfl, hy⟩ := htv
  have HX := hid hx
  have HY := hid hy
  obtain ⟨a1, cap1, rfl, _⟩ := hx
  obtain ⟨a2, cap2, rfl, _⟩ := hy
  obtain ⟨r, hr⟩ : ∃ r, r = partsP g p t by' := ⟨_, rfl⟩
  rw [← hr]
  have HR := hid hr
  obtain ⟨B, hB⟩ : ∃ B, B = w.heap.size := ⟨_, rfl⟩
  obtain ⟨W1, hW1⟩ : ∃ W1, W1 = (w.alloc (.cells #[.int .i64 p.kind, .string ⟨p.name.toArray⟩, .slice a1 p.args.length cap1] 33)).alloc (.cells #[.int .i64 t.kind, .string ⟨t.name.toArray⟩, .slice a2 t.args.length cap2] 33) := ⟨_, rfl⟩
  have X1 : Hid (Ext none' w W1) := hid (by rw [hW1]; exact ((Ext.refl _ _).alloc _).alloc _)
  have G0 : Hid (W1.heap[B]? = some (.cells #[.int .i64 p.kind, .string ⟨p.name.toArray⟩, .slice a1 p.args.length cap1] 33 (0, 0))) := hid (by rw [hW1]; exact heap_alloc_keep (heap_alloc_at hB _) _)
  have G1 : Hid (W1.heap[B + 1]? = some (.cells #[.int .i64 t.kind, .string ⟨t.name.toArray⟩, .slice a2 t.args.length cap2] 33 (0, 0))) := hid (by rw [hW1]; exact heap_alloc_at (by rw [hB]; simp) _)
  have HB := hid hB
  have HBV := hid (show ∀ b, plus none' bv b → b < w.heap.size from fun b hb => hb.elim (fun h => h.elim) fun h' => (hst.b.lt b h').2)
  have hs : ((f + 1 : Nat) : Int) - 1 = (f : Int) := by omega
  obtain ⟨F, hF⟩ : ∃ F : Int, F = ((f + 1 : Nat) : Int) := ⟨_, rfl⟩
  have hFb : F ≤ 100001 ∧ 1 ≤ F := by omega
  rw [← hF] at hs ⊢
  have hla : p.args.length ≤ 100000000000 := by have := Ty.args_len p; unfold bigD at hp; omega
  have c2 := cell_at G0.out 2
  have d2 := cell_at G1.out 2
  simp only [List.getElem?_toArray, List.getElem?_cons_zero, List.getElem?_cons_succ] at c2 d2
  clear hF hr IH hst hby hp ht
  by_cases hl : p.args.length = t.args.length
  · have q0 : ((p.args.length : Int) != (t.args.length : Int)) = false := by simp only [bne_eq_false_iff_eq]; omega
    have HL := hid hl
    have HRA : Hid (r = partsAt g p t by' p.args.length) := hid (by rw [HR.out]; exact partsP_at g p t by' hl)
    clear hl
    go_enter Try.func26, Try.ntmps26
    go_upto_region 1 with (fail)
    rw [← hB, ← hW1]
    clear hB hW1
    go_step3
    go_wp2_with fail
    go_step3
    go_wp2_with fail
    go_loopw [9, 22] (fun u z wr => ∃ (i : Nat), z = .int .i64 (i : Nat) ∧ i ≤ p.args.length ∧ u = .bool true ∧ Hid (PRel ds row S base dv rv bv g p t by' B #[.int .i64 p.kind, .string ⟨p.name.toArray⟩, .slice a1 p.args.length cap1] #[.int .i64 t.kind, .string ⟨t.name.toArray⟩, .slice a2 t.args.length cap2] w wr i)) (fun _ z _ => p.args.length - (RowKit.intOf z).toNat)
    case atStart => exact ⟨0, rfl, by omega, rfl, hid ⟨G0.out, G1.out, HST.out.ext X1.out, X1.out.mono fun _ _ h => h.elim, rfl, HBY.out⟩⟩
    case round =>
      obtain ⟨i, rfl, hle, rfl, R⟩ := hrel
      by_cases hi : i < p.args.length
      · have hit : i < t.args.length := by have := HL.out; omega
        obtain ⟨b, off, cs, rfl, _, hbw, hcc, hty⟩ := (HX.out.ext isTy_good R.out.hx fun _ _ h => h).at i hi
        obtain ⟨x, rfl, hx⟩ := hty.parts
        obtain ⟨b', off', cs', rfl, _, hbw', hcc', hty'⟩ := (HY.out.ext isTy_good R.out.hx fun _ _ h => h).at i hit
        obtain ⟨x', rfl, hx'⟩ := hty'.parts
        have c0 := hcc 0 _ rfl
        have c1 := hcc 1 _ rfl
        have c2 := hcc 2 _ rfl
        simp only [Nat.add_zero] at c0
        have HX3 := hid hx
        have HX4 := hid hx'
        obtain ⟨a3, cap3, rfl, _⟩ := hx
        obtain ⟨a4, cap4, rfl, _⟩ := hx'
        have hcc' := hid hcc'
        obtain ⟨px, hpx⟩ : ∃ px, p.args[i] = px := ⟨_, rfl⟩
        obtain ⟨tx, htx⟩ : ∃ tx, t.args[i] = tx := ⟨_, rfl⟩
        have hpz : px.size ≤ bigD := by have := Ty.size_arg (List.getElem_mem hi); rw [hpx] at this; have := HPS.out; omega
        have htz : tx.size ≤ bigD := by have := Ty.size_arg (List.getElem_mem hit); rw [htx] at this; have := HTS.out; omega
        have HNX : Hid (partsAt g p t by' (i + 1) = g px tx (partsAt g p t by' i).2) := hid (by
          rw [partsAt, if_pos R.out.ok, List.getD_eq_getElem?_getD, List.getElem?_eq_getElem hi, List.getD_eq_getElem?_getD, List.getElem?_eq_getElem hit, ← hpx, ← htx]
          rfl)
        rw [hpx] at c0 c1 c2 HX3
        rw [htx] at hcc' HX4
        have CI := hid fun (W : World) (X : Ext none' wr W) => HIH.out px tx (partsAt g p t by' i).2 (.agg #[.int .i64 px.kind, .string ⟨px.name.toArray⟩, .slice a3 px.args.length cap3]) (.agg #[.int .i64 tx.kind, .string ⟨tx.name.toArray⟩, .slice a4 tx.args.length cap4]) W hpz htz R.out.sz (R.out.st.ext X) ⟨_, rfl, HX3.out.ext isTy_good X fun _ _ h => h.elim⟩ ⟨_, rfl, HX4.out.ext isTy_good X fun _ _ h => h.elim⟩
        clear hpx htx hcc hty hty' hpz htz
        go_upto_region 7 with (fail)
        obtain ⟨W2, hW2⟩ : ∃ W2, W2 = wr.alloc (.cells #[.int .i64 px.kind, .string ⟨px.name.toArray⟩, .slice a3 px.args.length cap3] 33) := ⟨_, rfl⟩
        obtain ⟨T, hT⟩ : ∃ T, T = wr.heap.size := ⟨_, rfl⟩
        have X2 : Hid (Ext none' wr W2) := hid (by rw [hW2]; exact (Ext.refl _ _).alloc _)
        have GT : Hid (W2.heap[T]? = some (.cells #[.int .i64 px.kind, .string ⟨px.name.toArray⟩, .slice a3 px.args.length cap3] 33 (0, 0))) := hid (by rw [hW2]; exact heap_alloc_at hT _)
        rw [← hW2, ← hT]
        clear hW2 hT c0 c1 c2
        have k0 := fun t' : LaterF none' W2 => cell_at (t'.x.heap GT.out (fun h => h)) 0
        have k1 := fun t' : LaterF none' W2 => cell_at (t'.x.heap GT.out (fun h => h)) 1
        have k2 := fun t' : LaterF none' W2 => cell_at (t'.x.heap GT.out (fun h => h)) 2
        have d2' := fun t' : LaterF none' W2 => cell_at ((X2.out.trans t'.x).heap R.out.g1 (fun h => h)) 2
        have y0 := fun t' : LaterF none' W2 => ((X2.out.trans t'.x).cell (p := ⟨b', off' + i * 3, none⟩) hbw' (fun h => h)).trans (by simpa using hcc'.out 0 _ rfl)
        have y1 := fun t' : LaterF none' W2 => ((X2.out.trans t'.x).cell (p := ⟨b', off' + i * 3 + 1, none⟩) hbw' (fun h => h)).trans (hcc'.out 1 _ rfl)
        have y2 := fun t' : LaterF none' W2 => ((X2.out.trans t'.x).cell (p := ⟨b', off' + i * 3 + 2, none⟩) hbw' (fun h => h)).trans (hcc'.out 2 _ rfl)
        simp only [List.getElem?_toArray, List.getElem?_cons_zero, List.getElem?_cons_succ] at k0 k1 k2 d2'
        refine region_q none' W2 (.qs [0, 1, 2, 3, 4, 5, 6, 7, 8] (.one 9 false .fin)) (by kernel_rfl) (by kernel_rfl) (fun dst v c a w h => by cases dst <;> exact h) ?_
        refine ⟨In.of (Ext.refl _ _).drew, ?_⟩
        change wpQuiet _ _ (fun w' => ∃ t : LaterF none' W2, w' = t.w) _ _ _
        simp only [sel, List.getElem?_cons_succ, List.getElem?_cons_zero]
        repeat (go_big_quiet_step (fail))
        refine wpQuiet_nil ?_
        simp only [wpTreeQ, stepT, sel, List.getElem?_cons_succ, List.getElem?_cons_zero]
        clear k0 k1 k2 d2' y0 y1 y2
        go_wp2_with fail
        refine (CI.out _ X2.out.drew).mono ?_
        rintro e W3 ⟨rfl, S3, X3, Z3⟩
        rw [← HNX.out] at S3 Z3 ⊢
        have X3 : Ext (plus none' bv) wr W3 := (X2.out.drew.mono fun _ _ h => h.elim).trans X3
        have hBne : ∀ k, w.heap.size ≤ k → ¬ plus none' bv k := fun k hk h => by have := HBV.out k h; omega
        have N : Hid ((partsAt g p t by' (i + 1)).1 = true → PRel ds row S base dv rv bv g p t by' B #[.int .i64 p.kind, .string ⟨p.name.toArray⟩, .slice (some ⟨b, off, none⟩) p.args.length cap1] #[.int .i64 t.kind, .string ⟨t.name.toArray⟩, .slice (some ⟨b', off', none⟩) t.args.length cap2] w W3 (i + 1)) := hid fun h =>
          ⟨X3.heap R.out.g0 (hBne _ (by have := HB.out; omega)), X3.heap R.out.g1 (hBne _ (by have := HB.out; omega)), S3, R.out.hx.trans X3, h, Z3⟩
        have FIN : Hid ((partsAt g p t by' (i + 1)).1 = false → FitPost ds row S base dv rv bv r w (.returned (.bool false)) W3) := hid fun h => by
          have hb := partsAt_bad h p.args.length (by omega)
          rw [HRA.out, hb]
          exact ⟨by rw [h], S3, R.out.hx.trans X3, Z3⟩
        clear S3 X3 Z3 hBne
        obtain ⟨q, hq⟩ : ∃ q, (partsAt g p t by' (i + 1)).1 = q := ⟨_, rfl⟩
        rw [hq] at N FIN ⊢
        clear hq
        cases q with
        | true =>
          go_wp2_with fail
          go_roundw
          case rel => exact ⟨i + 1, by go_num, by omega, rfl, hid (N.out (by trivial))⟩
          case measure => simp [RowKit.intOf]; omega
        | false =>
          go_wp2_with fail
          go_ret
          exact FIN.out (by trivial)
      · obtain rfl : i = p.args.length := by omega
        go_wp2_with fail
        go_ret
        rw [HRA.out]
        exact ⟨by rw [R.out.ok]; rfl, R.out.st, R.out.hx, R.out.sz⟩
  · have q0 : ((p.args.length : Int) != (t.args.length : Int)) = true := by simp only [bne_iff_ne, ne_eq]; omega
    have e1 : Hid (r = (false, by')) := hid (by rw [HR.out, partsP, if_pos hl])
    clear hl
    go_enter Try.func26, Try.ntmps26
    go_upto_region 1 with (fail)
    rw [← hB, ← hW1]
    clear hB hW1
    go_step3
    go_wp2_with fail
    go_ret
    rw [e1.out]
    exact ⟨rfl, HST.out.ext X1.out, X1.out.mono fun _ _ h => h.elim, HBY.out⟩
end Go.Proofs.Ytmlhkgocilpobaa
