import Derived.Test.YtielcpnalepkfaaDoorLitQuoted
import Derived.Test.YtielcpnalepkfaaDoorLitNum3
import Derived.Test.YtielcpnalepkfaaDoorMaxL
import Derived.Defers
import Derived.Recover
import Derived.RegionTactic
import Derived.Lib.ConvBytes
import Derived.Laws.DeepStrings4
namespace Go.Proofs.YtielcpnalepkfaaDoor
open Go.RowKit Go.Lib Go.BigFrame
theorem region_in3d {P : Program} {id : Nat} {Q : Exit → Act → World → Prop} {a : Act} {w : World} {l : List Oper} (F : Nat → Prop) (w0 : World) (lA lB lC : List Nat) (hm : P.follows .mixedOrders = true) (hB : mixed3B l.toArray lA lB lC = true) (hdA : dstsB l.toArray lA = true) (hdC : dstsB l.toArray lC = true)
    (hQ : ∀ d v c a w, 4 ≤ d → Q (.panic c) (a.put (some d) v) w → Q (.panic c) a w) (hC : Ext F w0 w)
    (h : wpQuiet P l.toArray (fun w' => ∃ t : LaterF F w0, w' = t.w) (fun a' => wpChainK P l Q (In F w0) (fun a2 w2 => wpQuiet P l.toArray (fun w' => ∃ t : LaterF F w0, w' = t.w) (fun a3 => Q .normal a3 w2) (sel l lC) a2) lB a' w.drew) (sel l lA) a) : (Code.region id l.toArray true).wp P Q a w :=
  region_mixed3d (In F w0) lA lB lC hm hB hdA hdC hQ (In.of hC.drew) h
theorem tcatch_idle (a b : Addr) (w : World) :
    CallsD Tryd.prog 23 #[.pointer (some a), .pointer (some b)] .returning w fun e u' w' => e = .returned (.tuple #[]) ∧ u' = .returning ∧ w' = w := by
  refine callsD_of_wpS Tryd.func23 rfl fun c₀ cs hu => ?_
  apply wpS_seq
  apply wpS_region
  simp [wpOpsS, go_sem, recoverD, hu, Tryd.ntmps23, Exit.thenS]
  apply wpS_seq
  apply wpS_region
  simp [wpOpsS, go_sem, Exit.thenS]
  refine wpS_cond (t := false) (by simp [Act.eval, Array.replicate]) ?_
  simp only [Bool.false_eq_true, if_false]
  refine wpS_of_wp (wp_skip ?_)
  cases c₀
  simp_all [bodyPostS, results, Tryd.results23]
theorem wp_frame {P : Program} {c : Code} {Q : Exit → Act → World → Prop} {t t' : Array Value} {d : List Deferred} {w : World} (h : t = t') (hw : c.wp P Q ⟨t', d⟩ w) : c.wp P Q ⟨t, d⟩ w := by rw [h]; exact hw
def TCatchEnd (x y : Nat) (w : World) (e : Exit) (a : Act) (w' : World) : Prop :=
  e = .normal ∧ a.defers = [] ∧ ∃ w1, Ext none' w w1 ∧ w' = (w1.setCell ⟨x, 0, none⟩ (.string ⟨#[]⟩)).setCell ⟨y, 0, none⟩ (.int .i64 4)
theorem tcatch_panic (x y : Nat) (vx vy : Value) (w : World) (hx : w.heap[x]? = some (.cells #[vx] 9 (0, 0))) (hy : w.heap[y]? = some (.cells #[vy] 24 (0, 0))) (hxy : x ≠ y) :
    CallsD Tryd.prog 23 #[.pointer (some ⟨x, 0, none⟩), .pointer (some ⟨y, 0, none⟩)] (.panicking [{ v := gaveW, recovered := false }]) w fun e u' w' =>
      e = .returned (.tuple #[]) ∧ u' = .panicking [{ v := gaveW, recovered := true }] ∧ TCatchEnd x y w .normal ⟨#[], []⟩ w' := by
  refine callsD_of_wpS Tryd.func23 rfl fun c₀ cs hu => ?_
  apply wpS_seq
  apply wpS_region
  simp [wpOpsS, go_sem, recoverD, hu, Tryd.ntmps23, Exit.thenS]
  apply wpS_seq
  apply wpS_region
  simp [wpOpsS, go_sem, Exit.thenS, gaveW]
  refine wpS_cond (t := true) (by simp [Act.eval, Array.replicate]) ?_
  simp only [if_true]
  have hta : ∀ w, (Instr.typeAssert (.iface 45 (.agg #[])) 20 45 true).run Tryd.prog w = .ok (.tuple #[.agg #[], .bool true]) w := fun _ => by kernel_rfl
  refine wpS_of_wp (Go.wp_mono (Q := TCatchEnd x y w) ?_ ?_)
  · clear hu
    have HX := hid hx
    have HY := hid hy
    clear hx hy
    refine wp_frame (t' := #[.pointer (some ⟨x, 0, none⟩), .pointer (some ⟨y, 0, none⟩), (.iface 45 (.agg #[])), undef, undef, (.iface 45 (.agg #[])), (.iface 45 (.agg #[])), .bool true, undef, undef, undef, undef, undef, undef, undef, undef]) (by kernel_rfl) ?_
    obtain ⟨W1, hW1⟩ : ∃ W1, W1 = w.alloc (.cells #[] 45) := ⟨_, rfl⟩
    have X1 : Ext none' w W1 := by rw [hW1]; exact (Ext.refl _ _).alloc _
    have gx := X1.heap HX.out (fun h => h)
    have gy := X1.heap HY.out (fun h => h)
    have fx := free_at gx 0
    have fy := free_at gy 0
    have cx := cell_at gx 0
    have cy := cell_at gy 0
    simp only [List.getElem?_toArray, List.getElem?_cons_zero] at cx cy
    rw [hW1] at fx fy cx cy
    have HW := hid hW1
    have HX1 := hid X1
    clear gx gy hW1 X1
    go_wp2_with fail
    exact ⟨rfl, rfl, _, (Ext.refl none' w).alloc _, rfl⟩
  · rintro e a w' ⟨rfl, h1, w1, h2, rfl⟩
    cases c₀
    simp_all [bodyPostS, results, Tryd.results23, gaveW]
    exact ⟨rfl, rfl, w1, h2, rfl⟩
theorem two_cells {w : World} {x y : Nat} {vx vy a b : Value} {t1 t2 : TypeId} (hx : w.heap[x]? = some (.cells #[vx] t1 (0, 0))) (hy : w.heap[y]? = some (.cells #[vy] t2 (0, 0))) (hxy : x ≠ y) :
    ((w.setCell ⟨x, 0, none⟩ a).setCell ⟨y, 0, none⟩ b).cell? ⟨x, 0, none⟩ = some a ∧ ((w.setCell ⟨x, 0, none⟩ a).setCell ⟨y, 0, none⟩ b).cell? ⟨y, 0, none⟩ = some b := by
  have h1 := heap_setCell_same hx 0 a
  have h2 := heap_setCell_other (p := ⟨x, 0, none⟩) hy (by simpa using hxy) a
  have h4 := heap_setCell_other (p := ⟨y, 0, none⟩) h1 (by simpa using Ne.symm hxy) b
  have h5 := heap_setCell_same h2 0 b
  exact ⟨by rw [cell_at h4]; rfl, by rw [cell_at h5]; rfl⟩
def tdef (x y : Nat) : Deferred := { target := .fn (.func 23) #[.pointer (some ⟨x, 0, none⟩), .pointer (some ⟨y, 0, none⟩)], args := #[] }
/-- It gives up: nothing, and the error. -/
theorem text_panic {w W : World} {tmps : Array Value} {x y : Nat} {vx vy : Value} {p : List UInt8 × Nat} (hp : p = ([], 4)) (h2 : tmps[2]? = some (.pointer (some ⟨x, 0, none⟩))) (h3 : tmps[3]? = some (.pointer (some ⟨y, 0, none⟩)))
    (hx : W.heap[x]? = some (.cells #[vx] 9 (0, 0))) (hy : W.heap[y]? = some (.cells #[vy] 24 (0, 0))) (hxy : x ≠ y) (hwx : w.heap.size ≤ x) (hwy : w.heap.size ≤ y) (X : Ext none' w W) :
    Leaves Tryd.prog Tryd.f11 tmps (NumPost p w) [tdef x y] (.panicking [{ v := gaveW, recovered := false }]) W := by
  refine leaves_cons (f := 23) (args := #[.pointer (some ⟨x, 0, none⟩), .pointer (some ⟨y, 0, none⟩)]) (by simp) (by simp [go_sem]) ?_
  refine (tcatch_panic x y _ _ W hx hy hxy).mono ?_
  rintro e u' w'' ⟨rfl, rfl, _, _, w1, x1, rfl⟩
  have hx1 := x1.heap hx (fun h => h)
  have hy1 := x1.heap hy (fun h => h)
  obtain ⟨cx, cy⟩ := two_cells (a := .string ⟨#[]⟩) (b := .int .i64 4) hx1 hy1 hxy
  simp only [Leaves, settle, List.dropWhile]
  subst hp
  exact ⟨.tuple #[.string ⟨#[]⟩, .int .i64 4], by simp [results, Tryd.results11, go_sem, h2, h3, cx, cy], rfl, ((X.trans x1).setNew hwx 0 _).setNew hwy 0 _⟩
/-- It answers. -/
theorem text_ret {w W : World} {tmps : Array Value} {x y : Nat} {p : List UInt8 × Nat} {a b : Value} (ha : a = .string ⟨p.1.toArray⟩) (hb : b = .int .i64 (p.2 : Nat)) (h2 : tmps[2]? = some (.pointer (some ⟨x, 0, none⟩))) (h3 : tmps[3]? = some (.pointer (some ⟨y, 0, none⟩)))
    (cx : W.cell? ⟨x, 0, none⟩ = some a) (cy : W.cell? ⟨y, 0, none⟩ = some b) (X : Ext none' w W) :
    Leaves Tryd.prog Tryd.f11 tmps (NumPost p w) [tdef x y] .returning W := by
  refine leaves_cons (f := 23) (args := #[.pointer (some ⟨x, 0, none⟩), .pointer (some ⟨y, 0, none⟩)]) (by simp) (by simp [go_sem]) ?_
  refine (tcatch_idle _ _ _).mono ?_
  rintro e u' w'' ⟨rfl, rfl, rfl⟩
  simp only [Leaves, settle]
  subst ha hb
  exact ⟨.tuple #[.string ⟨p.1.toArray⟩, .int .i64 (p.2 : Nat)], by simp [results, Tryd.results11, go_sem, h2, h3, cx, cy], rfl, X⟩
/-- The post of a piece: a panic is ours, and the first slots are as they were. -/
def PanQ (x y : Nat) (W0 : World) (Q : Exit → Act → World → Prop) : Exit → Act → World → Prop
  | .panic c, a, w => c = [{ v := gaveW, recovered := false }] ∧ a.defers = [tdef x y] ∧ a.tmps[2]? = some (.pointer (some ⟨x, 0, none⟩)) ∧ a.tmps[3]? = some (.pointer (some ⟨y, 0, none⟩)) ∧ Ext none' W0 w
  | e, a, w => Q e a w
theorem PanQ.put {x y : Nat} {W0 : World} {Q : Exit → Act → World → Prop} : ∀ d v c a w, 4 ≤ d → PanQ x y W0 Q (.panic c) (a.put (some d) v) w → PanQ x y W0 Q (.panic c) a w := by
  rintro d v c a w hd ⟨h1, h2, h3, h4, h5⟩
  have n2 : d ≠ (2 : Nat) := fun e => by rw [e] at hd; exact absurd hd (by decide)
  have n3 : d ≠ (3 : Nat) := fun e => by rw [e] at hd; exact absurd hd (by decide)
  refine ⟨h1, h2, ?_, ?_, h5⟩
  · rw [← h3]; simp [Act.put, n2]
  · rw [← h4]; simp [Act.put, n3]
/-- A text, made bytes. -/
theorem conv_str (W : World) (s : List UInt8) (hs : s.length ≤ 1000000) : ∃ W' cap, (convert 9 23 (.string ⟨s.toArray⟩)).run Tryd.prog W = .ok (.slice (some ⟨W.heap.size, 0, none⟩) s.length cap) W' ∧
    Bytes (W.heap.size + 1) W' (.slice (some ⟨W.heap.size, 0, none⟩) s.length cap) s ∧ Ext none' W W' := by
  have h := Lib.run_convert_string_bytes (P := Tryd.prog) W 9 23 5 ⟨s.toArray⟩ Tryd.underlying9 Tryd.underlying23 Tryd.underlying5
  rw [bsize] at h
  have hge := grownCap_ge W s.length 0 5
  have hle := grownCap_le_maxLen W s.length 0 5 (by unfold maxLen; omega)
  refine ⟨_, _, h, ⟨_, _, rfl, hge, by unfold maxLen at hle; omega, (fun h => by cases h), fun _ => ⟨_, _, rfl, by omega, by rw [Lib.bytesWorld_size]; omega, fun j hj => ?_⟩⟩, ⟨rfl, rfl, rfl, by rw [Lib.bytesWorld_size]; omega, fun k hk _ => Lib.bytesWorld_at_old _ _ _ _ hk⟩⟩
  rw [Nat.zero_add, Lib.bytesWorld_cell _ _ _ _ (by rw [bsize]; exact hj)]
  simp [List.getD, hj]
/-- No panic. -/
def noPan (Q : Exit → Act → World → Prop) : Exit → Act → World → Prop
  | .panic _, _, _ => False
  | e, a, w => Q e a w
theorem region_pan {P : Program} {id : Nat} {Q : Exit → Act → World → Prop} {a : Act} {w : World} {l : List Oper} (x y : Nat) (W0 : World) (F : Nat → Prop) (w0 : World) (lA lB lC : List Nat) (hm : P.follows .mixedOrders = true) (hB : mixed3B l.toArray lA lB lC = true) (hdA : dstsB l.toArray lA = true) (hdC : dstsB l.toArray lC = true) (hC : Ext F w0 w)
    (hQ : ∀ c a W, PanQ x y W0 Q (.panic c) a W → Q (.panic c) a W)
    (h : wpQuiet P l.toArray (fun w' => ∃ t : LaterF F w0, w' = t.w) (fun a' => wpChainK P l (PanQ x y W0 Q) (In F w0) (fun a2 w2 => wpQuiet P l.toArray (fun w' => ∃ t : LaterF F w0, w' = t.w) (fun a3 => PanQ x y W0 Q .normal a3 w2) (sel l lC) a2) lB a' w.drew) (sel l lA) a) : (Code.region id l.toArray true).wp P Q a w :=
  Go.wp_mono (region_in3d (Q := PanQ x y W0 Q) F w0 lA lB lC hm hB hdA hdC PanQ.put hC h) fun e a w hq => by cases e <;> first | exact hQ _ _ _ hq | exact hq
theorem region_nop {P : Program} {id : Nat} {Q : Exit → Act → World → Prop} {a : Act} {w : World} {l : List Oper} (F : Nat → Prop) (w0 : World) (lA lB lC : List Nat) (hm : P.follows .mixedOrders = true) (hB : mixed3B l.toArray lA lB lC = true) (hC : Ext F w0 w)
    (h : wpQuiet P l.toArray (fun w' => ∃ t : LaterF F w0, w' = t.w) (fun a' => wpChainK P l (noPan Q) (In F w0) (fun a2 w2 => wpQuiet P l.toArray (fun w' => ∃ t : LaterF F w0, w' = t.w) (fun a3 => noPan Q .normal a3 w2) (sel l lC) a2) lB a' w.drew) (sel l lA) a) : (Code.region id l.toArray true).wp P Q a w :=
  Go.wp_mono (region_in3 (Q := noPan Q) F w0 lA lB lC hm hB (fun _ _ _ _ _ h => h) hC h) fun e a w h => by cases e <;> first | exact h | exact h.elim
theorem indexByte_mem (c : UInt8) : ∀ s : List UInt8, (c ∈ s → 0 ≤ Lib.indexByte s c) ∧ (c ∉ s → Lib.indexByte s c = -1)
  | [] => ⟨fun h => by simp at h, fun _ => rfl⟩
  | b :: l => by
    obtain ⟨h1, h2⟩ := indexByte_mem c l
    unfold Lib.indexByte
    by_cases hb : b = c
    · subst hb; exact ⟨fun _ => by simp, fun h => absurd (by simp) h⟩
    · have e : (b == c) = false := by simpa using hb
      rw [e]
      refine ⟨fun h => ?_, fun h => ?_⟩
      · have hm : c ∈ l := by rcases List.mem_cons.1 h with h | h; exact absurd h.symm hb; exact h
        have := h1 hm
        have hn : (Lib.indexByte l c == -1) = false := by simp; omega
        rw [hn]; simp; omega
      · have hm : c ∉ l := fun h' => h (List.mem_cons_of_mem _ h')
        rw [h2 hm]; rfl
theorem replaceK_drop : ∀ (s : List UInt8) (k : Nat), s.count 13 ≤ k → Lib.replaceK [13] [] k s = s.filter (· != 13)
  | [], k, _ => by cases k <;> rfl
  | b :: l, k, h => by
    by_cases hb : b = 13
    · subst hb
      rw [List.count_cons_self] at h
      obtain ⟨j, rfl⟩ : ∃ j, k = j + 1 := ⟨k - 1, by omega⟩
      have hi : Lib.index (13 :: l) [13] = ((0 : Nat) : Int) := by rw [Lib.index_one]; simp [Lib.indexByte]
      rw [Lib.replaceK_hit _ _ _ _ 0 hi]
      have := replaceK_drop l j (by omega)
      simpa using this
    · have hne : (b != 13) = true := by simpa using hb
      have hc : (b :: l).count 13 = l.count 13 := List.count_cons_of_ne (fun e => hb e)
      rw [hc] at h
      have ih := replaceK_drop l k h
      have hbe : (b == (13 : UInt8)) = false := by simpa using hb
      have : Lib.replaceK [13] [] k (b :: l) = b :: Lib.replaceK [13] [] k l := by
        cases k with
        | zero => rfl
        | succ j =>
          have hix : Lib.index (b :: l) [13] = if Lib.index l [13] == -1 then -1 else Lib.index l [13] + 1 := by
            rw [Lib.index_one, Lib.index_one]; conv => lhs; unfold Lib.indexByte
            rw [hbe]; simp
          by_cases hm : Lib.index l [13] = -1
          · rw [hm] at hix
            simp only [Lib.replaceK, hix, hm]
            rfl
          · obtain ⟨i, hi⟩ : ∃ i : Nat, Lib.index l [13] = i := ⟨(Lib.index l [13]).toNat, by have := Lib.index_ge l [13]; omega⟩
            have hi2 : Lib.index (b :: l) [13] = ((i + 1 : Nat) : Int) := by
              rw [hix, hi, if_neg (by simp)]; simp
            rw [Lib.replaceK_hit _ _ _ _ _ hi, Lib.replaceK_hit _ _ _ _ _ hi2]
            simp
      rw [this, ih, List.filter_cons, if_pos hne]
theorem replaceAll_filter (s : List UInt8) : Lib.replaceAll s [13] [] = s.filter (· != 13) := by
  unfold Lib.replaceAll Lib.replace
  rw [if_neg (by simp)]
  refine replaceK_drop s _ ?_
  unfold Lib.replaceNum
  rw [if_pos (.inl (by omega)), Lib.count_one]
  exact Nat.le_refl _
set_option maxRecDepth 100000 in
set_option maxHeartbeats 6400000 in
theorem text_any (s : List UInt8) (w : World) (hT : Tabs w) (hm : MaxL w) (hs : s.length ≤ 1000000) : Calls Tryd.prog 11 #[.string ⟨s.toArray⟩] w (NumPost (textP s) w) := by
  obtain ⟨p, hp⟩ : ∃ p, p = textP s := ⟨_, rfl⟩
  rw [← hp]
  have HP := hid hp
  have HT := hid hT
  have HM := hid hm
  clear hp hT hm
  have hmf : ∀ (fn : Fn) (first cap : Array Value) (w : World), (Instr.makeFunc fn first cap).run Tryd.prog w = .ok (.func fn first cap) w := fun _ _ _ _ => rfl
  have X0 : Ext none' w ((w.alloc (.cells #[.string ⟨#[]⟩] 9)).alloc (.cells #[.int .i64 0] 24)) := ((Ext.refl none' w).alloc _).alloc _
  have gx0 : ((w.alloc (.cells #[.string ⟨#[]⟩] 9)).alloc (.cells #[.int .i64 0] 24)).heap[w.heap.size]? = some (.cells #[.string ⟨#[]⟩] 9 (0, 0)) := heap_alloc_keep (heap_alloc_at rfl _) _
  have gy0 : ((w.alloc (.cells #[.string ⟨#[]⟩] 9)).alloc (.cells #[.int .i64 0] 24)).heap[w.heap.size + 1]? = some (.cells #[.int .i64 0] 24 (0, 0)) := heap_alloc_at (by simp) _
  have HG := hid (And.intro gx0 (And.intro gy0 X0))
  clear X0 gx0 gy0
  go_enter_defers Tryd.func11, Tryd.ntmps11
  by_cases h65 : 65536 < s.length
  · have e : Hid (p = ([], 12)) := hid (by rw [HP.out]; unfold textP; rw [if_pos h65])
    go_wp2_with fail
    simp only [bodyPostD]
    exact text_ret (a := .string ⟨#[]⟩) (b := .int .i64 12) (by rw [e.out]) (by rw [e.out]; rfl) rfl rfl (by rw [cell_at (heap_alloc_keep (heap_alloc_at rfl _) _) 0]; rfl) (by rw [cell_at (heap_alloc_at (by simp) _) 0]; rfl) (((Ext.refl none' w).alloc _).alloc _)
  · have HP1 : Hid (p = if 2 ≤ s.length ∧ s.head? = s.getLast? ∧ wrongP s < 0 then
      (if s.head? = some 34 then (match unq (innerP s) with
        | none => ([], 4)
        | some o => (o, 0))
      else if s.head? = some 96 then (if 96 ∈ innerP s then ([], 4) else ((innerP s).filter (· != 13), 0))
      else ([], 4)) else ([], 4)) := hid (by rw [HP.out]; unfold textP; rw [if_neg h65]; rfl)
    have hs6 : s.length ≤ 65536 := by omega
    clear HP h65
    go_upto_region 4 with (fail)
    obtain ⟨W0, hW0⟩ : ∃ W0, W0 = (w.alloc (.cells #[.string ⟨#[]⟩] 9)).alloc (.cells #[.int .i64 0] 24) := ⟨_, rfl⟩
    rw [← hW0] at HG ⊢
    clear hW0
    obtain ⟨x, hx⟩ : ∃ x, x = w.heap.size := ⟨_, rfl⟩
    rw [← hx] at HG ⊢
    have HXW := hid (show w.heap.size ≤ x by omega)
    clear hx
    have FAIL : Hid (p = ([], 4) → ∀ (Q : Exit → Act → World → Prop), (∀ c (a : Act) W, Q (.panic c) a W = Leaves Tryd.prog Tryd.f11 a.tmps (NumPost p w) a.defers (.panicking c) W) → ∀ c (a : Act) W, PanQ x (x + 1) W0 Q (.panic c) a W → Q (.panic c) a W) := hid (by
      rintro e Q hQ c ⟨tmps, df⟩ W ⟨rfl, h2, h3, h4, h5⟩
      rw [hQ]
      simp only at h2 h3 h4
      subst h2
      exact text_panic e h3 h4 (h5.heap HG.out.1 (fun h => h)) (h5.heap HG.out.2.1 (fun h => h)) (by omega) HXW.out (by have := HXW.out; omega) (HG.out.2.2.trans h5))
    by_cases h2 : 2 ≤ s.length
    · have hdl : decide (2 ≤ (s.length : Int)) = true := by simp; omega
      have hi0 : ∀ W, (Instr.index 9 (.string ⟨s.toArray⟩) (.int .i64 0)).run Tryd.prog W = .ok (.int .u8 ((s[0]'(by omega)).toNat : Nat)) W := fun W => idx_run s 0 (by omega) W
      have hi1 : ∀ W, (Instr.index 9 (.string ⟨s.toArray⟩) (.int .i64 ((s.length : Int) - 1))).run Tryd.prog W = .ok (.int .u8 ((s[s.length - 1]'(by omega)).toNat : Nat)) W := fun W => by
        rw [show (s.length : Int) - 1 = ((s.length - 1 : Nat) : Int) by omega]; exact idx_run s (s.length - 1) (by omega) W
      have hh : s.head? = some (s[0]'(by omega)) := by rw [List.head?_eq_getElem?, List.getElem?_eq_getElem (by omega)]
      have hl : s.getLast? = some (s[s.length - 1]'(by omega)) := by rw [List.getLast?_eq_getElem?, List.getElem?_eq_getElem (by omega)]
      obtain ⟨c, hc⟩ : ∃ c, s[0]'(by omega) = c := ⟨_, rfl⟩
      obtain ⟨d, hd⟩ : ∃ d, s[s.length - 1]'(by omega) = d := ⟨_, rfl⟩
      rw [hc] at hh
      rw [hd] at hl
      simp only [hc] at hi0
      simp only [hd] at hi1
      have HH := hid hh
      have HL := hid hl
      have HC0 := hid hc
      clear hh hl hc hd
      by_cases hcd : c = d
      · subst hcd
        have hcc : ((c.toNat : Int) == (c.toNat : Int)) = true := by simp
        obtain ⟨W2, cap, hcv, hby, hxc⟩ := conv_str W0.drew s hs
        have XC := hid ((Ext.refl none' W0).drew.trans hxc)
        have CW := wrong_any _ s _ W2 hby (HT.out.ext (HG.out.2.2.trans XC.out)) hs
        have HQ0 : Hid (2 ≤ s.length ∧ s.head? = s.getLast?) := hid ⟨h2, by rw [HH.out, HL.out]⟩
        obtain ⟨wq, hwq⟩ : ∃ wq, wrongP s = wq := ⟨_, rfl⟩
        have HWQ := hid hwq
        rw [hwq] at CW
        have CW := hid CW
        clear hby hxc hwq
        by_cases hw : wq < 0
        · have HP2 : Hid (p = (if s.head? = some 34 then (match unq (innerP s) with
              | none => ([], 4)
              | some o => (o, 0))
            else if s.head? = some 96 then (if 96 ∈ innerP s then ([], 4) else ((innerP s).filter (· != 13), 0))
            else ([], 4))) := hid (by rw [HP1.out, if_pos ⟨HQ0.out.1, HQ0.out.2, by rw [HWQ.out]; exact hw⟩])
          have hi0' := hid hi0
          refine region_nop none' W0 [0, 1, 2, 3, 4, 5, 6, 7, 8, 9, 10, 11, 12, 13, 14] [15, 16, 17, 18, 19] [] (by kernel_rfl) (by kernel_rfl) (Ext.refl _ _) ?_
          simp only [sel, List.getElem?_cons_succ, List.getElem?_cons_zero]
          repeat (go_big_quiet_step (fail))
          refine wpQuiet_nil ?_
          simp only [wpChainK, sel, List.getElem?_cons_succ, List.getElem?_cons_zero]
          clear hi0 hi1 hdl hcc
          go_wp2_with fail
          refine ⟨In.of XC.out, ?_⟩
          go_wp2_with fail
          refine CW.out.mono ?_
          rintro e' W3 ⟨rfl, X3⟩
          have X3 := hid (XC.out.trans X3)
          go_wp2_with fail
          refine ⟨In.of X3.out, ?_⟩
          go_wp2_with fail
          refine ⟨In.of X3.out, ?_⟩
          go_wp2_with fail
          refine ⟨In.of X3.out, ?_⟩
          go_wp2_with fail
          refine (wneed_yes _).mono ?_
          rintro e' w1 ⟨rfl, rfl⟩
          go_wp2_with fail
          refine ⟨In.of X3.out, ?_⟩
          refine wpQuiet_nil ?_
          simp only [noPan]
          have gx := X3.out.heap HG.out.1 (fun h => h)
          have gy := X3.out.heap HG.out.2.1 (fun h => h)
          have hi0 := hi0'.out
          have HIN : Hid ((⟨s.toArray⟩ : ByteArray).extract 1 (s.length - 1) = ⟨(innerP s).toArray⟩) := hid (by rw [extract_eq]; rfl)
          have hil : (innerP s).length ≤ 65536 := by unfold innerP; rw [List.length_take]; omega
          have HPP : Hid (p = (if c = 34 then (match unq (innerP s) with
              | none => ([], 4)
              | some o => (o, 0))
            else if c = 96 then (if 96 ∈ innerP s then ([], 4) else ((innerP s).filter (· != 13), 0))
            else ([], 4))) := hid (by rw [HP2.out, HH.out]; simp only [Option.some.injEq])
          obtain ⟨q, hq⟩ : ∃ q, innerP s = q := ⟨_, rfl⟩
          rw [hq] at HIN HPP hil
          have GX := hid gx
          have GY := hid gy
          have LL := hid (show 1 ≤ s.length - 1 ∧ s.length - 1 ≤ s.length by have := HQ0.out.1; omega)
          have hsl2 : 2 ≤ s.length := HQ0.out.1
          have hsl : ∀ W, (Instr.slice 9 (.string ⟨s.toArray⟩) (some (.int .i64 1)) (some (.int .i64 ((s.length : Int) - 1))) none).run Tryd.prog W = .ok (.string ⟨q.toArray⟩) W := fun W => by
            rw [← HIN.out, show (s.length : Int) - 1 = ((s.length - 1 : Nat) : Int) by omega, run_slice_string_if _ _ _ _ _ _ _ Tryd.underlying9, if_pos ⟨by omega, by rw [bsize]; omega⟩, if_pos ⟨by omega, by omega⟩]
            rfl
          clear hq gx gy HP2 hi0' HWQ
          by_cases m1 : c = 34
          · have HP3 : Hid (p = (match unq q with
              | none => ([], 4)
              | some o => (o, 0))) := hid (by rw [HPP.out, if_pos m1])
            subst m1
            have CQ := quoted_any q W3 (by omega)
            cases hu : unq q with
            | none =>
              have e : Hid (p = ([], 4)) := hid (by rw [HP3.out, hu])
              rw [hu] at CQ
              have CQ := hid CQ
              clear hu HPP
              go_wp2_with fail
              refine CQ.out.mono ?_
              rintro e' W4 ⟨rfl, X4⟩
              have Y := hid (X3.out.trans X4)
              go_wp2_with fail
              simp only [bodyPostD]
              exact text_panic e.out rfl rfl (Y.out.heap HG.out.1 (fun h => h)) (Y.out.heap HG.out.2.1 (fun h => h)) (by omega) HXW.out (by have := HXW.out; omega) (HG.out.2.2.trans Y.out)
            | some o =>
              have e : Hid (p = (o, 0)) := hid (by rw [HP3.out, hu])
              rw [hu] at CQ
              have CQ := hid CQ
              clear hu HPP
              go_wp2_with fail
              refine CQ.out.mono ?_
              rintro e' W4 ⟨rfl, X4⟩
              have gx := X4.heap GX.out (fun h => h)
              have gy := X4.heap GY.out (fun h => h)
              have cx := cell_at gx 0
              have cy := cell_at gy 0
              have fx := free_at gx 0
              have fy := free_at gy 0
              simp only [List.getElem?_toArray, List.getElem?_cons_zero] at cx cy
              have TC := hid (two_cells (a := .string ⟨o.toArray⟩) (b := .int .i64 0) gx gy (by omega))
              have Y := hid (X3.out.trans X4)
              clear gx gy X4
              go_wp2_with fail
              simp only [bodyPostD]
              exact text_ret (by rw [e.out]) (by rw [e.out]; rfl) rfl rfl TC.out.1 TC.out.2 (((HG.out.2.2.trans Y.out).setNew HXW.out 0 _).setNew (by have := HXW.out; omega) 0 _)
          · have n1 : ((c.toNat : Int) == 34) = false := by have := u8n m1; simp at this ⊢; omega
            by_cases m2 : c = 96
            · have HP3 : Hid (p = if 96 ∈ q then ([], 4) else (q.filter (· != 13), 0)) := hid (by rw [HPP.out, if_neg m1, if_pos m2])
              subst m2
              have CI := hid fun W => Tryd.strings_IndexByte ⟨q.toArray⟩ 96 W
              have HIM := hid (indexByte_mem 96 q)
              obtain ⟨ib, hib⟩ : ∃ ib, Lib.indexByte q 96 = ib := ⟨_, rfl⟩
              have CI2 : Hid (∀ W, Calls Tryd.prog 27 #[.string ⟨q.toArray⟩, .int .u8 96] W fun e w' => e = .returned (.int .i64 ib) ∧ w' = W) := hid fun W => by rw [← hib]; exact CI.out W
              rw [hib] at HIM
              clear hib m1 HPP
              by_cases hm : 96 ∈ q
              · have e : Hid (p = ([], 4)) := hid (by rw [HP3.out, if_pos hm])
                have hneg : decide (ib < 0) = false := by have := HIM.out.1 hm; simp; omega
                clear hm
                go_wp2_with fail
                refine (CI2.out _).mono ?_
                rintro e' W4 ⟨rfl, rfl⟩
                go_wp2_with fail
                refine (wneed_no _).mono ?_
                rintro e' W4 ⟨rfl, rfl⟩
                go_wp2_with fail
                simp only [bodyPostD]
                exact text_panic e.out rfl rfl GX.out GY.out (by omega) HXW.out (by have := HXW.out; omega) (HG.out.2.2.trans X3.out)
              · have e : Hid (p = (q.filter (· != 13), 0)) := hid (by rw [HP3.out, if_neg hm])
                have hib1 := HIM.out.2 hm
                subst hib1
                have HMW := HM.out.ext (HG.out.2.2.trans X3.out) (fun h => h)
                obtain ⟨mm, hmm⟩ := HMW.2
                have CR := hid (Tryd.strings_ReplaceAll ⟨q.toArray⟩ ⟨#[13]⟩ ⟨#[]⟩ mm W3 (by rw [bsize]; omega) hmm (by decide) (by rw [bsize]; show _ + _ * 0 ≤ _; omega))
                have HRF := hid (replaceAll_filter q)
                obtain ⟨o, ho⟩ : ∃ o, q.filter (· != 13) = o := ⟨_, rfl⟩
                rw [ho] at e HRF
                have CR2 : Hid (Calls Tryd.prog 28 #[.string ⟨q.toArray⟩, .string ⟨#[13]⟩, .string ⟨#[]⟩] W3 fun e w' => e = .returned (.string ⟨o.toArray⟩) ∧ Below W3.heap.size W3 w') := hid (by
                  rw [← HRF.out]; exact CR.out)
                clear hm ho hmm HMW
                go_wp2_with fail
                refine (CI2.out _).mono ?_
                rintro e' W4 ⟨rfl, rfl⟩
                go_wp2_with fail
                refine (wneed_yes _).mono ?_
                rintro e' W4 ⟨rfl, rfl⟩
                go_wp2_with fail
                refine CR2.out.mono ?_
                rintro e' W4 ⟨rfl, hbl⟩
                have X4 := Ext.of_below (F := none') hbl
                have gx := X4.heap GX.out (fun h => h)
                have gy := X4.heap GY.out (fun h => h)
                have cx := cell_at gx 0
                have cy := cell_at gy 0
                have fx := free_at gx 0
                have fy := free_at gy 0
                simp only [List.getElem?_toArray, List.getElem?_cons_zero] at cx cy
                have TC := hid (two_cells (a := .string ⟨o.toArray⟩) (b := .int .i64 0) gx gy (by omega))
                have Y := hid (X3.out.trans X4)
                clear gx gy X4 hbl
                go_wp2_with fail
                simp only [bodyPostD]
                exact text_ret (by rw [e.out]) (by rw [e.out]; rfl) rfl rfl TC.out.1 TC.out.2 (((HG.out.2.2.trans Y.out).setNew HXW.out 0 _).setNew (by have := HXW.out; omega) 0 _)
            · have e : Hid (p = ([], 4)) := hid (by rw [HPP.out, if_neg m1, if_neg m2])
              have n2 : ((c.toNat : Int) == 96) = false := by have := u8n m2; simp at this ⊢; omega
              have gx := GX.out
              have gy := GY.out
              have cx := cell_at gx 0
              have cy := cell_at gy 0
              have fx := free_at gx 0
              have fy := free_at gy 0
              simp only [List.getElem?_toArray, List.getElem?_cons_zero] at cx cy
              have TC := hid (two_cells (a := .string ⟨#[]⟩) (b := .int .i64 4) gx gy (by omega))
              clear m1 m2 HPP gx gy
              go_wp2_with fail
              simp only [bodyPostD]
              exact text_ret (by rw [e.out]) (by rw [e.out]; rfl) rfl rfl TC.out.1 TC.out.2 (((HG.out.2.2.trans X3.out).setNew HXW.out 0 _).setNew (by have := HXW.out; omega) 0 _)
        · have e : Hid (p = ([], 4)) := hid (by rw [HP1.out, if_neg (fun h => hw (by rw [← HWQ.out]; exact h.2.2))])
          have hdw : decide (wq < 0) = false := by simp; omega
          refine region_pan x (x + 1) W0 none' W0 [0, 1, 2, 3, 4, 5, 6, 7, 8, 9, 10, 11, 12, 13, 14] [15, 16, 17, 18, 19] [] (by kernel_rfl) (by kernel_rfl) (by kernel_rfl) (by kernel_rfl) (Ext.refl _ _) (FAIL.out e.out _ (fun _ _ _ => rfl)) ?_
          simp only [sel, List.getElem?_cons_succ, List.getElem?_cons_zero]
          repeat (go_big_quiet_step (fail))
          refine wpQuiet_nil ?_
          simp only [wpChainK, sel, List.getElem?_cons_succ, List.getElem?_cons_zero]
          clear hi0 hi1 hdl hcc
          go_wp2_with fail
          refine ⟨In.of XC.out, ?_⟩
          go_wp2_with fail
          refine CW.out.mono ?_
          rintro e' W3 ⟨rfl, X3⟩
          have X3 := hid (XC.out.trans X3)
          go_wp2_with fail
          refine ⟨In.of X3.out, ?_⟩
          go_wp2_with fail
          refine ⟨In.of X3.out, ?_⟩
          go_wp2_with fail
          refine ⟨In.of X3.out, ?_⟩
          go_wp2_with fail
          refine (wneed_no _).mono ?_
          rintro e' w1 ⟨rfl, rfl⟩
          exact ⟨rfl, rfl, rfl, rfl, X3.out⟩
      · have e : Hid (p = ([], 4)) := hid (by rw [HP1.out, if_neg (by rw [HH.out, HL.out]; simp [hcd])])
        have hcc : ((c.toNat : Int) == (d.toNat : Int)) = false := by have := u8n hcd; simp; omega
        clear hcd
        refine region_pan x (x + 1) W0 none' W0 [0, 1, 2, 3, 4, 5, 6, 7, 8, 9, 10, 11, 12, 13, 14] [15, 16, 17, 18, 19] [] (by kernel_rfl) (by kernel_rfl) (by kernel_rfl) (by kernel_rfl) (Ext.refl _ _) (FAIL.out e.out _ (fun _ _ _ => rfl)) ?_
        simp only [sel, List.getElem?_cons_succ, List.getElem?_cons_zero]
        repeat (go_big_quiet_step (fail))
        refine wpQuiet_nil ?_
        simp only [wpChainK, sel, List.getElem?_cons_succ, List.getElem?_cons_zero]
        have DR := hid (Ext.refl none' W0).drew
        clear hi0 hi1 hdl hcc
        go_wp2_with fail
        refine ⟨In.of DR.out, ?_⟩
        go_wp2_with fail
        refine ⟨In.of DR.out, ?_⟩
        go_wp2_with fail
        refine ⟨In.of DR.out, ?_⟩
        go_wp2_with fail
        refine ⟨In.of DR.out, ?_⟩
        go_wp2_with fail
        refine (wneed_no _).mono ?_
        rintro e' w1 ⟨rfl, rfl⟩
        exact ⟨rfl, rfl, rfl, rfl, DR.out⟩
    · have e : Hid (p = ([], 4)) := hid (by rw [HP1.out, if_neg (fun h => h2 h.1)])
      have hdl : decide (2 ≤ (s.length : Int)) = false := by simp; omega
      clear h2
      refine region_pan x (x + 1) W0 none' W0 [0, 1, 2, 3, 4, 5, 6, 7, 8, 9, 10, 11, 12, 13, 14] [15, 16, 17, 18, 19] [] (by kernel_rfl) (by kernel_rfl) (by kernel_rfl) (by kernel_rfl) (Ext.refl _ _) (FAIL.out e.out _ (fun _ _ _ => rfl)) ?_
      simp only [sel, List.getElem?_cons_succ, List.getElem?_cons_zero]
      repeat (go_big_quiet_step (fail))
      refine wpQuiet_nil ?_
      simp only [wpChainK, sel, List.getElem?_cons_succ, List.getElem?_cons_zero]
      have DR := hid (Ext.refl none' W0).drew
      clear hdl
      go_wp2_with fail
      refine ⟨In.of DR.out, ?_⟩
      go_wp2_with fail
      refine ⟨In.of DR.out, ?_⟩
      go_wp2_with fail
      refine ⟨In.of DR.out, ?_⟩
      go_wp2_with fail
      refine ⟨In.of DR.out, ?_⟩
      go_wp2_with fail
      refine (wneed_no _).mono ?_
      rintro e' w1 ⟨rfl, rfl⟩
      exact ⟨rfl, rfl, rfl, rfl, DR.out⟩
end Go.Proofs.YtielcpnalepkfaaDoor
