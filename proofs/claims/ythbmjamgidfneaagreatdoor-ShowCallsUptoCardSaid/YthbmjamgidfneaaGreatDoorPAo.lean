import Derived.Test.YthbmjamgidfneaaGreatDoorPAb
import Derived.Test.YthbmjamgidfneaaGreatDoorPAe
import Derived.Shelf.Spec.DecodeRune
import Derived.Test.YthbmjamgidfneaaGreatDoorProg
import Derived.Test.YthbmjamgidfneaaGreatDoorPAa
import Derived.Test.YthbmjamgidfneaaGreatDoorPAd
import Derived.WalkKit
import Derived.ProofKit
import Derived.WalkLawsBesides
import Derived.Test.YthbmjamgidfneaaGreatDoorPAn
import Derived.Defers
import Derived.Recover
import Derived.RegionTactic
import Derived.Test.YthbmjamgidfneaaGreatDoorPAl
set_option maxRecDepth 100000
set_option maxHeartbeats 6400000
namespace Go.Proofs
open Go.Shelf
def Tryz.laysDec_ren : Go.Shelf.Ren := ⟨fun | 32 => 38 | 49 => 86 | n => n, fun | 30 => 37 | 21 => 21 | 3 => 3 | 0 => 0 | 5 => 5 | 4 => 4 | 33 => 60 | 66 => 109 | 25 => 86 | 69 => 112 | 68 => 111 | n => n, fun | 2 => 0 | 3 => 1 | n => n⟩
theorem Tryz.laysDec : Go.Proofs.Lays7.n32 Tryz.prog Tryz.laysDec_ren := {
 mixed := by kernel_rfl
 f32 := Tryz.func38.trans (congrArg some (by kernel_rfl))
 f49 := Tryz.func86.trans (congrArg some (by kernel_rfl))
 t0 := Tryz.underlying0
 a0 := Tryz.isAgg0
 z0 := Tryz.sizeOf0
 v0 := Tryz.zeroValue0
 i0 := by kernel_rfl
 t3 := Tryz.underlying3
 a3 := Tryz.isAgg3
 z3 := Tryz.sizeOf3
 v3 := Tryz.zeroValue3
 i3 := by kernel_rfl
 t4 := Tryz.underlying4
 a4 := Tryz.isAgg4
 z4 := Tryz.sizeOf4
 v4 := Tryz.zeroValue4
 i4 := by kernel_rfl
 t5 := Tryz.underlying5
 a5 := Tryz.isAgg5
 z5 := Tryz.sizeOf5
 v5 := Tryz.zeroValue5
 i5 := by kernel_rfl
 t21 := Tryz.underlying21
 a21 := Tryz.isAgg21
 z21 := Tryz.sizeOf21
 v21 := Tryz.zeroValue21
 i21 := by kernel_rfl
 t25 := Tryz.underlying86
 a25 := Tryz.isAgg86
 z25 := Tryz.sizeOf86
 v25 := Tryz.zeroValue86
 i25 := by kernel_rfl
 t30 := Tryz.underlying37
 a30 := Tryz.isAgg37
 z30 := Tryz.sizeOf37
 v30 := Tryz.zeroValue37
 i30 := by kernel_rfl
 t33 := Tryz.underlying60
 a33 := Tryz.isAgg60
 z33 := Tryz.sizeOf60
 v33 := Tryz.zeroValue60
 i33 := by kernel_rfl
 t66 := Tryz.underlying109
 a66 := Tryz.isAgg109
 z66 := Tryz.sizeOf109
 t68 := Tryz.underlying111
 a68 := Tryz.isAgg111
 z68 := Tryz.sizeOf111
 v68 := Tryz.zeroValue111
 i68 := by kernel_rfl
 t69 := Tryz.underlying112
 a69 := Tryz.isAgg112
 z69 := Tryz.sizeOf112
 v69 := Tryz.zeroValue112
 i69 := by kernel_rfl
 g2 := by kernel_rfl
 g3 := by kernel_rfl }
end Go.Proofs
namespace Go.Proofs.YthbmjamgidfneaaGreatDoor
open Go.RowKit Go.Lib
def IntPost (z : Int) (w : World) (e : Ending) (w' : World) : Prop := e = .returned (.int .i64 z) ∧ Ext none' w w'
theorem decode_drop (s : List UInt8) (pos : Nat) : Utf8.decode ⟨s.toArray⟩ pos = decodeL (s.drop pos) := (decodeL_drop ⟨s.toArray⟩ pos).symm
theorem drop_ne {s : List UInt8} {pos : Nat} (h : pos < s.length) : s.drop pos ≠ [] := by
 intro e
 have := congrArg List.length e
 rw [List.length_drop] at this
 simp at this
 omega
def halts (d : Nat × Nat) (i : Nat) : Prop := d.1 = 0 ∨ d = (65533, 1) ∨ (d.1 = 65279 ∧ 0 < i)
instance (d : Nat × Nat) (i : Nat) : Decidable (halts d i) := by unfold halts; infer_instance
def wrF : Nat → List UInt8 → Nat → Int
 | 0, _, _ => -1
 | f + 1, s, i => if s = [] then -1 else if halts (decodeL s) i then i else wrF f (s.drop (decodeL s).2) (i + (decodeL s).2)
theorem wrF_nil (f i : Nat) : wrF f [] i = -1 := by cases f <;> simp [wrF]
theorem wrF_fuel : ∀ (f g : Nat) (s : List UInt8) (i : Nat), s.length ≤ f → s.length ≤ g → wrF f s i = wrF g s i
 | 0, g, s, i, h, _ => by
  have : s = [] := List.eq_nil_of_length_eq_zero (by omega)
  subst this; rw [wrF_nil, wrF_nil]
 | f + 1, 0, s, i, _, h => by
  have : s = [] := List.eq_nil_of_length_eq_zero (by omega)
  subst this; rw [wrF_nil, wrF_nil]
 | f + 1, g + 1, s, i, hf, hg => by
  by_cases hs : s = []
  · subst hs; rw [wrF_nil, wrF_nil]
  · have h1 := dw1 s
    have hl : 0 < s.length := List.length_pos_iff.2 hs
    have e : (s.drop (decodeL s).2).length ≤ f ∧ (s.drop (decodeL s).2).length ≤ g := by rw [List.length_drop]; omega
    simp only [wrF, if_neg hs]
    rw [wrF_fuel f g _ _ e.1 e.2]
def wrR (s : List UInt8) (i : Nat) : Int := wrF s.length s i
theorem wrR_nil (i : Nat) : wrR [] i = -1 := wrF_nil _ _
theorem wrR_step (s : List UInt8) (i : Nat) (h : s ≠ []) : wrR s i = if halts (decodeL s) i then (i : Int) else wrR (s.drop (decodeL s).2) (i + (decodeL s).2) := by
 have h1 := dw1 s
 have hl : 0 < s.length := List.length_pos_iff.2 h
 obtain ⟨f, hf⟩ : ∃ f, s.length = f + 1 := ⟨s.length - 1, by omega⟩
 have e : (s.drop (decodeL s).2).length ≤ f := by rw [List.length_drop]; omega
 unfold wrR
 rw [hf]
 simp only [wrF, if_neg h]
 rw [wrF_fuel f _ _ _ e (Nat.le_refl _)]
def wrongP (s : List UInt8) : Int := wrR s 0
def Tabs (w : World) : Prop := Lib.Utf8Tabs 0 1 w
theorem Tabs.ext {w w' : World} (h : Tabs w) (hx : Ext none' w w') : Tabs w' := Utf8Tabs_below h (hx.below (Nat.le_refl _) fun _ _ x => x)
def DecPost (d : Nat × Nat) (w : World) (e : Ending) (w' : World) : Prop := e = .returned (.tuple #[.int .i32 d.1, .int .i64 d.2]) ∧ Ext none' w w'
theorem dec_any (b o n cap : Nat) (s : List UInt8) (w : World) (hT : Tabs w) (hn : n = s.length) (hs : s ≠ []) (hc : ∀ j (h : j < s.length), w.cell? ⟨b, o + j, none⟩ = some (.int .u8 ((s[j].toNat : Nat) : Int))) :
  Calls Tryz.prog 38 #[.slice (some ⟨b, o, none⟩) n cap] w (DecPost (decodeL s) w) := by
 subst hn
 have C := Any7.utf8_DecodeRune (P := Tryz.prog) (ρ := Tryz.laysDec_ren) Tryz.laysDec ⟨s.toArray⟩ b o cap w hT (fun j hj => by
  rw [bsize] at hj
  rw [hc j hj]
  show _ = some (Value.int .u8 ((s.toArray[j]!).toNat : Nat))
  simp [hj])
 rw [bsize] at C
 have e : Lib.decodeGo ⟨s.toArray⟩ = decodeL s := by
  have : s.length ≠ 0 := fun h => hs (List.eq_nil_of_length_eq_zero h)
  unfold Lib.decodeGo decodeL
  rw [if_neg (by rw [bsize]; exact this)]
 rw [e] at C
 exact C.mono fun e w' h => ⟨h.1, Ext.of_below h.2⟩
structure WrRel (B : Nat) (s : List UInt8) (p : Int) (w wr : World) (pos : Nat) : Prop where
 le : pos ≤ s.length
 hit : wr.heap[B]? = some (.stringIter ⟨s.toArray⟩ pos)
 hx : Ext none' w wr
 hf : p = wrR (s.drop pos) pos
theorem WrRel.next {B : Nat} {s : List UInt8} {p : Int} {w wr w1 : World} {pos : Nat} {d : Nat × Nat} (w2 : 1 ≤ d.2 ∧ d.2 ≤ s.length - pos) (HS : Hid (p = if halts d pos then (pos : Int) else wrR (s.drop (pos + d.2)) (pos + d.2)))
  (hh : ¬ halts d pos) (H3 : Hid (w1.heap[B]? = some (.stringIter ⟨s.toArray⟩ (pos + d.2)))) (X2 : Hid (Ext none' w w1)) (hit : Hid (wr.iterPos B = pos)) :
  (∃ pos, WrRel B s p w w1 pos) ∧ s.length - w1.iterPos B < s.length - wr.iterPos B := by
 have e : p = wrR (s.drop (pos + d.2)) (pos + d.2) := by rw [HS.out, if_neg hh]
 refine ⟨⟨pos + d.2, by omega, H3.out, X2.out, e⟩, ?_⟩
 rw [iterPos_of H3.out, hit.out]
 omega
theorem wrong_any (B : Nat) (s : List UInt8) (v : Value) (w : World) (hv : Bytes B w v s) (hT : Tabs w) (hs : s.length ≤ 1000000) :
  Calls Tryz.prog 19 #[v] w (IntPost (wrongP s) w) := by
 obtain ⟨p, hp⟩ : ∃ p, p = wrongP s := ⟨_, rfl⟩
 rw [← hp]
 have HP := hid hp
 clear hp
 have hcv := conv_bytes hv 37 5 Tryz.underlying37 Tryz.underlying5 9 Tryz.underlying9
 have HV := hid hv
 obtain ⟨aa, cap, rfl, h1, h2, h3, h4⟩ := hv
 have H4 := hid h4
 have HT := hid hT
 clear h3 h4 hT
 go_enter Tryz.func19, Tryz.ntmps19
 go_wp2_with fail
 go_loopw [] (fun wr => ∃ pos, WrRel w.heap.size s p w wr pos) (fun wr => s.length - wr.iterPos w.heap.size)
 case atStart =>
  refine ⟨0, ⟨by omega, ?_, ?_, HP.out⟩⟩
  · exact heap_alloc_at rfl _
  · exact (Ext.refl _ _).alloc _
 case round =>
  obtain ⟨pos, R⟩ := hrel
  have hle := R.le
  by_cases hp : pos < s.length
  · obtain ⟨d, hd⟩ : ∃ d, Utf8.decode ⟨s.toArray⟩ pos = d := ⟨_, rfl⟩
    have hnx : ∀ ty, (Instr.next (.pointer (some ⟨w.heap.size, 0, none⟩)) true ty).run Tryz.prog wr = .ok (.tuple #[.bool true, .int .i64 pos, .int .i32 d.1]) (wr.iterAt w.heap.size ⟨s.toArray⟩ (pos + d.2)) :=
     fun ty => by rw [← hd]; exact run_next_any_at wr w.heap.size ⟨s.toArray⟩ pos ty R.hit (by rw [bsize]; exact hp)
    have Hd := hid ((decode_drop s pos).symm.trans hd)
    clear hd
    have hne : s ≠ [] := by intro e; subst e; simp at hp
    obtain ⟨b, off, rfl, hbB, hbw, hcell⟩ := H4.out hne
    have hit := hid (iterPos_of R.hit)
    have RR := hid R
    clear R
    have hit2 : (wr.iterAt w.heap.size ⟨s.toArray⟩ (pos + d.2)).heap[w.heap.size]? = some (.stringIter ⟨s.toArray⟩ (pos + d.2)) := iterAt_heap _ _ _ _ _ RR.out.hit
    have X1 : Ext none' w (wr.iterAt w.heap.size ⟨s.toArray⟩ (pos + d.2)) := RR.out.hx.iterAt (.inr (Nat.le_refl _)) _ _
    have hds : s.drop pos ≠ [] := drop_ne hp
    have C : Hid (∀ cap', Calls Tryz.prog 38 #[.slice (some ⟨b, off + pos, none⟩) (s.length - pos) cap'] (wr.iterAt w.heap.size ⟨s.toArray⟩ (pos + d.2)) (DecPost d (wr.iterAt w.heap.size ⟨s.toArray⟩ (pos + d.2)))) := hid fun cap' => by
     have hdec := dec_any b (off + pos) (s.length - pos) cap' (s.drop pos) (wr.iterAt w.heap.size ⟨s.toArray⟩ (pos + d.2))
     rw [Hd.out] at hdec
     refine hdec (HT.out.ext X1) (by rw [List.length_drop]) hds fun j hj => ?_
     rw [List.length_drop] at hj
     rw [X1.cell (p := ⟨b, off + pos + j, none⟩) hbw (fun h => h), Nat.add_assoc, hcell (pos + j) (by omega)]
     simp
    have HX1 := hid X1
    have H2 := hid hit2
    have w1' := dw1 (s.drop pos)
    have w2 := dwle (s.drop pos) hds
    rw [List.length_drop] at w2
    have hstep := wrR_step (s.drop pos) pos hds
    rw [List.drop_drop, Hd.out] at hstep
    rw [Hd.out] at w1' w2
    have HS := hid hstep
    clear X1 hit2 hds hstep hcell
    have HS' : Hid (p = if halts d pos then (pos : Int) else wrR (s.drop (pos + d.2)) (pos + d.2)) := hid (RR.out.hf.trans HS.out)
    go_wp2_with (go_at_call 38; refine (C.out _).mono ?_; rintro e w1 ⟨rfl, X2'⟩; have H3 := hid (X2'.heap H2.out (fun h => h)); have X2 := hid (HX1.out.trans X2'); clear X2')
    · have g : ((d.1 : Int) == 0) = true := by assumption
      have g' : (d.1 : Int) = 0 := eq_of_beq g
      have hh : halts d pos := .inl (by omega)
      have e : p = pos := by rw [HS'.out, if_pos hh]
      go_ret
      exact ⟨by rw [e]; rfl, X2.out⟩
    · have g : (d.1 : Int) = 65533 := by assumption
      have k : ((d.2 : Int) == 1) = true := by assumption
      have k' : (d.2 : Int) = 1 := eq_of_beq k
      have hh : halts d pos := .inr (.inl (Prod.ext (show d.1 = 65533 by omega) (show d.2 = 1 by omega)))
      have e : p = pos := by rw [HS'.out, if_pos hh]
      go_ret
      exact ⟨by rw [e]; rfl, X2.out⟩
    · have g : (d.1 : Int) = 65533 := by assumption
      have k : ((d.2 : Int) == 1) = false := by assumption
      have hh : ¬ halts d pos := by
       rintro (x | x | x)
       · omega
       · rw [x] at k; simp at k
       · omega
      exact WrRel.next ⟨w1', w2⟩ HS' hh H3 X2 hit
    · have g : (d.1 : Int) = 65279 := by assumption
      have k : 0 < pos := by assumption
      have hh : halts d pos := .inr (.inr ⟨by omega, k⟩)
      have e : p = pos := by rw [HS'.out, if_pos hh]
      go_ret
      exact ⟨by rw [e]; rfl, X2.out⟩
    · have g : (d.1 : Int) = 65279 := by assumption
      have k : ¬ 0 < pos := by assumption
      have hh : ¬ halts d pos := by
       rintro (x | x | x)
       · omega
       · rw [x] at g; simp at g
       · omega
      exact WrRel.next ⟨w1', w2⟩ HS' hh H3 X2 hit
    · have g0 : ((d.1 : Int) == 0) = false := by assumption
      have g1 : ¬ (d.1 : Int) = 65533 := by assumption
      have g2 : ¬ (d.1 : Int) = 65279 := by assumption
      have hh : ¬ halts d pos := by
       rintro (x | x | x)
       · rw [x] at g0; simp at g0
       · rw [x] at g1; simp at g1
       · omega
      exact WrRel.next ⟨w1', w2⟩ HS' hh H3 X2 hit
  · have hnx : ∀ ty, (Instr.next (.pointer (some ⟨w.heap.size, 0, none⟩)) true ty).run Tryz.prog wr = _ := fun ty => run_next_end_at wr w.heap.size ⟨s.toArray⟩ pos ty R.hit (by rw [bsize]; exact hp)
    have RR := hid R
    clear R
    have hpl : pos = s.length := by omega
    have e : p = -1 := by rw [RR.out.hf, hpl, List.drop_length, wrR_nil]
    have E := hid e
    clear e
    go_wp2
    go_ret
    exact ⟨by rw [E.out]; rfl, RR.out.hx⟩
end Go.Proofs.YthbmjamgidfneaaGreatDoor
namespace Go.Proofs.YthbmjamgidfneaaGreatDoor
open Go.RowKit Go.Lib Go.BigFrame
theorem catch_idle (a b c : Addr) (w : World) :
  CallsD Tryz.prog 83 #[.pointer (some a), .pointer (some b), .pointer (some c)] .returning w fun e u' w' => e = .returned (.tuple #[]) ∧ u' = .returning ∧ w' = w := by
 refine callsD_of_wpS Tryz.func83 rfl fun c₀ cs hu => ?_
 apply wpS_seq
 apply wpS_region
 simp [wpOpsS, go_sem, recoverD, hu, Tryz.ntmps83, Exit.thenS]
 apply wpS_seq
 apply wpS_region
 simp [wpOpsS, go_sem, Exit.thenS]
 refine wpS_cond (t := false) (by simp [Act.eval, Array.replicate]) ?_
 simp only [Bool.false_eq_true, if_false]
 refine wpS_of_wp (wp_skip ?_)
 cases c₀
 simp_all [bodyPostS, results, Tryz.results83]
theorem wp_frameT {P : Program} {c : Code} {Q : Exit → Act → World → Prop} {t t' : Array Value} {d : List Deferred} {w : World} (h : t = t') (hw : c.wp P Q ⟨t', d⟩ w) : c.wp P Q ⟨t, d⟩ w := by rw [h]; exact hw
def CatchEnd (x y z k : Nat) (w : World) (e : Exit) (a : Act) (w' : World) : Prop :=
 e = .normal ∧ a.defers = [] ∧ ∃ w1, Ext none' w w1 ∧ w' = ((w1.setCell ⟨x, 0, none⟩ (.pointer none)).setCell ⟨y, 0, none⟩ (.int .i64 k)).setCell ⟨z, 0, none⟩ (.int .i64 3)
theorem catch_panic (x y z k : Nat) (vx vy vz : Value) (w : World) (hx : w.heap[x]? = some (.cells #[vx] 55 (0, 0))) (hy : w.heap[y]? = some (.cells #[vy] 3 (0, 0))) (hz : w.heap[z]? = some (.cells #[vz] 26 (0, 0))) (hxy : x ≠ y) (hxz : x ≠ z) (hyz : y ≠ z) :
  CallsD Tryz.prog 83 #[.pointer (some ⟨x, 0, none⟩), .pointer (some ⟨y, 0, none⟩), .pointer (some ⟨z, 0, none⟩)] (.panicking [{ v := gave k, recovered := false }]) w fun e u' w' =>
   e = .returned (.tuple #[]) ∧ u' = .panicking [{ v := gave k, recovered := true }] ∧ CatchEnd x y z k w .normal ⟨#[], []⟩ w' := by
 refine callsD_of_wpS Tryz.func83 rfl fun c₀ cs hu => ?_
 apply wpS_seq
 apply wpS_region
 simp [wpOpsS, go_sem, recoverD, hu, Tryz.ntmps83, Exit.thenS]
 apply wpS_seq
 apply wpS_region
 simp [wpOpsS, go_sem, Exit.thenS, gave]
 refine wpS_cond (t := true) (by simp [Act.eval, Array.replicate]) ?_
 simp only [if_true]
 have hta : ∀ w, (Instr.typeAssert (.iface 79 (.agg #[.int .i64 k])) 20 79 true).run Tryz.prog w = .ok (.tuple #[.agg #[.int .i64 k], .bool true]) w := fun _ => by kernel_rfl
 refine wpS_of_wp (Go.wp_mono (Q := CatchEnd x y z k w) ?_ ?_)
 · clear hu
   have HX := hid hx
   have HY := hid hy
   have HZ := hid hz
   clear hx hy hz
   refine wp_frameT (t' := #[.pointer (some ⟨x, 0, none⟩), .pointer (some ⟨y, 0, none⟩), .pointer (some ⟨z, 0, none⟩), (.iface 79 (.agg #[.int .i64 k])), undef, undef, (.iface 79 (.agg #[.int .i64 k])), (.iface 79 (.agg #[.int .i64 k])), .bool true, undef, undef, undef, undef, undef, undef, undef, undef, undef, undef]) (by kernel_rfl) ?_
   go_wp2
   obtain ⟨W1, hW1⟩ : ∃ W1, W1 = w.alloc (.cells #[.int .i64 k] 79) := ⟨_, rfl⟩
   rw [← hW1]
   have X1 : Ext none' w W1 := by rw [hW1]; exact (Ext.refl _ _).alloc _
   have h4 : W1.heap[w.heap.size]? = some (.cells #[.int .i64 k] 79 (0, 0)) := by rw [hW1]; exact heap_alloc_at rfl _
   have n4 : ∀ t : LaterF (fun i => i = x ∨ i = y ∨ i = z) W1, t.w.cell? ⟨w.heap.size, 0, none⟩ = some (.int .i64 k) := fun t => by
    rw [cell_at (t.x.heap h4 (by have := heap_lt HX.out; have := heap_lt HY.out; have := heap_lt HZ.out; omega))]; rfl
   have gx := X1.heap HX.out (fun h => h)
   have gy := X1.heap HY.out (fun h => h)
   have gz := X1.heap HZ.out (fun h => h)
   have HX1 := hid X1
   have G := hid (And.intro gx (And.intro gy gz))
   clear X1 h4 gx gy gz hW1
   refine region_in (fun i => i = x ∨ i = y ∨ i = z) W1 [0, 1] [(2, true), (3, false), (4, false)] (by kernel_rfl) (by kernel_rfl) (fun dst v c a w h => by cases dst <;> exact h) (Ext.refl _ _) ?_
   simp only [sel, List.getElem?_cons_succ, List.getElem?_cons_zero]
   repeat (go_big_quiet_step (fail))
   refine wpQuiet_nil ?_
   simp only [wpChain, sel, List.getElem?_cons_succ, List.getElem?_cons_zero]
   obtain ⟨W2, hW2⟩ : ∃ W2, W2 = W1.drew := ⟨_, rfl⟩
   rw [← hW2]
   have X2 : Ext none' W1 W2 := by rw [hW2]; exact (Ext.refl _ _).drew
   have gx := X2.heap G.out.1 (fun h => h)
   have gy := X2.heap G.out.2.1 (fun h => h)
   have gz := X2.heap G.out.2.2 (fun h => h)
   have cx := cell_at gx 0
   have cy := cell_at gy 0
   have cz := cell_at gz 0
   have fx := free_at gx 0
   have fy := free_at gy 0
   have fz := free_at gz 0
   simp only [List.getElem?_toArray, List.getElem?_cons_zero] at cx cy cz
   have HX2 := hid X2
   clear n4 gx gy gz hW2 X2
   go_wp2_with fail
   refine ⟨In.of ((HX2.out.mono fun i _ h => h.elim).setCell (p := ⟨x, 0, none⟩) (.inl (.inl rfl)) _), ?_⟩
   go_wp2_with fail
   exact ⟨rfl, rfl, W2, HX1.out.trans HX2.out, rfl⟩
 · rintro e a w' ⟨rfl, h1, w1, h2, rfl⟩
   cases c₀
   simp_all [bodyPostS, results, Tryz.results83, gave]
   exact ⟨rfl, rfl, w1, h2, rfl⟩
end Go.Proofs.YthbmjamgidfneaaGreatDoor
namespace Go.Proofs.YthbmjamgidfneaaGreatDoor
open Go.Lib
theorem sub_len {s : List UInt8} {k m : Nat} : ((s.drop k).take m).length ≤ s.length := by
 rw [List.length_take, List.length_drop]; omega
structure Inv (s : List UInt8) (k : Nat) (l n : List Tok) : Prop where
 ll : l.length ≤ k
 nl : n.length ≤ k
 good : ∀ t ∈ l, TGood t
 short : ∀ t ∈ l, t.text.length ≤ s.length
theorem lineP_len' (l : List Tok) (k : Nat) : (lineP l k).length ≤ l.length + 1 := by unfold lineP; split <;> simp
theorem good_line (p : Nat) : TGood ⟨6, [10], p⟩ := ⟨by simp, fun _ => by simp, by simp⟩
theorem lineP_all {q : Tok → Prop} {l : List Tok} {p : Nat} (h : ∀ t ∈ l, q t) (h2 : q ⟨6, [10], p⟩) : ∀ t ∈ lineP l p, q t := by
 unfold lineP
 split
 · intro t ht
   rcases List.mem_append.1 ht with ht | ht
   · exact h t ht
   · rw [List.mem_singleton] at ht; subst ht; exact h2
 · exact h
theorem snoc_all {q : Tok → Prop} {l : List Tok} {x : Tok} (h : ∀ t ∈ l, q t) (h2 : q x) : ∀ t ∈ l ++ [x], q t := by
 intro t ht
 rcases List.mem_append.1 ht with ht | ht
 · exact h t ht
 · rw [List.mem_singleton] at ht; subst ht; exact h2
theorem signP_mem (r : List UInt8) (h : signP r ≠ 0) : r.take (signP r) ∈ [10] :: (signs3 ++ signs2 ++ signs1) := by
 unfold signP at h ⊢
 split
 · rename_i e; simp [e.2]
 · split
   · rename_i e; simp [e.2]
   · split
     · rename_i e; simp [e]
     · rename_i h1 h2 h3; simp [h1, h2, h3] at h
theorem wordK_le (t : List UInt8) : wordK t ≤ 2 := by unfold wordK; split <;> (try split) <;> simp
theorem Inv.step {s : List UInt8} {k : Nat} {l n l' n' : List Tok} {k' : Nat} (I : Inv s k l n) (h : stepP s k l n = some (k', l', n')) : Inv s k' l' n' := by
 have hle := stepP_le h
 obtain ⟨ll, nl, good, short⟩ := I
 unfold stepP at h
 simp only at h
 cases hr : s.drop k with
 | nil => rw [hr] at h; simp at h
 | cons c t =>
  have hs1 : 1 ≤ s.length := by omega
  have hst : ∀ m, ((c :: t).take m).length ≤ s.length := fun m => by rw [← hr]; exact sub_len
  rw [hr] at h
  simp only [List.head?_cons] at h
  split at h
  · simp at h; obtain ⟨rfl, rfl, rfl⟩ := h; exact ⟨by omega, by omega, good, short⟩
  · split at h
    · simp at h; obtain ⟨rfl, rfl, rfl⟩ := h
      have := lineP_len' l k
      exact ⟨by omega, by omega, lineP_all good (good_line k), lineP_all short (by simpa using hs1)⟩
    · split at h
      · simp at h; obtain ⟨rfl, rfl, rfl⟩ := h; exact ⟨by omega, by omega, good, short⟩
      · split at h
        · cases h
        · rename_i m hm
          have hm2 := (noteP_le hm).1
          simp only [Option.some.injEq, Prod.mk.injEq] at h
          obtain ⟨rfl, rfl, rfl⟩ := h
          have := lineP_len' l k
          refine ⟨?_, by rw [List.length_append, List.length_singleton]; omega, ?_, ?_⟩
          · split <;> omega
          · split
            · exact lineP_all good (good_line k)
            · exact good
          · split
            · exact lineP_all short (by simpa using hs1)
            · exact short
        · split at h
          · simp only [Option.some.injEq, Prod.mk.injEq] at h
            obtain ⟨rfl, rfl, rfl⟩ := h
            refine ⟨by rw [List.length_append, List.length_singleton]; omega, by omega, snoc_all good ?_, snoc_all short (hst _)⟩
            have := wordK_le ((c :: t).take (idLen (c :: t)))
            exact ⟨by simp only; omega, fun e => by simp only at e; omega, by simp only; omega⟩
          · split at h
            · simp only [Option.some.injEq, Prod.mk.injEq] at h
              obtain ⟨rfl, rfl, rfl⟩ := h
              exact ⟨by rw [List.length_append, List.length_singleton]; omega, by omega, snoc_all good ⟨by simp, fun e => by simp at e, by simp⟩, snoc_all short (hst _)⟩
            · split at h
              · split at h
                · cases h
                · simp only [Option.some.injEq, Prod.mk.injEq] at h
                  obtain ⟨rfl, rfl, rfl⟩ := h
                  exact ⟨by rw [List.length_append, List.length_singleton]; omega, by omega, snoc_all good ⟨by simp, fun e => by simp at e, by simp⟩, snoc_all short (hst _)⟩
              · split at h
                · cases h
                · rename_i hsg
                  simp only [Option.some.injEq, Prod.mk.injEq] at h
                  obtain ⟨rfl, rfl, rfl⟩ := h
                  exact ⟨by rw [List.length_append, List.length_singleton]; omega, by omega, snoc_all good ⟨by simp, fun _ => signP_mem _ hsg, by simp⟩, snoc_all short (hst _)⟩
theorem Inv.start (s : List UInt8) : Inv s 0 [] [] := ⟨by simp, by simp, (fun t h => by cases h), (fun t h => by cases h)⟩
inductive ScR where
 | good (l n : List Tok)
 | bad (p e : Nat)
theorem runP_end {s : List UInt8} {f k : Nat} {l n : List Tok} (h : s.length ≤ k) : runP s f k l n = .ok (lineP l s.length, n) := by
 cases f with
 | zero => rfl
 | succ f => unfold runP; rw [if_pos h]
theorem runP_step {s : List UInt8} {f k : Nat} {l n : List Tok} (h : k < s.length) (hf : s.length - k ≤ f) : runP s f k l n = match stepP s k l n with
  | none => .error k
  | some (k', l', n') => runP s (f - 1) k' l' n' := by
 cases f with
 | zero => omega
 | succ f => conv => lhs; unfold runP
             rw [if_neg (by omega)]; rfl
end Go.Proofs.YthbmjamgidfneaaGreatDoor
namespace Go.Proofs.YthbmjamgidfneaaGreatDoor
open Go.RowKit Go.Lib Go.BigFrame
def runR (s : List UInt8) : ScR := match runP s s.length 0 [] [] with
 | .error k => .bad k 3
 | .ok (l, n) => .good l n
def scanR (s : List UInt8) : ScR := if 65536 < s.length then .bad 65536 12 else if 0 ≤ wrongP s then .bad (wrongP s).toNat 2 else runR s
def ScPost (s : List UInt8) (w : World) (r : ScR) (e : Ending) (w' : World) : Prop :=
 match r with
 | .bad p c => e = .returned (.tuple #[.pointer none, .int .i64 p, .int .i64 c]) ∧ Ext none' w w'
 | .good l n => ∃ base sb k, e = .returned (.tuple #[.pointer (some ⟨sb, 0, none⟩), .int .i64 0, .int .i64 0]) ∧ Ext none' w w' ∧ w.heap.size ≤ base ∧ St base sb w' s k l n
def posOf (w : World) (sb : Nat) : Nat := match w.cell? ⟨sb, 1, none⟩ with
 | some (.int _ k) => k.toNat
 | _ => 0
theorem St.pos {base sb : Nat} {w : World} {s : List UInt8} {k : Nat} {l n : List Tok} (st : St base sb w s k l n) : posOf w sb = k := by
 unfold posOf; rw [st.cells.2.1]; simp
def noPanic (Q : Exit → Act → World → Prop) : Exit → Act → World → Prop
 | .panic _, _, _ => False
 | e, a, w => Q e a w
theorem region_inD {P : Program} {id : Nat} {Q : Exit → Act → World → Prop} {a : Act} {w : World} {l : List Oper} (F : Nat → Prop) (w0 : World) (lA : List Nat) (lB : List (Nat × Bool)) (hm : P.follows .mixedOrders = true) (hB : mixedB l.toArray lA lB = true)
  (hC : Ext F w0 w) (h : wpQuiet P l.toArray (fun w' => ∃ t : LaterF F w0, w' = t.w) (fun a' => wpChain P l (noPanic Q) (In F w0) lB a' w.drew) (sel l lA) a) : (Code.region id l.toArray true).wp P Q a w :=
 Go.wp_mono (region_in (Q := noPanic Q) F w0 lA lB hm hB (fun _ _ _ _ _ h => h) hC h) fun e a w h => by cases e <;> first | exact h | exact h.elim
structure ScRel (base sb : Nat) (s : List UInt8) (q : Except Nat (List Tok × List Tok)) (w wr : World) (k : Nat) (l n : List Tok) (f : Nat) : Prop where
 st : St base sb wr s k l n
 le : k ≤ s.length
 inv : Inv s k l n
 hx : Ext (up base) w wr
 run : q = runP s f k l n
 fuel : s.length - k ≤ f
theorem wrF_le : ∀ (f : Nat) (s : List UInt8) (i : Nat), wrF f s i ≤ i + s.length
 | 0, _, _ => by unfold wrF; omega
 | f + 1, s, i => by
  unfold wrF
  split
  · omega
  · split
    · omega
    · rename_i h _
      have := wrF_le f (s.drop (decodeL s).2) (i + (decodeL s).2)
      have := dwle s h
      rw [List.length_drop] at *
      omega
theorem wrongP_le (s : List UInt8) : wrongP s ≤ s.length := by have := wrF_le s.length s 0; unfold wrongP wrR; omega
theorem scan_long (aa : Option Addr) (len cap : Nat) (w : World) (h : 65536 < len) (hm : len ≤ 9223372036854775807) :
  Calls Tryz.prog 37 #[.slice aa len cap] w fun e w' => e = .returned (.tuple #[.pointer none, .int .i64 65536, .int .i64 12]) ∧ Ext none' w w' := by
 go_enter_defers Tryz.func37, Tryz.ntmps37
 go_wp2
 simp only [bodyPostD, Leaves]
 exact ⟨.tuple #[.pointer none, .int .i64 65536, .int .i64 12], by simp [results, Tryz.results37, go_sem], rfl, (((Ext.refl _ _).alloc _).alloc _).alloc _⟩
theorem St.low {base sb : Nat} {w : World} {s : List UInt8} {k : Nat} {l n : List Tok} (st : St base sb w s k l n) {p : Addr} (hp : p.block < base) (u : Value) : St base sb (w.setCell p u) s k l n := by
 obtain ⟨vl, vn, hh, rl, rn, hne, hb⟩ := st
 have x : Ext (fun i => i = p.block) w (w.setCell p u) := Ext.setCell (F := fun i => i = p.block) (p := p) (Ext.refl _ _) (.inl rfl) u
 exact ⟨vl, vn, heap_setCell_other hh (by omega) u, ownsRow_ext rl x (fun g hg e => by have := (rl.lt g hg).1; omega), ownsRow_ext rn x (fun g hg e => by have := (rn.lt g hg).1; omega), hne, hb⟩
theorem three_cells {w : World} {B : Nat} {x y z a b c : Value} {t1 t2 t3 : TypeId} (hx : w.heap[B]? = some (.cells #[x] t1 (0, 0))) (hy : w.heap[B + 1]? = some (.cells #[y] t2 (0, 0))) (hz : w.heap[B + 1 + 1]? = some (.cells #[z] t3 (0, 0))) :
  (((w.setCell ⟨B, 0, none⟩ a).setCell ⟨B + 1, 0, none⟩ b).setCell ⟨B + 1 + 1, 0, none⟩ c).cell? ⟨B, 0, none⟩ = some a ∧
  (((w.setCell ⟨B, 0, none⟩ a).setCell ⟨B + 1, 0, none⟩ b).setCell ⟨B + 1 + 1, 0, none⟩ c).cell? ⟨B + 1, 0, none⟩ = some b ∧
  (((w.setCell ⟨B, 0, none⟩ a).setCell ⟨B + 1, 0, none⟩ b).setCell ⟨B + 1 + 1, 0, none⟩ c).cell? ⟨B + 1 + 1, 0, none⟩ = some c := by
 have h1 := heap_setCell_same hx 0 a
 have h2 := heap_setCell_other (p := ⟨B, 0, none⟩) hy (by simp) a
 have h3 := heap_setCell_other (p := ⟨B, 0, none⟩) hz (by simp only; omega) a
 have h4 := heap_setCell_other (p := ⟨B + 1, 0, none⟩) h1 (by simp) b
 have h5 := heap_setCell_same h2 0 b
 have h6 := heap_setCell_other (p := ⟨B + 1, 0, none⟩) h3 (by simp) b
 have h7 := heap_setCell_other (p := ⟨B + 1 + 1, 0, none⟩) h4 (by simp only; omega) c
 have h8 := heap_setCell_other (p := ⟨B + 1 + 1, 0, none⟩) h5 (by simp) c
 have h9 := heap_setCell_same h6 0 c
 exact ⟨by rw [cell_at h7]; rfl, by rw [cell_at h8]; rfl, by rw [cell_at h9]; rfl⟩
theorem scan_any (B : Nat) (s : List UInt8) (v : Value) (w : World) (hv : Bytes B w v s) (hT : Tabs w) (hm : MaxL w) (hs : s.length ≤ 65536) :
  Calls Tryz.prog 37 #[v] w (ScPost s w (scanR s)) := by
 obtain ⟨p, hp⟩ : ∃ p, p = scanR s := ⟨_, rfl⟩
 rw [← hp]
 have HP := hid hp
 clear hp
 have hcv := fun w' (h : Ext none' w w') => conv_bytes (hv.keep h) 37 5 Tryz.underlying37 Tryz.underlying5 9 Tryz.underlying9
 have HV := hid hv
 obtain ⟨aa, cap, rfl, h1, h2, h3, h4⟩ := hv
 have HM := hid hm
 have HT := hid hT
 have HCV := hid hcv
 clear h3 h4 hT hm hcv
 have hmf := mkf_run
 go_enter_defers Tryz.func37, Tryz.ntmps37
 go_wp2_with fail
 refine (wrong_any B s _ _ (HV.out.keep (((((Ext.refl none' w).alloc _).alloc _).alloc _))) (HT.out.ext (((((Ext.refl none' w).alloc _).alloc _).alloc _))) (by omega)).mono ?_
 obtain ⟨W0, hW0⟩ : ∃ W0, W0 = ((w.alloc (.cells #[.pointer none] 55)).alloc (.cells #[.int .i64 0] 3)).alloc (.cells #[.int .i64 0] 26) := ⟨_, rfl⟩
 rw [← hW0]
 rintro e W ⟨rfl, hX⟩
 have X0 : Ext none' w W0 := by rw [hW0]; exact ((((Ext.refl none' w).alloc _).alloc _).alloc _)
 have z0 : W0.heap.size = w.heap.size + 3 := by rw [hW0]; simp
 have gx0 : W0.heap[w.heap.size]? = some (.cells #[.pointer none] 55 (0, 0)) := by
  rw [hW0]; exact heap_alloc_keep (heap_alloc_keep (heap_alloc_at rfl _) _) _
 have gy0 : W0.heap[w.heap.size + 1]? = some (.cells #[.int .i64 0] 3 (0, 0)) := by
  rw [hW0]; exact heap_alloc_keep (heap_alloc_at (by simp) _) _
 have gz0 : W0.heap[w.heap.size + 1 + 1]? = some (.cells #[.int .i64 0] 26 (0, 0)) := by
  rw [hW0]; exact heap_alloc_at (by simp) _
 have gx := hX.heap gx0 (fun h => h)
 have gy := hX.heap gy0 (fun h => h)
 have gz := hX.heap gz0 (fun h => h)
 have cx := cell_at gx 0
 have cy := cell_at gy 0
 have cz := cell_at gz 0
 have fx := free_at gx 0
 have fy := free_at gy 0
 have fz := free_at gz 0
 simp only [List.getElem?_toArray, List.getElem?_cons_zero] at cx cy cz
 have G := hid (And.intro gx (And.intro gy gz))
 have HXW := hid (X0.trans hX)
 have HZ := hid (show W.heap.size ≥ w.heap.size + 3 by have := hX.size; omega)
 clear gx0 gy0 gz0 gx gy gz hX X0 z0 hW0
 have hwl : wrongP s < 1000000 := by have := wrongP_le s; omega
 by_cases hw : 0 ≤ wrongP s
 · have HP1 : Hid (p = .bad (wrongP s).toNat 2) := hid (by rw [HP.out]; unfold scanR; rw [if_neg (by omega), if_pos hw])
   obtain ⟨q, hq⟩ : ∃ q : Nat, wrongP s = q := ⟨(wrongP s).toNat, by omega⟩
   rw [hq] at HP1 hw hwl ⊢
   clear hq hw
   go_wp2_with fail
   rw [HP1.out]
   simp only [bodyPostD, Leaves]
   refine ⟨.tuple #[.pointer none, .int .i64 q, .int .i64 2], by simp [results, Tryz.results37, go_sem, cx, cy, cz], ?_, ?_⟩
   · rfl
   · exact ((HXW.out.setNew (Nat.le_refl _) 0 _).setNew (by omega) 0 _).setNew (by omega) 0 _
 · have HP1 : Hid (p = runR s) := hid (by rw [HP.out]; unfold scanR; rw [if_neg (by omega), if_neg hw])
   obtain ⟨q, hq⟩ : ∃ q : Int, wrongP s = q := ⟨_, rfl⟩
   rw [hq] at hw hwl ⊢
   have hw' : q < 0 := by omega
   clear hq hw hwl
   have hcv := HCV.out W HXW.out
   have hz3 : w.heap.size + 3 ≤ W.heap.size := HZ.out
   have fx2 : (W.alloc (.cells #[.string ⟨s.toArray⟩, .int .i64 0, .slice none 0 0, .slice none 0 0] 59)).frozen? ⟨w.heap.size, 0, none⟩ = false := free_at (heap_alloc_keep G.out.1 _) 0
   have cx2 : (W.alloc (.cells #[.string ⟨s.toArray⟩, .int .i64 0, .slice none 0 0, .slice none 0 0] 59)).cell? ⟨w.heap.size, 0, none⟩ = some (.pointer none) := by rw [cell_at (heap_alloc_keep G.out.1 _)]; rfl
   clear HP HCV
   go_wp2_with fail
   clear fx2 cx2 hz3 cx cy cz fx fy fz
   obtain ⟨B0, hB0⟩ : ∃ B0, B0 = w.heap.size := ⟨_, rfl⟩
   obtain ⟨sb, hsb⟩ : ∃ sb, sb = W.heap.size := ⟨_, rfl⟩
   rw [← hsb, ← hB0]
   obtain ⟨W1, hW1⟩ : ∃ W1, W1 = (W.alloc (.cells #[.string ⟨s.toArray⟩, .int .i64 0, .slice none 0 0, .slice none 0 0] 59)).setCell ⟨B0, 0, none⟩ (.pointer (some ⟨sb, 0, none⟩)) := ⟨_, rfl⟩
   rw [← hW1]
   have hz1 : B0 + 3 ≤ sb := by rw [hB0, hsb]; exact HZ.out
   have hsbh : W1.heap[sb]? = some (.cells #[.string ⟨s.toArray⟩, .int .i64 ((0 : Nat) : Int), .slice none 0 0, .slice none 0 0] 59 (0, 0)) := by
    rw [hW1]; exact heap_setCell_other (heap_alloc_at hsb _) (by simp only; omega) _
   have hX1 : Ext none' w W1 := by
    rw [hW1]
    exact (HXW.out.alloc _).setNew (by omega) 0 _
   rw [← hB0] at G
   have gx1 : W1.heap[B0]? = some (.cells #[.pointer (some ⟨sb, 0, none⟩)] 55 (0, 0)) := by
    rw [hW1, heap_setCell_same (heap_alloc_keep G.out.1 _)]; rfl
   have gy1 : W1.heap[B0 + 1]? = some (.cells #[.int .i64 0] 3 (0, 0)) := by
    rw [hW1]; exact heap_setCell_other (heap_alloc_keep G.out.2.1 _) (by simp) _
   have gz1 : W1.heap[B0 + 1 + 1]? = some (.cells #[.int .i64 0] 26 (0, 0)) := by
    rw [hW1]; exact heap_setCell_other (heap_alloc_keep G.out.2.2 _) (by simp only; omega) _
   have st1 : St (B0 + 3) sb W1 s 0 [] [] := ⟨_, _, hsbh, World.ownsRow_nil _ _ _ _, World.ownsRow_nil _ _ _ _, (fun g h => by cases h), hz1⟩
   have HM1 := hid (HM.out.ext hX1 (fun h => h))
   have hB2 : 2 < B0 := by rw [hB0]; exact HM.out.1
   have HX1 := hid hX1
   have GG := hid (And.intro gx1 (And.intro gy1 gz1))
   have ST1 := hid st1
   have HB0 := hid hB0
   clear hsbh hX1 gx1 gy1 gz1 hW1 hsb st1 G HM HZ HXW HV HT hcv hB0
   obtain ⟨q0, hq0⟩ : ∃ q0, q0 = runP s s.length 0 [] [] := ⟨_, rfl⟩
   have HQ0 := hid hq0
   go_loopw [] (fun wr => ∃ k l n f, ScRel (B0 + 3) sb s q0 W1 wr k l n f) (fun wr => s.length - posOf wr sb)
   case atStart => exact ⟨0, [], [], s.length, ST1.out, by omega, Inv.start s, Ext.refl _ _, hq0, by omega⟩
   case round =>
    clear hq0
    obtain ⟨k, l, n, f, R⟩ := hrel
    have GR := hid (And.intro (R.hx.heap GG.out.1 (by unfold up; omega)) (And.intro (R.hx.heap GG.out.2.1 (by unfold up; omega)) (R.hx.heap GG.out.2.2 (by unfold up; omega))))
    have ce : ∀ t : LaterF none' wr, t.w.cell? ⟨B0, 0, none⟩ = some (.pointer (some ⟨sb, 0, none⟩)) := fun t => by
     rw [cell_at (t.x.heap GR.out.1 (fun h => h))]; rfl
    have c0 : ∀ t : LaterF none' wr, t.w.cell? ⟨sb, 0, none⟩ = some (.string ⟨s.toArray⟩) := fun t => (R.st.keepE t.x).cells.1
    have c1 : ∀ t : LaterF none' wr, t.w.cell? ⟨sb, 1, none⟩ = some (.int .i64 k) := fun t => (R.st.keepE t.x).cells.2.1
    have RR := hid R
    have hle := R.le
    clear R
    go_wp2_with fail
    refine region_inD none' wr [0, 1, 2, 3, 4, 5, 6, 7, 8, 9] [] (by kernel_rfl) (by kernel_rfl) (Ext.refl _ _) ?_
    simp only [sel, List.getElem?_cons_succ, List.getElem?_cons_zero]
    repeat (go_big_quiet_step (fail))
    refine wpQuiet_nil ?_
    simp only [wpChain, noPanic]
    have ce2 := ce ⟨wr.drew, (Ext.refl _ _).drew⟩
    simp only at ce2
    clear ce c0 c1
    have ST2 := hid (RR.out.st.keepE ((Ext.refl none' wr).drew))
    by_cases hk : k < s.length
    · have I := RR.out.inv
      have CN := hid (next_any (B0 + 3) sb k s l n wr.drew ST2.out hk (by omega) (by have := I.ll; omega) (by have := I.nl; omega) (HM1.out.ext (RR.out.hx.drew) (by unfold up; omega)) (by omega) I.good (fun t ht => by have := I.short t ht; omega))
      have hst := runP_step (l := l) (n := n) hk RR.out.fuel
      have HST := hid (RR.out.run.trans hst)
      have HI := hid I
      clear I hst
      go_wp2_with fail
      refine CN.out.mono ?_
      intro e W2 hN
      have HN := hid hN
      clear hN CN
      cases hsp : stepP s k l n with
      | none =>
       rw [hsp] at HN HST
       have hq : runR s = .bad k 3 := by unfold runR; rw [← HQ0.out, HST.out]
       have HPP := hid (HP1.out.trans hq)
       obtain ⟨rfl, hX⟩ := HN.out
       have X2 := hid (RR.out.hx.drew.trans hX)
       have GX := X2.out.heap GG.out.1 (by unfold up; omega)
       have GY := X2.out.heap GG.out.2.1 (by unfold up; omega)
       have GZ := X2.out.heap GG.out.2.2 (by unfold up; omega)
       have HG := hid (And.intro GX (And.intro GY GZ))
       clear hX HN hsp hq GX GY GZ
       go_wp2_with fail
       refine leaves_cons (f := 83) (args := #[.pointer (some ⟨B0, 0, none⟩), .pointer (some ⟨B0 + 1, 0, none⟩), .pointer (some ⟨B0 + 1 + 1, 0, none⟩)]) (by simp) (by simp [go_sem]) ?_
       refine (catch_panic B0 (B0 + 1) (B0 + 1 + 1) k _ _ _ W2 HG.out.1 HG.out.2.1 HG.out.2.2 (by omega) (by omega) (by omega)).mono ?_
       rintro e u' w'' ⟨rfl, rfl, _, _, w1, x1, rfl⟩
       have hx1 := x1.heap HG.out.1 (fun h => h)
       have hy1 := x1.heap HG.out.2.1 (fun h => h)
       have hz1 := x1.heap HG.out.2.2 (fun h => h)
       obtain ⟨cx, cy, cz⟩ := three_cells (a := .pointer none) (b := .int .i64 k) (c := .int .i64 3) hx1 hy1 hz1
       have hE : Ext none' w (((w1.setCell ⟨B0, 0, none⟩ (.pointer none)).setCell ⟨B0 + 1, 0, none⟩ (.int .i64 k)).setCell ⟨B0 + 1 + 1, 0, none⟩ (.int .i64 3)) := by
        have h0 : Ext none' w w1 := (HX1.out.trans' X2.out (fun i hi h => by have := HB0.out; unfold up at h; omega)).trans x1
        have hb := HB0.out
        exact ((h0.setNew (by omega) 0 _).setNew (by omega) 0 _).setNew (by omega) 0 _
       simp only [Leaves, settle, List.dropWhile]
       rw [HPP.out]
       refine ⟨.tuple #[.pointer none, .int .i64 k, .int .i64 3], by simp [results, Tryz.results37, go_sem, cx, cy, cz], rfl, hE⟩
      | some x =>
       obtain ⟨k', l', n'⟩ := x
       rw [hsp] at HN HST
       obtain ⟨rfl, hS, hX⟩ := HN.out
       have hI := HI.out.step hsp
       have hle2 := stepP_le hsp
       have R2 := hid (ScRel.mk (base := B0 + 3) (sb := sb) (s := s) (q := q0) (w := W1) (wr := W2) (k := k') (l := l') (n := n') (f := f - 1) hS hle2.2 hI (RR.out.hx.drew.trans hX) HST.out (by have := RR.out.fuel; omega))
       have hpos := hid (And.intro (R2.out.st.pos) (RR.out.st.pos))
       clear hX HN hsp hS hI
       go_wp2_with fail
       refine ⟨⟨_, _, _, _, R2.out⟩, ?_⟩
       rw [hpos.out.1, hpos.out.2]
       omega
    · obtain rfl : k = s.length := by omega
      have hst := HQ0.out.symm.trans (RR.out.run.trans (runP_end (Nat.le_refl _)))
      have hq : runR s = .good (lineP l s.length) n := by unfold runR; rw [hst]
      have HPP := hid (HP1.out.trans hq)
      have I := RR.out.inv
      have hll : l.length ≤ 800000 := by have := I.ll; omega
      have HGd := hid I.good
      have HSh := hid I.short
      clear hst hq I
      go_wp2_with fail
      obtain ⟨W3, hW3⟩ : ∃ W3, W3 = wr.drew := ⟨_, rfl⟩
      rw [← hW3] at ST2 ⊢
      have X3 : Ext (up (B0 + 3)) W1 W3 := by rw [hW3]; exact RR.out.hx.drew
      have g3 := X3.heap GG.out.1 (by unfold up; omega)
      have ce : ∀ t : LaterF none' W3, t.w.cell? ⟨B0, 0, none⟩ = some (.pointer (some ⟨sb, 0, none⟩)) := fun t => by
       rw [cell_at (t.x.heap g3 (fun h => h))]; rfl
      have c0 : ∀ t : LaterF none' W3, t.w.cell? ⟨sb, 0, none⟩ = some (.string ⟨s.toArray⟩) := fun t => (ST2.out.keepE t.x).cells.1
      have HX3 := hid X3
      clear g3 X3 hW3 ce2
      refine region_inD none' W3 [0, 1, 2, 3, 4, 5] [(6, false)] (by kernel_rfl) (by kernel_rfl) (Ext.refl _ _) ?_
      simp only [sel, List.getElem?_cons_succ, List.getElem?_cons_zero]
      repeat (go_big_quiet_step (fail))
      refine wpQuiet_nil ?_
      simp only [wpChain, sel, List.getElem?_cons_succ, List.getElem?_cons_zero]
      have CL := hid (tline_any (B0 + 3) sb s.length s.length s l n W3.drew (ST2.out.keepE (Ext.refl none' W3).drew) (by omega) (HM1.out.ext HX3.out.drew (by unfold up; omega)) HGd.out (fun t ht => by have := HSh.out t ht; omega))
      clear ce c0
      go_wp2_with fail
      refine CL.out.mono ?_
      rintro e W4 ⟨rfl, st4, x4⟩
      have X4 := HX3.out.drew.trans x4
      have gx := X4.heap GG.out.1 (by unfold up; omega)
      have gy := X4.heap GG.out.2.1 (by unfold up; omega)
      have gz := X4.heap GG.out.2.2 (by unfold up; omega)
      have cx := cell_at gx 0
      have cy := cell_at gy 0
      have cz := cell_at gz 0
      have fx := free_at gx 0
      have fy := free_at gy 0
      have fz := free_at gz 0
      simp only [List.getElem?_toArray, List.getElem?_cons_zero] at cx cy cz
      have HX4 := hid X4
      have HG := hid (And.intro gx (And.intro gy gz))
      have ST4 := hid st4
      clear gx gy gz X4 st4 x4 CL
      go_wp2_with fail
      simp only [noPanic]
      go_wp2_with fail
      refine leaves_cons (f := 83) (args := #[.pointer (some ⟨B0, 0, none⟩), .pointer (some ⟨B0 + 1, 0, none⟩), .pointer (some ⟨B0 + 1 + 1, 0, none⟩)]) (by simp) (by simp [go_sem]) ?_
      refine (catch_idle _ _ _ _).mono ?_
      rintro e u' w'' ⟨rfl, rfl, rfl⟩
      obtain ⟨dx, dy, dz⟩ := three_cells (a := .pointer (some ⟨sb, 0, none⟩)) (b := .int .i64 0) (c := .int .i64 0) HG.out.1 HG.out.2.1 HG.out.2.2
      have h0 : Ext none' w W4 := HX1.out.trans' HX4.out (fun i hi h => by have := HB0.out; unfold up at h; omega)
      have hE : Ext none' w (((W4.setCell ⟨B0, 0, none⟩ (.pointer (some ⟨sb, 0, none⟩))).setCell ⟨B0 + 1, 0, none⟩ (.int .i64 0)).setCell ⟨B0 + 1 + 1, 0, none⟩ (.int .i64 0)) := by
       have hb := HB0.out
       exact ((h0.setNew (by omega) 0 _).setNew (by omega) 0 _).setNew (by omega) 0 _
      have hS : St (B0 + 3) sb (((W4.setCell ⟨B0, 0, none⟩ (.pointer (some ⟨sb, 0, none⟩))).setCell ⟨B0 + 1, 0, none⟩ (.int .i64 0)).setCell ⟨B0 + 1 + 1, 0, none⟩ (.int .i64 0)) s s.length (lineP l s.length) n :=
       ((ST4.out.low (by simp only; omega) _).low (by simp only; omega) _).low (by simp only; omega) _
      simp only [Leaves, settle]
      rw [HPP.out]
      exact ⟨.tuple #[.pointer (some ⟨sb, 0, none⟩), .int .i64 0, .int .i64 0], by simp [results, Tryz.results37, go_sem, dx, dy, dz], B0 + 3, sb, s.length, rfl, hE, by have := HB0.out; omega, hS⟩
end Go.Proofs.YthbmjamgidfneaaGreatDoor
