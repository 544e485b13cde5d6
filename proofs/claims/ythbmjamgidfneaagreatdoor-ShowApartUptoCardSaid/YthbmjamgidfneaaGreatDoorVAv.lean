import Derived.Test.YthbmjamgidfneaaGreatDoorVAb
import Derived.Test.YthbmjamgidfneaaGreatDoorVAf
import Derived.Test.YthbmjamgidfneaaGreatDoorVAg
import Derived.Test.YthbmjamgidfneaaGreatDoorVAd
import Derived.Test.YthbmjamgidfneaaGreatDoorVAq
set_option maxRecDepth 100000
set_option maxHeartbeats 6400000
namespace Go.Proofs.YthbmjamgidfneaaGreatDoor
open Go.RowKit Go.Lib Go.BigFrame
theorem Src.lits {P : Program} {tx e' : TypeId} (hk : P.underlying tx = some (.slice e')) {w : World} {b : Nat} {bs : List UInt8} {t : TypeId} {fz : Nat × Nat} (h : w.heap[b]? = some (.cells (byteVals bs).toArray t fz)) : Src P 1 tx (.slice (some ⟨b, 0, none⟩) bs.length bs.length) bs.length (byteVals bs) w :=
 Src.ofSlice _ hk _ _ _ _ (by rw [byteVals_length, Nat.mul_one]) (fun j u hj => by
  have e : (⟨b, 0, none⟩ : Addr).add j = ⟨b, j, none⟩ := by simp [Addr.add]; omega
  rw [e, cell_at h, List.getElem?_toArray, hj]) (fun u hu => by
  obtain ⟨c, _, rfl⟩ := List.mem_map.1 hu
  rfl)
structure OutRel (w wr : World) (v : Value) (bs : List UInt8) : Prop where
 own : wr.ownsRow w.heap.size 5 1 v bs.length (byteVals bs)
 hx : Ext none' w wr
theorem OutRel.later {w wr w2 : World} {v : Value} {bs : List UInt8} (h : OutRel w wr v bs) (x : Ext none' wr w2) : OutRel w w2 v bs := ⟨ownsRow_ext h.own x (fun _ _ h => h), h.hx.trans x⟩
theorem OutRel.app {w wr w2 : World} {v v2 : Value} {bs cs : List UInt8} (h : OutRel w wr v bs) (own : w2.ownsRow w.heap.size 5 1 v2 (bs.length + cs.length) (byteVals bs ++ byteVals cs)) (g : wr.grownBy w2 v.ownBlock) : OutRel w w2 v2 (bs ++ cs) :=
 ⟨by rw [List.length_append, byteVals_append]; exact own, h.hx.grown g (fun k hk => .inr (h.own.lt k hk).1)⟩
theorem hexI (q : Nat) (h : q < 16) (w : World) : (Instr.index 9 (.string ⟨#[48, 49, 50, 51, 52, 53, 54, 55, 56, 57, 97, 98, 99, 100, 101, 102]⟩) (.int .u8 (q : Nat))).run Tryz.prog w = .ok (.int .u8 ((hexd q).toNat : Nat)) w := by
 have : q = 0 ∨ q = 1 ∨ q = 2 ∨ q = 3 ∨ q = 4 ∨ q = 5 ∨ q = 6 ∨ q = 7 ∨ q = 8 ∨ q = 9 ∨ q = 10 ∨ q = 11 ∨ q = 12 ∨ q = 13 ∨ q = 14 ∨ q = 15 := by omega
 rcases this with rfl | rfl | rfl | rfl | rfl | rfl | rfl | rfl | rfl | rfl | rfl | rfl | rfl | rfl | rfl | rfl <;> (rw [run_index_string _ _ _ _ _ Tryz.underlying9]; rfl)
theorem quote_any (s : List UInt8) (w : World) (hs : s.length ≤ 1000000) : Calls Tryz.prog 52 #[.string ⟨s.toArray⟩] w (StrPost (quoteP s) w) := by
 obtain ⟨i0, hi, hz0, hz1, hz2⟩ : ∃ i0, Tryz.prog.info? 5 = some i0 ∧ i0.zero = some (.int .u8 0) ∧ i0.size = 1 ∧ i0.bytes = 1 := ⟨_, rfl, rfl, rfl, rfl⟩
 have I0 := hid hi
 have I1 := hid hz0
 have I2 := hid hz1
 have I3 := hid hz2
 clear hi hz0 hz1 hz2
 have own0 : (w.alloc (.cells #[.int .u8 34] 5)).ownsRow w.heap.size 5 1 (.slice (some ⟨w.heap.size, 0, none⟩) 1 1) 1 [.int .u8 34] := World.ownsRow_lit w #[.int .u8 34] 1 (Nat.le_refl _) (by decide) rfl
 have R0 : Hid (OutRel w (w.alloc (.cells #[.int .u8 34] 5)) (.slice (some ⟨w.heap.size, 0, none⟩) 1 1) (34 :: (s.take 0).flatMap quoteB)) := hid ⟨own0, (Ext.refl _ _).alloc _⟩
 clear own0
 go_enter Tryz.func52, Tryz.ntmps52
 go_wp2_with fail
 go_loopw [3, 4, 5, 9] (fun vo _ _ z wr => ∃ i : Nat, z = .int .i64 i ∧ i ≤ s.length ∧ Hid (OutRel w wr vo (34 :: (s.take i).flatMap quoteB))) (fun _ _ _ z _ => s.length - (RowKit.intOf z).toNat)
 case atStart => exact ⟨0, rfl, by omega, R0⟩
 case round =>
  obtain ⟨i, rfl, hle, HR⟩ := hrel
  by_cases hil : i < s.length
  · have hix := byte_at s i hil
    have HF := hid (flatMap_take s i hil)
    obtain ⟨c, hc⟩ : ∃ c, s[i]'hil = c := ⟨_, rfl⟩
    rw [hc] at hix HF
    have hbl := quotes_len (s.take i)
    rw [List.length_take] at hbl
    obtain ⟨bs, hbs⟩ : ∃ bs, bs = 34 :: (s.take i).flatMap quoteB := ⟨_, rfl⟩
    have hl : bs.length ≤ 4000001 := by rw [hbs, List.length_cons]; omega
    rw [← hbs] at HR
    have HN : Hid (34 :: (s.take (i + 1)).flatMap quoteB = bs ++ quoteB c) := hid (by rw [HF.out, hbs]; rfl)
    have HX := hid HR.out.hx.size
    clear hc hbl hbs HF
    by_cases q1 : c = 34 ∨ c = 92
    · have HB : Hid (quoteB c = [92, c]) := hid (by unfold quoteB; rw [if_pos q1])
      have O2 := hid (HR.out.later ((Ext.refl none' wr).alloc (.cells (byteVals [92, c]).toArray 5)))
      have S2 : Hid (Src Tryz.prog 1 37 (.slice (some ⟨wr.heap.size, 0, none⟩) 2 2) 2 (byteVals [92, c]) (wr.alloc (.cells (byteVals [92, c]).toArray 5))) := hid (Src.lits (bs := [92, c]) Tryz.underlying37 (heap_alloc_at rfl _))
      have hq : ((c.toNat : Int) == 34) = true ∨ (((c.toNat : Int) == 34) = false ∧ ((c.toNat : Int) == 92) = true) := by
       rcases q1 with rfl | rfl
       · left; decide
       · right; decide
      clear q1
      rcases hq with hq | ⟨hq, hq2⟩
      all_goals
       go_wp2_with (at_builtin; refine wpList_app _ rfl (.tmp 31) (.tmp 33) 37 37 rfl w.heap.size 5 i0 _ 1 1 Tryz.underlying37 I0.out I1.out I2.out I3.out rfl _ bs.length (byteVals bs) rfl O2.out.own _ 2 _ rfl S2.out ?_ ?_ ?_ ?_)
       · unfold maxLen; omega
       · omega
       · have := HX.out; simp; omega
       intro v3 w3 own3 grow3 blk3 _
       have N := hid (O2.out.app (cs := [92, c]) own3 grow3)
       rw [← HB.out, ← HN.out] at N
       clear own3 grow3 blk3
       go_wp2_with fail
       go_roundw
       case rel => exact ⟨i + 1, by go_num, by omega, N⟩
       case measure => simp [RowKit.intOf]; omega
    · have q1' : c ≠ 34 ∧ c ≠ 92 := ⟨fun h => q1 (.inl h), fun h => q1 (.inr h)⟩
      have n1 : ((c.toNat : Int) == 34) = false := by have := u8n q1'.1; simp at this ⊢; omega
      have n2 : ((c.toNat : Int) == 92) = false := by have := u8n q1'.2; simp at this ⊢; omega
      by_cases q2 : c = 10
      · have HB : Hid (quoteB c = [92, 110]) := hid (by unfold quoteB; rw [if_neg q1, if_pos q2])
        have S2 : Hid (Src Tryz.prog 1 9 (.string ⟨#[92, 110]⟩) 2 (byteVals [92, 110]) wr) := hid (Src.str Tryz.underlying9 [92, 110] wr)
        have n3 : ((c.toNat : Int) == 10) = true := by rw [q2]; decide
        clear q1 q1' q2
        go_wp2_with (at_builtin; refine wpList_app _ rfl (.tmp 38) (.const (.string ⟨#[92, 110]⟩)) 37 9 rfl w.heap.size 5 i0 _ 1 1 Tryz.underlying37 I0.out I1.out I2.out I3.out rfl _ bs.length (byteVals bs) rfl HR.out.own _ 2 _ rfl S2.out ?_ ?_ ?_ ?_)
        · unfold maxLen; omega
        · omega
        · exact HX.out
        intro v3 w3 own3 grow3 blk3 _
        have N := hid (HR.out.app (cs := [92, 110]) own3 grow3)
        rw [← HB.out, ← HN.out] at N
        clear own3 grow3 blk3
        go_wp2_with fail
        go_roundw
        case rel => exact ⟨i + 1, by go_num, by omega, N⟩
        case measure => simp [RowKit.intOf]; omega
      · have n3 : ((c.toNat : Int) == 10) = false := by have := u8n q2; simp at this ⊢; omega
        by_cases q3 : c = 9
        · have HB : Hid (quoteB c = [92, 116]) := hid (by unfold quoteB; rw [if_neg q1, if_neg q2, if_pos q3])
          have S2 : Hid (Src Tryz.prog 1 9 (.string ⟨#[92, 116]⟩) 2 (byteVals [92, 116]) wr) := hid (Src.str Tryz.underlying9 [92, 116] wr)
          have n4 : ((c.toNat : Int) == 9) = true := by rw [q3]; decide
          clear q1 q1' q2 q3
          go_wp2_with (at_builtin; refine wpList_app _ rfl (.tmp 43) (.const (.string ⟨#[92, 116]⟩)) 37 9 rfl w.heap.size 5 i0 _ 1 1 Tryz.underlying37 I0.out I1.out I2.out I3.out rfl _ bs.length (byteVals bs) rfl HR.out.own _ 2 _ rfl S2.out ?_ ?_ ?_ ?_)
          · unfold maxLen; omega
          · omega
          · exact HX.out
          intro v3 w3 own3 grow3 blk3 _
          have N := hid (HR.out.app (cs := [92, 116]) own3 grow3)
          rw [← HB.out, ← HN.out] at N
          clear own3 grow3 blk3
          go_wp2_with fail
          go_roundw
          case rel => exact ⟨i + 1, by go_num, by omega, N⟩
          case measure => simp [RowKit.intOf]; omega
        · have n4 : ((c.toNat : Int) == 9) = false := by have := u8n q3; simp at this ⊢; omega
          by_cases q4 : 32 ≤ c.toNat ∧ c.toNat ≤ 126
          · have HB : Hid (quoteB c = [c]) := hid (by unfold quoteB; rw [if_neg q1, if_neg q2, if_neg q3, if_pos q4])
            have O2 := hid (HR.out.later ((Ext.refl none' wr).alloc (.cells (byteVals [c]).toArray 5)))
            have S2 : Hid (Src Tryz.prog 1 37 (.slice (some ⟨wr.heap.size, 0, none⟩) 1 1) 1 (byteVals [c]) (wr.alloc (.cells (byteVals [c]).toArray 5))) := hid (Src.lits (bs := [c]) Tryz.underlying37 (heap_alloc_at rfl _))
            obtain ⟨q41, q42⟩ := q4
            clear q1 q1' q2 q3
            go_wp2_with (at_builtin; refine wpList_app _ rfl (.tmp 52) (.tmp 54) 37 37 rfl w.heap.size 5 i0 _ 1 1 Tryz.underlying37 I0.out I1.out I2.out I3.out rfl _ bs.length (byteVals bs) rfl O2.out.own _ 1 _ rfl S2.out ?_ ?_ ?_ ?_)
            · unfold maxLen; omega
            · omega
            · have := HX.out; simp; omega
            intro v3 w3 own3 grow3 blk3 _
            have N := hid (O2.out.app (cs := [c]) own3 grow3)
            rw [← HB.out, ← HN.out] at N
            clear own3 grow3 blk3
            go_wp2_with fail
            go_roundw
            case rel => exact ⟨i + 1, by go_num, by omega, N⟩
            case measure => simp [RowKit.intOf]; omega
          · have HB : Hid (quoteB c = [92, 120, hexd (c.toNat / 16), hexd (c.toNat % 16)]) := hid (by unfold quoteB; rw [if_neg q1, if_neg q2, if_neg q3, if_neg q4])
            have q4' : c.toNat < 32 ∨ 126 < c.toNat := by omega
            have hc256 : c.toNat < 256 := UInt8.toNat_lt _
            have hi1 : ∀ w, (Instr.index 9 (.string ⟨#[48, 49, 50, 51, 52, 53, 54, 55, 56, 57, 97, 98, 99, 100, 101, 102]⟩) (.int .u8 ((c.toNat : Int) / 16))).run Tryz.prog w = .ok (.int .u8 ((hexd (c.toNat / 16)).toNat : Nat)) w := fun w => by
             rw [show (c.toNat : Int) / 16 = ((c.toNat / 16 : Nat) : Int) by omega]; exact hexI _ (by omega) w
            have hi2 : ∀ w, (Instr.index 9 (.string ⟨#[48, 49, 50, 51, 52, 53, 54, 55, 56, 57, 97, 98, 99, 100, 101, 102]⟩) (.int .u8 ((c.toNat : Int) % 16))).run Tryz.prog w = .ok (.int .u8 ((hexd (c.toNat % 16)).toNat : Nat)) w := fun w => by
             rw [show (c.toNat : Int) % 16 = ((c.toNat % 16 : Nat) : Int) by omega]; exact hexI _ (by omega) w
            clear q1 q1' q2 q3 q4
            rcases q4' with q4' | q4'
            all_goals
             go_wp2_with fail
             refine region_in none' wr [0, 1, 2, 3, 4, 5, 6] [(7, true), (8, false), (9, false)] (by kernel_rfl) (by kernel_rfl) (fun dst v c a w h => by cases dst <;> exact h) (Ext.refl _ _) ?_
             simp only [sel, List.getElem?_cons_succ, List.getElem?_cons_zero]
             repeat (go_big_quiet_step (fail))
             refine wpQuiet_nil ?_
             simp only [wpChain, sel, List.getElem?_cons_succ, List.getElem?_cons_zero]
             clear hi1 hi2
             obtain ⟨h1, hh1⟩ : ∃ h1, hexd (c.toNat / 16) = h1 := ⟨_, rfl⟩
             obtain ⟨h2, hh2⟩ : ∃ h2, hexd (c.toNat % 16) = h2 := ⟨_, rfl⟩
             rw [hh1, hh2] at HB ⊢
             clear hh1 hh2
             obtain ⟨W, hW⟩ : ∃ W, W = wr.drew := ⟨_, rfl⟩
             rw [← hW]
             have XW : Ext none' wr W := by rw [hW]; exact (Ext.refl _ _).drew
             have HXW := hid XW
             have O2 := hid (HR.out.later (XW.alloc (.cells (byteVals [92, 120, h1, h2]).toArray 5)))
             have S2 : Hid (Src Tryz.prog 1 37 (.slice (some ⟨W.heap.size, 0, none⟩) 4 4) 4 (byteVals [92, 120, h1, h2]) (W.alloc (.cells (byteVals [92, 120, h1, h2]).toArray 5))) := hid (Src.lits (bs := [92, 120, h1, h2]) Tryz.underlying37 (heap_alloc_at rfl _))
             clear XW hW
             go_wp2_with fail
             refine ⟨In.of (HXW.out.alloc _), ?_⟩
             refine wpList_app _ rfl (.tmp 15) (.tmp 22) 37 37 rfl w.heap.size 5 i0 _ 1 1 Tryz.underlying37 I0.out I1.out I2.out I3.out rfl _ bs.length (byteVals bs) rfl O2.out.own _ 4 _ rfl S2.out ?_ ?_ ?_ ?_
             · unfold maxLen; omega
             · omega
             · have := HX.out; have := HXW.out.size; simp; omega
             intro v3 w3 own3 grow3 blk3 _
             have N := hid (O2.out.app (cs := [92, 120, h1, h2]) own3 grow3)
             rw [← HB.out, ← HN.out] at N
             clear own3 grow3 blk3
             refine wpList_nil ?_
             go_wp2_with fail
             go_roundw
             case rel => exact ⟨i + 1, by go_num, by omega, N⟩
             case measure => simp [RowKit.intOf]; omega
  · obtain rfl : i = s.length := by omega
    have HE := HR
    rw [List.take_length] at HE
    obtain ⟨bs, hbs⟩ : ∃ bs, bs = 34 :: s.flatMap quoteB := ⟨_, rfl⟩
    have hl : bs.length ≤ 4000001 := by have := quotes_len s; rw [hbs, List.length_cons]; omega
    have HQ : Hid (quoteP s = bs ++ [34]) := hid (by rw [hbs]; rfl)
    rw [← hbs] at HE
    have HX := hid HE.out.hx.size
    have O2 := hid (HE.out.later ((Ext.refl none' wr).alloc (.cells (byteVals [34]).toArray 5)))
    have S2 : Hid (Src Tryz.prog 1 37 (.slice (some ⟨wr.heap.size, 0, none⟩) 1 1) 1 (byteVals [34]) (wr.alloc (.cells (byteVals [34]).toArray 5))) := hid (Src.lits (bs := [34]) Tryz.underlying37 (heap_alloc_at rfl _))
    clear hbs HR
    go_wp2_with (at_builtin; refine wpList_app _ rfl (.tmp 57) (.tmp 58) 37 37 rfl w.heap.size 5 i0 _ 1 1 Tryz.underlying37 I0.out I1.out I2.out I3.out rfl _ bs.length (byteVals bs) rfl O2.out.own _ 1 _ rfl S2.out ?_ ?_ ?_ ?_)
    · unfold maxLen; omega
    · omega
    · have := HX.out; simp; omega
    intro v3 w3 own3 grow3 blk3 _
    have N := hid (O2.out.app (cs := [34]) own3 grow3)
    rw [← HQ.out] at N
    have hcv := conv_bytes (Bytes.of_owns N.out.own) 37 5 Tryz.underlying37 Tryz.underlying5 9 Tryz.underlying9
    have HCV := hid hcv
    clear own3 grow3 blk3
    go_wp2_with fail
    go_ret
    exact ⟨rfl, N.out.hx⟩
end Go.Proofs.YthbmjamgidfneaaGreatDoor
namespace Go.Proofs.YthbmjamgidfneaaGreatDoor
open Go.RowKit Go.Lib Go.BigFrame
set_option linter.unusedVariables false
set_option linter.unusedSimpArgs false
theorem sx_int (f : Nat) (H : ExpH f) (deep : Nat) (head : Bool) (hd : deep + (f + 1) ≤ 1200000) (hf : f + 1 ≤ 1100000) (t : Nd) (ht : t.size ≤ f + 1) (hk : t.kind = 16) (he : namB plainP 16 [] t = true) (v : Value) (w : World) (hm : MaxL w) (hv : NdV none' w t v) :
  Calls Tryz.prog 23 #[shV deep head, v] w (StrPost (t.text) w) := by
 obtain ⟨y, rfl, hy⟩ := hv
 have HY := hid hy
 obtain ⟨a1, cap1, rfl, hcap, _⟩ := hy
 have hkl : t.kids.length ≤ 1100000 := by have := t.kids_len; omega
 rw [hk]
 have CF := hid fun W => free_any deep head W
 obtain ⟨B, hB⟩ : ∃ B, B = w.heap.size := ⟨_, rfl⟩
 have BX := TwoBox.mk' (deep := deep) (head := head) (cs := #[.int .i64 16, .string ⟨t.text.toArray⟩, .slice a1 t.kids.length cap1, .int .i64 t.pos]) hB
 obtain ⟨W0, hW0⟩ : ∃ W0, W0 = ((w.alloc (.cells #[.int .i64 (deep : Nat), .bool head] 50)).alloc (.cells #[.int .i64 16, .string ⟨t.text.toArray⟩, .slice a1 t.kids.length cap1, .int .i64 t.pos] 24)) := ⟨_, rfl⟩
 rw [← hW0] at BX
 have BX := hid BX
 have hmf := mkf_run
 clear hk he ht hd hf 
 go_enter Tryz.func23, Tryz.ntmps23
 go_upto_region 1 with (fail)
 rw [← hW0, ← hB]
 clear hW0 hB
 obtain ⟨x0, x1⟩ := cell2 BX.out.g0
 obtain ⟨c0, c1, c2, c3⟩ := cell4 BX.out.g1
 go_wp2_with fail
 refine (CF.out _).mono ?_
 rintro e w1 ⟨rfl, X1⟩
 have BX := hid (BX.out.ext X1)
 clear x0 x1 c0 c1 c2 c3 X1
 obtain ⟨x0, x1⟩ := cell2 BX.out.g0
 obtain ⟨c0, c1, c2, c3⟩ := cell4 BX.out.g1
 go_wp2_with fail
 go_ret
 exact ⟨rfl, BX.out.x⟩
theorem sx_name (f : Nat) (H : ExpH f) (deep : Nat) (head : Bool) (hd : deep + (f + 1) ≤ 1200000) (hf : f + 1 ≤ 1100000) (t : Nd) (ht : t.size ≤ f + 1) (hk : t.kind = 18) (he : namB nmB 18 [] t = true) (v : Value) (w : World) (hm : MaxL w) (hv : NdV none' w t v) :
  Calls Tryz.prog 23 #[shV deep head, v] w (StrPost (t.text) w) := by
 obtain ⟨y, rfl, hy⟩ := hv
 have HY := hid hy
 obtain ⟨a1, cap1, rfl, hcap, _⟩ := hy
 have hkl : t.kids.length ≤ 1100000 := by have := t.kids_len; omega
 rw [hk]
 have CF := hid fun W => free_any deep head W
 obtain ⟨B, hB⟩ : ∃ B, B = w.heap.size := ⟨_, rfl⟩
 have BX := TwoBox.mk' (deep := deep) (head := head) (cs := #[.int .i64 18, .string ⟨t.text.toArray⟩, .slice a1 t.kids.length cap1, .int .i64 t.pos]) hB
 obtain ⟨W0, hW0⟩ : ∃ W0, W0 = ((w.alloc (.cells #[.int .i64 (deep : Nat), .bool head] 50)).alloc (.cells #[.int .i64 18, .string ⟨t.text.toArray⟩, .slice a1 t.kids.length cap1, .int .i64 t.pos] 24)) := ⟨_, rfl⟩
 rw [← hW0] at BX
 have BX := hid BX
 have hmf := mkf_run
 clear hk he ht hd hf 
 go_enter Tryz.func23, Tryz.ntmps23
 go_upto_region 1 with (fail)
 rw [← hW0, ← hB]
 clear hW0 hB
 obtain ⟨x0, x1⟩ := cell2 BX.out.g0
 obtain ⟨c0, c1, c2, c3⟩ := cell4 BX.out.g1
 go_wp2_with fail
 refine (CF.out _).mono ?_
 rintro e w1 ⟨rfl, X1⟩
 have BX := hid (BX.out.ext X1)
 clear x0 x1 c0 c1 c2 c3 X1
 obtain ⟨x0, x1⟩ := cell2 BX.out.g0
 obtain ⟨c0, c1, c2, c3⟩ := cell4 BX.out.g1
 go_wp2_with fail
 go_ret
 exact ⟨rfl, BX.out.x⟩
theorem sx_str (f : Nat) (H : ExpH f) (deep : Nat) (head : Bool) (hd : deep + (f + 1) ≤ 1200000) (hf : f + 1 ≤ 1100000) (t : Nd) (ht : t.size ≤ f + 1) (hk : t.kind = 17) (he : namB strB 17 [] t = true) (v : Value) (w : World) (hm : MaxL w) (hv : NdV none' w t v) :
  Calls Tryz.prog 23 #[shV deep head, v] w (StrPost (quoteP t.text) w) := by
 obtain ⟨y, rfl, hy⟩ := hv
 have HY := hid hy
 obtain ⟨a1, cap1, rfl, hcap, _⟩ := hy
 have hkl : t.kids.length ≤ 1100000 := by have := t.kids_len; omega
 obtain ⟨rr, hrr⟩ : ∃ r, r = quoteP t.text := ⟨_, rfl⟩
 rw [← hrr]
 have hsl := strB_len (namB_parts he).2.1
 have CQ := hid fun W => quote_any t.text W (by omega)
 rw [← hrr] at CQ
 rw [hk]
 have CF := hid fun W => free_any deep head W
 obtain ⟨B, hB⟩ : ∃ B, B = w.heap.size := ⟨_, rfl⟩
 have BX := TwoBox.mk' (deep := deep) (head := head) (cs := #[.int .i64 17, .string ⟨t.text.toArray⟩, .slice a1 t.kids.length cap1, .int .i64 t.pos]) hB
 obtain ⟨W0, hW0⟩ : ∃ W0, W0 = ((w.alloc (.cells #[.int .i64 (deep : Nat), .bool head] 50)).alloc (.cells #[.int .i64 17, .string ⟨t.text.toArray⟩, .slice a1 t.kids.length cap1, .int .i64 t.pos] 24)) := ⟨_, rfl⟩
 rw [← hW0] at BX
 have BX := hid BX
 have hmf := mkf_run
 clear hk he hrr ht hd hf 
 go_enter Tryz.func23, Tryz.ntmps23
 go_upto_region 1 with (fail)
 rw [← hW0, ← hB]
 clear hW0 hB
 obtain ⟨x0, x1⟩ := cell2 BX.out.g0
 obtain ⟨c0, c1, c2, c3⟩ := cell4 BX.out.g1
 go_wp2_with fail
 refine (CF.out _).mono ?_
 rintro e w1 ⟨rfl, X1⟩
 have BX := hid (BX.out.ext X1)
 clear x0 x1 c0 c1 c2 c3 X1
 obtain ⟨x0, x1⟩ := cell2 BX.out.g0
 obtain ⟨c0, c1, c2, c3⟩ := cell4 BX.out.g1
 go_wp2_with fail
 refine (CQ.out _).mono ?_
 rintro e w2 ⟨rfl, X2⟩
 have XX := hid (BX.out.x.trans X2)
 clear x0 x1 c0 c1 c2 c3
 go_wp2_with fail
 go_ret
 exact ⟨rfl, XX.out⟩
theorem sx_field (f : Nat) (H : ExpH f) (deep : Nat) (head : Bool) (hd : deep + (f + 1) ≤ 1200000) (hf : f + 1 ≤ 1100000) (t : Nd) (ht : t.size ≤ f + 1) (hk : t.kind = 23) (he : namB nmB 23 [exF f] t = true) (v : Value) (w : World) (hm : MaxL w) (hv : NdV none' w t v) :
  Calls Tryz.prog 23 #[shV deep head, v] w (StrPost (fstT (exT f) deep head (t.kid 0) ++ [46] ++ t.text) w) := by
 obtain ⟨y, rfl, hy⟩ := hv
 have HY := hid hy
 obtain ⟨a1, cap1, rfl, hcap, _⟩ := hy
 have hkl : t.kids.length ≤ 1100000 := by have := t.kids_len; omega
 obtain ⟨rr, hrr⟩ : ∃ r, r = fstT (exT f) deep head (t.kid 0) ++ [46] ++ t.text := ⟨_, rfl⟩
 rw [← hrr]
 obtain ⟨_, htn, h3⟩ := namB_parts he
 obtain ⟨x, hkx, hx1⟩ := one_kid h3
 have hx0 := kid_one hkx
 have hsz := size_one hkx
 have hl : t.kids.length = 1 := by rw [hkx]; rfl
 have htl := nmB_len _ htn
 have hbl := brT_len (head := head) (yes := ((t.kid 0).kind == 19 || (t.kid 0).kind == 20)) ((lens_all f deep (by omega)).1 x (by omega) hx1)
 have C1 := hid fun W (X : Ext none' w W) v' (hv' : NdV none' W (t.kid 0) v') => first_any f H deep head (by omega) (by omega) (t.kid 0) (by rw [hx0]; omega) (by rw [hx0]; exact hx1) v' W (maxL_later hm X) hv'
 have hxs : x.size ≤ 1100000 := by omega
 have hbl2 : (fstT (exT f) deep head (t.kid 0)).length ≤ 10000000000000 := by unfold fstT; rw [hx0] at hbl ⊢; omega
 have y0 : (0 : Int) < (t.kids.length : Int) := by omega
 obtain ⟨q1, hq1⟩ : ∃ q, fstT (exT f) deep head (t.kid 0) = q := ⟨_, rfl⟩
 rw [hq1] at C1 hbl2 hrr
 have cat1 := str_cat q1 [46]
 have cat2 := str_cat (q1 ++ [46]) t.text
 have HR := hid hrr
 rw [hk]
 have CF := hid fun W => free_any deep head W
 obtain ⟨B, hB⟩ : ∃ B, B = w.heap.size := ⟨_, rfl⟩
 have BX := TwoBox.mk' (deep := deep) (head := head) (cs := #[.int .i64 23, .string ⟨t.text.toArray⟩, .slice a1 t.kids.length cap1, .int .i64 t.pos]) hB
 obtain ⟨W0, hW0⟩ : ∃ W0, W0 = ((w.alloc (.cells #[.int .i64 (deep : Nat), .bool head] 50)).alloc (.cells #[.int .i64 23, .string ⟨t.text.toArray⟩, .slice a1 t.kids.length cap1, .int .i64 t.pos] 24)) := ⟨_, rfl⟩
 rw [← hW0] at BX
 have BX := hid BX
 have hmf := mkf_run
 clear hk he hrr ht hd hf hsz hq1 htn h3 hkx hx1 hx0 hbl hxs H hl
 go_enter Tryz.func23, Tryz.ntmps23
 go_upto_region 1 with (fail)
 rw [← hW0, ← hB]
 clear hW0 hB
 obtain ⟨x0, x1⟩ := cell2 BX.out.g0
 obtain ⟨c0, c1, c2, c3⟩ := cell4 BX.out.g1
 go_wp2_with fail
 refine (CF.out _).mono ?_
 rintro e w1 ⟨rfl, X1⟩
 have BX := hid (BX.out.ext X1)
 clear x0 x1 c0 c1 c2 c3 X1
 obtain ⟨x0, x1⟩ := cell2 BX.out.g0
 obtain ⟨c0, c1, c2, c3⟩ := cell4 BX.out.g1
 go_upto_region 18 with (fail)
 clear x0 x1 c0 c1 c2 c3
 obtain ⟨b, off, z0, rfl, hbw, k00, k01, k02, k03, hz0⟩ := kid_val (HY.out.ext isNd_good BX.out.x fun _ _ h => h) 0 (by omega)
 simp only [Nat.zero_mul, Nat.add_zero] at k00 k01 k02 k03
 have HZ0 := hid hz0
 obtain ⟨a2, cap2, rfl, _⟩ := hz0
 have m00 := fun t' : LaterF none' w1 => (t'.x.cell (p := ⟨b, off, none⟩) hbw (fun h => h)).trans k00
 have m01 := fun t' : LaterF none' w1 => (t'.x.cell (p := ⟨b, off + 1, none⟩) hbw (fun h => h)).trans k01
 have m02 := fun t' : LaterF none' w1 => (t'.x.cell (p := ⟨b, off + 2, none⟩) hbw (fun h => h)).trans k02
 have m03 := fun t' : LaterF none' w1 => (t'.x.cell (p := ⟨b, off + 3, none⟩) hbw (fun h => h)).trans k03
 clear k00 k01 k02 k03
 obtain ⟨x0, x1⟩ := cell2L fun t' : LaterF none' w1 => t'.x.heap BX.out.g0 fun h => h
 obtain ⟨c0, c1, c2, c3⟩ := cell4L fun t' : LaterF none' w1 => t'.x.heap BX.out.g1 fun h => h
 refine region_q none' w1 (.qs [0, 1, 2, 3, 6, 7] (.one 4 true (.qs [5, 8, 9] .fin))) (by kernel_rfl) (by kernel_rfl) (fun dst v c a w h => by cases dst <;> exact h) ?_
 refine ⟨In.of (Ext.refl _ _).drew, ?_⟩
 change wpQuiet _ _ (fun w' => ∃ t : LaterF none' w1, w' = t.w) _ _ _
 simp only [sel, List.getElem?_cons_succ, List.getElem?_cons_zero]
 repeat (go_big_quiet_step (fail))
 refine wpQuiet_nil ?_
 simp only [wpTreeQ, stepT, sel, List.getElem?_cons_succ, List.getElem?_cons_zero]
 have D1 := hid (Ext.refl none' w1).drew
 clear x0 x1 c0 c1 c2 c3 m00 m01 m02 m03
 go_wp2_with fail
 refine (C1.out _ (BX.out.x.trans D1.out) _ ⟨_, rfl, HZ0.out.ext isNd_good D1.out fun _ _ h => h⟩).mono ?_
 rintro e w2 ⟨rfl, X2⟩
 have XX := hid (D1.out.trans X2)
 go_wp2_with fail
 refine ⟨In.of XX.out, In.of XX.out, ?_⟩
 change wpQuiet _ _ (fun w' => ∃ t : LaterF none' w1, w' = t.w) _ _ _
 repeat (go_big_quiet_step (fail))
 refine wpQuiet_nil ?_
 go_wp2_with fail
 go_ret
 exact ⟨by rw [HR.out]; simp, BX.out.x.trans XX.out⟩
theorem un_yes (f : Nat) {a : List UInt8} {x : Nd} (ha : unB a = true) (hx : exF f x = true) {yy e1 e2 e3 : Bool} (hyy : yy = (x.kind == 20 || (x.kind == 19 && (a == [45] && x.text == [45]))))
  (h1 : (x.kind == 20) = e1) (h2 : (x.kind == 19) = e2) (h3 : (a ++ x.text == [45, 45]) = e3) : yy = (e1 || (e2 && e3)) := by
 subst hyy h1 h2 h3
 by_cases hk : x.kind = 19
 · have hxt : unB x.text = true := by
    cases f with
    | zero => cases hx
    | succ f =>
     rw [exF_succ] at hx
     unfold exB at hx
     rw [if_neg (by omega), if_neg (by omega), if_neg (by omega), if_pos hk] at hx
     exact (namB_parts hx).2.1
   unfold unB at ha hxt
   simp only [Bool.or_eq_true, beq_iff_eq] at ha hxt
   rcases ha with h | h <;> rcases hxt with h' | h' <;> rw [h, h', hk] <;> rfl
 · have : (x.kind == 19) = false := by simpa using hk
   rw [this]; rfl
theorem sx_un (f : Nat) (H : ExpH f) (deep : Nat) (head : Bool) (hd : deep + (f + 1) ≤ 1200000) (hf : f + 1 ≤ 1100000) (t : Nd) (ht : t.size ≤ f + 1) (hk : t.kind = 19) (he : namB unB 19 [exF f] t = true) (v : Value) (w : World) (hm : MaxL w) (hv : NdV none' w t v) :
  Calls Tryz.prog 23 #[shV deep head, v] w (StrPost (t.text ++ brT (exT f) deep head ((t.kid 0).kind == 20 || ((t.kid 0).kind == 19 && (t.text == [45] && (t.kid 0).text == [45]))) (t.kid 0)) w) := by
 obtain ⟨y, rfl, hy⟩ := hv
 have HY := hid hy
 obtain ⟨a1, cap1, rfl, hcap, _⟩ := hy
 have hkl : t.kids.length ≤ 1100000 := by have := t.kids_len; omega
 obtain ⟨rr, hrr⟩ : ∃ r, r = t.text ++ brT (exT f) deep head ((t.kid 0).kind == 20 || ((t.kid 0).kind == 19 && (t.text == [45] && (t.kid 0).text == [45]))) (t.kid 0) := ⟨_, rfl⟩
 rw [← hrr]
 obtain ⟨_, htn, h3⟩ := namB_parts he
 obtain ⟨x, hkx, hx1⟩ := one_kid h3
 have hx0 := kid_one hkx
 have hsz := size_one hkx
 have hl : t.kids.length = 1 := by rw [hkx]; rfl
 have htl := unB_len htn
 obtain ⟨yy, hyy⟩ : ∃ y, y = ((t.kid 0).kind == 20 || ((t.kid 0).kind == 19 && (t.text == [45] && (t.kid 0).text == [45]))) := ⟨_, rfl⟩
 rw [← hyy] at hrr
 have hbl := brT_len (head := head) (yes := yy) ((lens_all f deep (by omega)).1 x (by omega) hx1)
 have C1 := hid fun W (X : Ext none' w W) v' (hv' : NdV none' W (t.kid 0) v') => bracket_any f H deep head yy (by omega) (by omega) (t.kid 0) (by rw [hx0]; omega) (by rw [hx0]; exact hx1) v' W (maxL_later hm X) hv'
 have hxs : x.size ≤ 1100000 := by omega
 have hbl2 : (brT (exT f) deep head yy (t.kid 0)).length ≤ 10000000000000 := by rw [hx0]; omega
 have hkt : (t.kid 0).text.length ≤ 10000000000000 := by have := (t.kid 0).size_text; rw [hx0] at this ⊢; omega
 have y0 : (0 : Int) < (t.kids.length : Int) := by omega
 obtain ⟨q1, hq1⟩ : ∃ q, brT (exT f) deep head yy (t.kid 0) = q := ⟨_, rfl⟩
 rw [hq1] at C1 hbl2 hrr
 have cat1 := str_cat t.text q1
 have cat2 := str_cat t.text (t.kid 0).text
 obtain ⟨e1, he1⟩ : ∃ b, ((t.kid 0).kind == 20) = b := ⟨_, rfl⟩
 obtain ⟨e2, he2⟩ : ∃ b, ((t.kid 0).kind == 19) = b := ⟨_, rfl⟩
 obtain ⟨e3, he3⟩ : ∃ b, (t.text ++ (t.kid 0).text == [45, 45]) = b := ⟨_, rfl⟩
 have HYY := hid (un_yes f htn (by rw [hx0]; exact hx1) hyy he1 he2 he3)
 have HR := hid hrr
 rw [hk]
 have CF := hid fun W => free_any deep head W
 obtain ⟨B, hB⟩ : ∃ B, B = w.heap.size := ⟨_, rfl⟩
 have BX := TwoBox.mk' (deep := deep) (head := head) (cs := #[.int .i64 19, .string ⟨t.text.toArray⟩, .slice a1 t.kids.length cap1, .int .i64 t.pos]) hB
 obtain ⟨W0, hW0⟩ : ∃ W0, W0 = ((w.alloc (.cells #[.int .i64 (deep : Nat), .bool head] 50)).alloc (.cells #[.int .i64 19, .string ⟨t.text.toArray⟩, .slice a1 t.kids.length cap1, .int .i64 t.pos] 24)) := ⟨_, rfl⟩
 rw [← hW0] at BX
 have BX := hid BX
 have hmf := mkf_run
 clear hk he hrr ht hd hf hsz hq1 htn h3 hkx hx1 hx0 hbl hxs H hl hyy
 go_enter Tryz.func23, Tryz.ntmps23
 go_upto_region 1 with (fail)
 rw [← hW0, ← hB]
 clear hW0 hB
 obtain ⟨x0, x1⟩ := cell2 BX.out.g0
 obtain ⟨c0, c1, c2, c3⟩ := cell4 BX.out.g1
 go_wp2_with fail
 refine (CF.out _).mono ?_
 rintro e w1 ⟨rfl, X1⟩
 have BX := hid (BX.out.ext X1)
 clear x0 x1 c0 c1 c2 c3 X1
 obtain ⟨x0, x1⟩ := cell2 BX.out.g0
 obtain ⟨c0, c1, c2, c3⟩ := cell4 BX.out.g1
 go_upto_region 7 with (fail)
 clear x0 x1 c0 c1 c2 c3
 obtain ⟨b, off, z0, rfl, hbw, k00, k01, k02, k03, hz0⟩ := kid_val (HY.out.ext isNd_good BX.out.x fun _ _ h => h) 0 (by omega)
 simp only [Nat.zero_mul, Nat.add_zero] at k00 k01 k02 k03
 have HZ0 := hid hz0
 obtain ⟨a2, cap2, rfl, _⟩ := hz0
 have m00 := fun t' : LaterF none' w1 => (t'.x.cell (p := ⟨b, off, none⟩) hbw (fun h => h)).trans k00
 have m01 := fun t' : LaterF none' w1 => (t'.x.cell (p := ⟨b, off + 1, none⟩) hbw (fun h => h)).trans k01
 have m02 := fun t' : LaterF none' w1 => (t'.x.cell (p := ⟨b, off + 2, none⟩) hbw (fun h => h)).trans k02
 have m03 := fun t' : LaterF none' w1 => (t'.x.cell (p := ⟨b, off + 3, none⟩) hbw (fun h => h)).trans k03
 clear k00 k01 k02 k03
 obtain ⟨x0, x1⟩ := cell2L fun t' : LaterF none' w1 => t'.x.heap BX.out.g0 fun h => h
 obtain ⟨c0, c1, c2, c3⟩ := cell4L fun t' : LaterF none' w1 => t'.x.heap BX.out.g1 fun h => h
 cases e1 <;> cases e2 <;> cases e3
 all_goals
  obtain ⟨rfl⟩ := HYY
  refine region_q none' w1 (.qs [0, 1, 2, 3, 4, 5, 6, 7, 8, 9, 10, 11, 12, 13, 14, 15, 16, 17, 18, 19, 20, 21, 22, 23, 24, 25, 26, 27] (.one 28 true (.one 29 false (.one 30 false .fin)))) (by kernel_rfl) (by kernel_rfl) (fun dst v c a w h => by cases dst <;> exact h) ?_
  refine ⟨In.of (Ext.refl _ _).drew, ?_⟩
  change wpQuiet _ _ (fun w' => ∃ t : LaterF none' w1, w' = t.w) _ _ _
  simp only [sel, List.getElem?_cons_succ, List.getElem?_cons_zero]
  repeat (go_big_quiet_step (fail))
  refine wpQuiet_nil ?_
  simp only [wpTreeQ, stepT, sel, List.getElem?_cons_succ, List.getElem?_cons_zero]
  have D1 := hid (Ext.refl none' w1).drew
  clear x0 x1 c0 c1 c2 c3 m00 m01 m02 m03
  go_wp2_with fail
  refine (C1.out _ (BX.out.x.trans D1.out) _ ⟨_, rfl, HZ0.out.ext isNd_good D1.out fun _ _ h => h⟩).mono ?_
  rintro e w2 ⟨rfl, X2⟩
  have XX := hid (D1.out.trans X2)
  go_wp2_with fail
  refine ⟨In.of XX.out, ?_⟩
  go_wp2_with fail
  go_ret
  exact ⟨by rw [HR.out]; rfl, BX.out.x.trans XX.out⟩
end Go.Proofs.YthbmjamgidfneaaGreatDoor
