import Derived.Test.YtielcpnalepkfaaDoorLitPlain
import Derived.Test.YtielcpnalepkfaaDoorLater
import Derived.Test.YtielcpnalepkfaaDoorShelf
namespace Go.Proofs.YtielcpnalepkfaaDoor
open Go.RowKit Go.Lib Go.BigFrame
theorem Src.lits {P : Program} {tx e' : TypeId} (hk : P.underlying tx = some (.slice e')) {w : World} {b : Nat} {bs : List UInt8} {t : TypeId} {fz : Nat × Nat} (h : w.heap[b]? = some (.cells (byteVals bs).toArray t fz)) : Src P 1 tx (.slice (some ⟨b, 0, none⟩) bs.length bs.length) bs.length (byteVals bs) w :=
  Src.ofSlice _ hk _ _ _ _ (by rw [byteVals_length, Nat.mul_one]) (fun j u hj => by
    have e : (⟨b, 0, none⟩ : Addr).add j = ⟨b, j, none⟩ := by simp [Addr.add]; omega
    rw [e, cell_at h, List.getElem?_toArray, hj]) (fun u hu => by
    obtain ⟨c, _, rfl⟩ := List.mem_map.1 hu
    rfl)
/-- The row of bytes that is written. -/
structure OutRel (w wr : World) (v : Value) (bs : List UInt8) : Prop where
  own : wr.ownsRow w.heap.size 5 1 v bs.length (byteVals bs)
  hx : Ext none' w wr
theorem OutRel.later {w wr w2 : World} {v : Value} {bs : List UInt8} (h : OutRel w wr v bs) (x : Ext none' wr w2) : OutRel w w2 v bs := ⟨ownsRow_ext h.own x (fun _ _ h => h), h.hx.trans x⟩
theorem OutRel.app {w wr w2 : World} {v v2 : Value} {bs cs : List UInt8} (h : OutRel w wr v bs) (own : w2.ownsRow w.heap.size 5 1 v2 (bs.length + cs.length) (byteVals bs ++ byteVals cs)) (g : wr.grownBy w2 v.ownBlock) : OutRel w w2 v2 (bs ++ cs) :=
  ⟨by rw [List.length_append, byteVals_append]; exact own, h.hx.grown g (fun k hk => .inr (h.own.lt k hk).1)⟩
theorem hexI (q : Nat) (h : q < 16) (w : World) : (Instr.index 9 (.string ⟨#[48, 49, 50, 51, 52, 53, 54, 55, 56, 57, 97, 98, 99, 100, 101, 102]⟩) (.int .u8 (q : Nat))).run Tryd.prog w = .ok (.int .u8 ((hexd q).toNat : Nat)) w := by
  have : q = 0 ∨ q = 1 ∨ q = 2 ∨ q = 3 ∨ q = 4 ∨ q = 5 ∨ q = 6 ∨ q = 7 ∨ q = 8 ∨ q = 9 ∨ q = 10 ∨ q = 11 ∨ q = 12 ∨ q = 13 ∨ q = 14 ∨ q = 15 := by omega
  rcases this with rfl | rfl | rfl | rfl | rfl | rfl | rfl | rfl | rfl | rfl | rfl | rfl | rfl | rfl | rfl | rfl <;> (rw [run_index_string _ _ _ _ _ Tryd.underlying9]; rfl)
set_option maxRecDepth 100000 in
set_option maxHeartbeats 3200000 in
theorem quote_any (s : List UInt8) (w : World) (hs : s.length ≤ 1000000) : Calls Tryd.prog 17 #[.string ⟨s.toArray⟩] w (StrPost (quoteP s) w) := by
  obtain ⟨i0, hi, hz0, hz1, hz2⟩ : ∃ i0, Tryd.prog.info? 5 = some i0 ∧ i0.zero = some (.int .u8 0) ∧ i0.size = 1 ∧ i0.bytes = 1 := ⟨_, rfl, rfl, rfl, rfl⟩
  have I0 := hid hi
  have I1 := hid hz0
  have I2 := hid hz1
  have I3 := hid hz2
  clear hi hz0 hz1 hz2
  have own0 : (w.alloc (.cells #[.int .u8 34] 5)).ownsRow w.heap.size 5 1 (.slice (some ⟨w.heap.size, 0, none⟩) 1 1) 1 [.int .u8 34] := World.ownsRow_lit w #[.int .u8 34] 1 (Nat.le_refl _) (by decide) rfl
  have R0 : Hid (OutRel w (w.alloc (.cells #[.int .u8 34] 5)) (.slice (some ⟨w.heap.size, 0, none⟩) 1 1) (34 :: (s.take 0).flatMap quoteB)) := hid ⟨own0, (Ext.refl _ _).alloc _⟩
  clear own0
  go_enter Tryd.func17, Tryd.ntmps17
  go_wp2_with fail
  go_loopw [3, 4, 5, 9] (fun vo _ _ z wr => ∃ i : Nat, z = .int .i64 i ∧ i ≤ s.length ∧ Hid (OutRel w wr vo (34 :: (s.take i).flatMap quoteB))) (fun _ _ _ z _ => s.length - (RowKit.intOf z).toNat)
  case atStart => exact ⟨0, rfl, by omega, R0⟩
  case round =>
    obtain ⟨i, rfl, hle, HR⟩ := hrel
    by_cases hil : i < s.length
    · have hix := byte_at s i hil
      have HF := hid (flatMap_take s i hil)
      obtain ⟨c, hc⟩ : ∃ c, s[i]'hil = c := ⟨_, rfl⟩
      rw [hc] at hix HF
      have hbl := quotes_len (s.take i)
      rw [List.length_take] at hbl
      obtain ⟨bs, hbs⟩ : ∃ bs, bs = 34 :: (s.take i).flatMap quoteB := ⟨_, rfl⟩
      have hl : bs.length ≤ 4000001 := by rw [hbs, List.length_cons]; omega
      rw [← hbs] at HR
      have HN : Hid (34 :: (s.take (i + 1)).flatMap quoteB = bs ++ quoteB c) := hid (by rw [HF.out, hbs]; rfl)
      have HX := hid HR.out.hx.size
      clear hc hbl hbs HF
      by_cases q1 : c = 34 ∨ c = 92
      · have HB : Hid (quoteB c = [92, c]) := hid (by unfold quoteB; rw [if_pos q1])
        have O2 := hid (HR.out.later ((Ext.refl none' wr).alloc (.cells (byteVals [92, c]).toArray 5)))
        have S2 : Hid (Src Tryd.prog 1 23 (.slice (some ⟨wr.heap.size, 0, none⟩) 2 2) 2 (byteVals [92, c]) (wr.alloc (.cells (byteVals [92, c]).toArray 5))) := hid (Src.lits (bs := [92, c]) Tryd.underlying23 (heap_alloc_at rfl _))
        have hq : ((c.toNat : Int) == 34) = true ∨ (((c.toNat : Int) == 34) = false ∧ ((c.toNat : Int) == 92) = true) := by
          rcases q1 with rfl | rfl
          · left; decide
          · right; decide
        clear q1
        rcases hq with hq | ⟨hq, hq2⟩
        all_goals
          go_wp2_with (at_builtin; refine wpList_app _ rfl (.tmp 31) (.tmp 33) 23 23 rfl w.heap.size 5 i0 _ 1 1 Tryd.underlying23 I0.out I1.out I2.out I3.out rfl _ bs.length (byteVals bs) rfl O2.out.own _ 2 _ rfl S2.out ?_ ?_ ?_ ?_)
          · unfold maxLen; omega
          · omega
          · have := HX.out; simp; omega
          intro v3 w3 own3 grow3 blk3 _
          have N := hid (O2.out.app (cs := [92, c]) own3 grow3)
          rw [← HB.out, ← HN.out] at N
          clear own3 grow3 blk3
          go_wp2_with fail
          go_roundw
          case rel => exact ⟨i + 1, by go_num, by omega, N⟩
          case measure => simp [RowKit.intOf]; omega
      · have q1' : c ≠ 34 ∧ c ≠ 92 := ⟨fun h => q1 (.inl h), fun h => q1 (.inr h)⟩
        have n1 : ((c.toNat : Int) == 34) = false := by have := u8n q1'.1; simp at this ⊢; omega
        have n2 : ((c.toNat : Int) == 92) = false := by have := u8n q1'.2; simp at this ⊢; omega
        by_cases q2 : c = 10
        · have HB : Hid (quoteB c = [92, 110]) := hid (by unfold quoteB; rw [if_neg q1, if_pos q2])
          have S2 : Hid (Src Tryd.prog 1 9 (.string ⟨#[92, 110]⟩) 2 (byteVals [92, 110]) wr) := hid (Src.str Tryd.underlying9 [92, 110] wr)
          have n3 : ((c.toNat : Int) == 10) = true := by rw [q2]; decide
          clear q1 q1' q2
          go_wp2_with (at_builtin; refine wpList_app _ rfl (.tmp 38) (.const (.string ⟨#[92, 110]⟩)) 23 9 rfl w.heap.size 5 i0 _ 1 1 Tryd.underlying23 I0.out I1.out I2.out I3.out rfl _ bs.length (byteVals bs) rfl HR.out.own _ 2 _ rfl S2.out ?_ ?_ ?_ ?_)
          · unfold maxLen; omega
          · omega
          · exact HX.out
          intro v3 w3 own3 grow3 blk3 _
          have N := hid (HR.out.app (cs := [92, 110]) own3 grow3)
          rw [← HB.out, ← HN.out] at N
          clear own3 grow3 blk3
          go_wp2_with fail
          go_roundw
          case rel => exact ⟨i + 1, by go_num, by omega, N⟩
          case measure => simp [RowKit.intOf]; omega
        · have n3 : ((c.toNat : Int) == 10) = false := by have := u8n q2; simp at this ⊢; omega
          by_cases q3 : c = 9
          · have HB : Hid (quoteB c = [92, 116]) := hid (by unfold quoteB; rw [if_neg q1, if_neg q2, if_pos q3])
            have S2 : Hid (Src Tryd.prog 1 9 (.string ⟨#[92, 116]⟩) 2 (byteVals [92, 116]) wr) := hid (Src.str Tryd.underlying9 [92, 116] wr)
            have n4 : ((c.toNat : Int) == 9) = true := by rw [q3]; decide
            clear q1 q1' q2 q3
            go_wp2_with (at_builtin; refine wpList_app _ rfl (.tmp 43) (.const (.string ⟨#[92, 116]⟩)) 23 9 rfl w.heap.size 5 i0 _ 1 1 Tryd.underlying23 I0.out I1.out I2.out I3.out rfl _ bs.length (byteVals bs) rfl HR.out.own _ 2 _ rfl S2.out ?_ ?_ ?_ ?_)
            · unfold maxLen; omega
            · omega
            · exact HX.out
            intro v3 w3 own3 grow3 blk3 _
            have N := hid (HR.out.app (cs := [92, 116]) own3 grow3)
            rw [← HB.out, ← HN.out] at N
            clear own3 grow3 blk3
            go_wp2_with fail
            go_roundw
            case rel => exact ⟨i + 1, by go_num, by omega, N⟩
            case measure => simp [RowKit.intOf]; omega
          · have n4 : ((c.toNat : Int) == 9) = false := by have := u8n q3; simp at this ⊢; omega
            by_cases q4 : 32 ≤ c.toNat ∧ c.toNat ≤ 126
            · have HB : Hid (quoteB c = [c]) := hid (by unfold quoteB; rw [if_neg q1, if_neg q2, if_neg q3, if_pos q4])
              have O2 := hid (HR.out.later ((Ext.refl none' wr).alloc (.cells (byteVals [c]).toArray 5)))
              have S2 : Hid (Src Tryd.prog 1 23 (.slice (some ⟨wr.heap.size, 0, none⟩) 1 1) 1 (byteVals [c]) (wr.alloc (.cells (byteVals [c]).toArray 5))) := hid (Src.lits (bs := [c]) Tryd.underlying23 (heap_alloc_at rfl _))
              obtain ⟨q41, q42⟩ := q4
              clear q1 q1' q2 q3
              go_wp2_with (at_builtin; refine wpList_app _ rfl (.tmp 52) (.tmp 54) 23 23 rfl w.heap.size 5 i0 _ 1 1 Tryd.underlying23 I0.out I1.out I2.out I3.out rfl _ bs.length (byteVals bs) rfl O2.out.own _ 1 _ rfl S2.out ?_ ?_ ?_ ?_)
              · unfold maxLen; omega
              · omega
              · have := HX.out; simp; omega
              intro v3 w3 own3 grow3 blk3 _
              have N := hid (O2.out.app (cs := [c]) own3 grow3)
              rw [← HB.out, ← HN.out] at N
              clear own3 grow3 blk3
              go_wp2_with fail
              go_roundw
              case rel => exact ⟨i + 1, by go_num, by omega, N⟩
              case measure => simp [RowKit.intOf]; omega
            · have HB : Hid (quoteB c = [92, 120, hexd (c.toNat / 16), hexd (c.toNat % 16)]) := hid (by unfold quoteB; rw [if_neg q1, if_neg q2, if_neg q3, if_neg q4])
              have q4' : c.toNat < 32 ∨ 126 < c.toNat := by omega
              have hc256 : c.toNat < 256 := UInt8.toNat_lt _
              have hi1 : ∀ w, (Instr.index 9 (.string ⟨#[48, 49, 50, 51, 52, 53, 54, 55, 56, 57, 97, 98, 99, 100, 101, 102]⟩) (.int .u8 ((c.toNat : Int) / 16))).run Tryd.prog w = .ok (.int .u8 ((hexd (c.toNat / 16)).toNat : Nat)) w := fun w => by
                rw [show (c.toNat : Int) / 16 = ((c.toNat / 16 : Nat) : Int) by omega]; exact hexI _ (by omega) w
              have hi2 : ∀ w, (Instr.index 9 (.string ⟨#[48, 49, 50, 51, 52, 53, 54, 55, 56, 57, 97, 98, 99, 100, 101, 102]⟩) (.int .u8 ((c.toNat : Int) % 16))).run Tryd.prog w = .ok (.int .u8 ((hexd (c.toNat % 16)).toNat : Nat)) w := fun w => by
                rw [show (c.toNat : Int) % 16 = ((c.toNat % 16 : Nat) : Int) by omega]; exact hexI _ (by omega) w
              clear q1 q1' q2 q3 q4
              rcases q4' with q4' | q4'
              all_goals
                go_wp2_with fail
                refine region_in none' wr [0, 1, 2, 3, 4, 5, 6] [(7, true), (8, false), (9, false)] (by kernel_rfl) (by kernel_rfl) (fun dst v c a w h => by cases dst <;> exact h) (Ext.refl _ _) ?_
                simp only [sel, List.getElem?_cons_succ, List.getElem?_cons_zero]
                repeat (go_big_quiet_step (fail))
                refine wpQuiet_nil ?_
                simp only [wpChain, sel, List.getElem?_cons_succ, List.getElem?_cons_zero]
                clear hi1 hi2
                obtain ⟨h1, hh1⟩ : ∃ h1, hexd (c.toNat / 16) = h1 := ⟨_, rfl⟩
                obtain ⟨h2, hh2⟩ : ∃ h2, hexd (c.toNat % 16) = h2 := ⟨_, rfl⟩
                rw [hh1, hh2] at HB ⊢
                clear hh1 hh2
                obtain ⟨W, hW⟩ : ∃ W, W = wr.drew := ⟨_, rfl⟩
                rw [← hW]
                have XW : Ext none' wr W := by rw [hW]; exact (Ext.refl _ _).drew
                have HXW := hid XW
                have O2 := hid (HR.out.later (XW.alloc (.cells (byteVals [92, 120, h1, h2]).toArray 5)))
                have S2 : Hid (Src Tryd.prog 1 23 (.slice (some ⟨W.heap.size, 0, none⟩) 4 4) 4 (byteVals [92, 120, h1, h2]) (W.alloc (.cells (byteVals [92, 120, h1, h2]).toArray 5))) := hid (Src.lits (bs := [92, 120, h1, h2]) Tryd.underlying23 (heap_alloc_at rfl _))
                clear XW hW
                go_wp2_with fail
                refine ⟨In.of (HXW.out.alloc _), ?_⟩
                refine wpList_app _ rfl (.tmp 15) (.tmp 22) 23 23 rfl w.heap.size 5 i0 _ 1 1 Tryd.underlying23 I0.out I1.out I2.out I3.out rfl _ bs.length (byteVals bs) rfl O2.out.own _ 4 _ rfl S2.out ?_ ?_ ?_ ?_
                · unfold maxLen; omega
                · omega
                · have := HX.out; have := HXW.out.size; simp; omega
                intro v3 w3 own3 grow3 blk3 _
                have N := hid (O2.out.app (cs := [92, 120, h1, h2]) own3 grow3)
                rw [← HB.out, ← HN.out] at N
                clear own3 grow3 blk3
                refine wpList_nil ?_
                go_wp2_with fail
                go_roundw
                case rel => exact ⟨i + 1, by go_num, by omega, N⟩
                case measure => simp [RowKit.intOf]; omega
    · obtain rfl : i = s.length := by omega
      have HE := HR
      rw [List.take_length] at HE
      obtain ⟨bs, hbs⟩ : ∃ bs, bs = 34 :: s.flatMap quoteB := ⟨_, rfl⟩
      have hl : bs.length ≤ 4000001 := by have := quotes_len s; rw [hbs, List.length_cons]; omega
      have HQ : Hid (quoteP s = bs ++ [34]) := hid (by rw [hbs]; rfl)
      rw [← hbs] at HE
      have HX := hid HE.out.hx.size
      have O2 := hid (HE.out.later ((Ext.refl none' wr).alloc (.cells (byteVals [34]).toArray 5)))
      have S2 : Hid (Src Tryd.prog 1 23 (.slice (some ⟨wr.heap.size, 0, none⟩) 1 1) 1 (byteVals [34]) (wr.alloc (.cells (byteVals [34]).toArray 5))) := hid (Src.lits (bs := [34]) Tryd.underlying23 (heap_alloc_at rfl _))
      clear hbs HR
      go_wp2_with (at_builtin; refine wpList_app _ rfl (.tmp 57) (.tmp 58) 23 23 rfl w.heap.size 5 i0 _ 1 1 Tryd.underlying23 I0.out I1.out I2.out I3.out rfl _ bs.length (byteVals bs) rfl O2.out.own _ 1 _ rfl S2.out ?_ ?_ ?_ ?_)
      · unfold maxLen; omega
      · omega
      · have := HX.out; simp; omega
      intro v3 w3 own3 grow3 blk3 _
      have N := hid (O2.out.app (cs := [34]) own3 grow3)
      rw [← HQ.out] at N
      have hcv := conv_bytes (Bytes.of_owns N.out.own) 23 5 Tryd.underlying23 Tryd.underlying5 9 Tryd.underlying9
      have HCV := hid hcv
      clear own3 grow3 blk3
      go_wp2_with fail
      go_ret
      exact ⟨rfl, N.out.hx⟩
end Go.Proofs.YtielcpnalepkfaaDoor
