import Derived.Test.YthbmjamgidfneaaGreatDoorYAa
import Derived.Test.YthbmjamgidfneaaGreatDoorYAd
import Derived.Test.YthbmjamgidfneaaGreatDoorYAf
import Derived.Test.YthbmjamgidfneaaGreatDoorYAc
import Derived.Test.YthbmjamgidfneaaGreatDoorYAh
set_option maxRecDepth 100000
set_option maxHeartbeats 6400000
namespace Go.Proofs.YthbmjamgidfneaaGreatDoor
open Go.RowKit Go.Lib Go.BigFrame
set_option linter.unusedVariables false
set_option linter.unusedSimpArgs false
structure TwoBox (B : Nat) (deep : Nat) (head : Bool) (cs : Array Value) (w wr : World) : Prop where
 g0 : wr.heap[B]? = some (.cells #[.int .i64 (deep : Nat), .bool head] 50 (0, 0))
 g1 : wr.heap[B + 1]? = some (.cells cs 24 (0, 0))
 x : Ext none' w wr
theorem TwoBox.ext {B deep : Nat} {head : Bool} {cs : Array Value} {w wr w2 : World} (h : TwoBox B deep head cs w wr) (x : Ext none' wr w2) : TwoBox B deep head cs w w2 := ⟨x.heap h.g0 fun h => h, x.heap h.g1 fun h => h, h.x.trans x⟩
theorem TwoBox.mk' {deep : Nat} {head : Bool} {cs : Array Value} {w : World} {B : Nat} (hB : B = w.heap.size) : TwoBox B deep head cs w ((w.alloc (.cells #[.int .i64 (deep : Nat), .bool head] 50)).alloc (.cells cs 24)) :=
 ⟨heap_alloc_keep (heap_alloc_at hB _) _, heap_alloc_at (by rw [hB]; simp) _, ((Ext.refl _ _).alloc _).alloc _⟩
theorem bracket_any (f : Nat) (H : ExpH f) (deep : Nat) (head yes : Bool) (hd : deep + f ≤ 1200000) (hf : f ≤ 1100000) (t : Nd) (ht : t.size ≤ f) (he : exF f t = true) (v : Value) (w : World) (hm : MaxL w) (hv : NdV none' w t v) :
 Calls Tryz.prog 53 #[shV deep head, v, .bool yes] w (StrPost (brT (exT f) deep head yes t) w) := by
 have HL := (lens_all f deep hd).1 t ht he
 have CE := hid fun hh W (X : Ext none' w W) => H deep hh hd t ht he v W (maxL_later hm X) (hv.ext X fun _ _ h => h)
 obtain ⟨y, rfl, hy⟩ := hv
 obtain ⟨a1, cap1, rfl, _⟩ := hy
 cases yes
 · have e : brT (exT f) deep head false t = exT f deep head t := rfl
   rw [e]
   have CE := hid (CE.out head)
   obtain ⟨q, hq⟩ : ∃ q, exT f deep head t = q := ⟨_, rfl⟩
   rw [hq] at CE ⊢
   clear hq e HL he ht hm H hd hf
   go_enter Tryz.func53, Tryz.ntmps53
   go_wp2_with fail
   refine (CE.out _ (((Ext.refl _ _).alloc _).alloc _)).mono ?_
   rintro e w1 ⟨rfl, X1⟩
   have X1 := hid ((((Ext.refl none' w).alloc _).alloc _).trans X1)
   go_wp2_with fail
   go_ret
   exact ⟨rfl, X1.out⟩
 · have e : brT (exT f) deep head true t = [40] ++ exT f deep false t ++ [41] := rfl
   rw [e]
   have CE := hid (CE.out false)
   have HL := HL false
   obtain ⟨q, hq⟩ : ∃ q, exT f deep false t = q := ⟨_, rfl⟩
   rw [hq] at CE HL ⊢
   have hql : q.length ≤ 10000000000000 := by omega
   have cat1 := str_cat [40] q
   have cat2 := str_cat (40 :: q) [41]
   have CF := hid fun W => free_any deep head W
   obtain ⟨B, hB⟩ : ∃ B, B = w.heap.size := ⟨_, rfl⟩
   have BX := TwoBox.mk' (deep := deep) (head := head) (cs := #[.int .i64 t.kind, .string ⟨t.text.toArray⟩, .slice a1 t.kids.length cap1, .int .i64 t.pos]) hB
   obtain ⟨W0, hW0⟩ : ∃ W0, W0 = ((w.alloc (.cells #[.int .i64 (deep : Nat), .bool head] 50)).alloc (.cells #[.int .i64 t.kind, .string ⟨t.text.toArray⟩, .slice a1 t.kids.length cap1, .int .i64 t.pos] 24)) := ⟨_, rfl⟩
   rw [← hW0] at BX
   have BX := hid BX
   clear hq e HL he ht hm H hd hf
   go_enter Tryz.func53, Tryz.ntmps53
   go_upto_region 2 with (fail)
   rw [← hW0, ← hB]
   clear hW0 hB
   obtain ⟨x0, x1⟩ := cell2L fun t' : LaterF none' W0 => t'.x.heap BX.out.g0 fun h => h
   obtain ⟨y0, y1, y2, y3⟩ := cell4L fun t' : LaterF none' W0 => t'.x.heap BX.out.g1 fun h => h
   refine region_q none' W0 (.qs [0, 2] (.one 1 true (.one 3 false (.one 4 false (.one 5 false (.one 6 false .fin)))))) (by kernel_rfl) (by kernel_rfl) (fun dst v c a w h => by cases dst <;> exact h) ?_
   refine ⟨In.of (Ext.refl _ _).drew, ?_⟩
   change wpQuiet _ _ (fun w' => ∃ t : LaterF none' W0, w' = t.w) _ _ _
   simp only [sel, List.getElem?_cons_succ, List.getElem?_cons_zero]
   repeat (go_big_quiet_step (fail))
   refine wpQuiet_nil ?_
   simp only [wpTreeQ, stepT, sel, List.getElem?_cons_succ, List.getElem?_cons_zero]
   have D1 := hid (Ext.refl none' W0).drew
   clear x0 x1 y0 y1 y2 y3
   go_wp2_with fail
   refine (CF.out _).mono ?_
   rintro e w1 ⟨rfl, X1⟩
   have X1 := hid (D1.out.trans X1)
   go_wp2_with fail
   refine ⟨In.of X1.out, ?_⟩
   go_wp2_with fail
   refine (CE.out _ (BX.out.x.trans X1.out)).mono ?_
   rintro e w2 ⟨rfl, X2⟩
   have X2 := hid ((BX.out.x.trans X1.out).trans X2)
   go_wp2_with fail
   go_ret
   exact ⟨by simp, X2.out⟩
theorem first_any (f : Nat) (H : ExpH f) (deep : Nat) (head : Bool) (hd : deep + f ≤ 1200000) (hf : f ≤ 1100000) (t : Nd) (ht : t.size ≤ f) (he : exF f t = true) (v : Value) (w : World) (hm : MaxL w) (hv : NdV none' w t v) :
 Calls Tryz.prog 55 #[shV deep head, v] w (StrPost (fstT (exT f) deep head t) w) := by
 unfold fstT
 have CB := hid fun W (X : Ext none' w W) => bracket_any f H deep head (t.kind == 19 || t.kind == 20) hd hf t ht he v W (maxL_later hm X) (hv.ext X fun _ _ h => h)
 obtain ⟨q, hq⟩ : ∃ q, brT (exT f) deep head (t.kind == 19 || t.kind == 20) t = q := ⟨_, rfl⟩
 rw [hq] at CB ⊢
 obtain ⟨y, rfl, hy⟩ := hv
 obtain ⟨a1, cap1, rfl, _⟩ := hy
 obtain ⟨tk, htk⟩ : ∃ k, t.kind = k := ⟨_, rfl⟩
 rw [htk] at CB ⊢
 obtain ⟨q1, h1⟩ : ∃ b, (tk == 19) = b := ⟨_, rfl⟩
 obtain ⟨q2, h2⟩ : ∃ b, (tk == 20) = b := ⟨_, rfl⟩
 rw [h1, h2] at CB
 clear hq htk he ht hm H hd hf
 cases q1 <;> cases q2
 all_goals
  go_enter Tryz.func55, Tryz.ntmps55
  go_wp2_with fail
  refine (CB.out _ (((Ext.refl _ _).alloc _).alloc _)).mono ?_
  rintro e w1 ⟨rfl, X1⟩
  have X1 := hid ((((Ext.refl none' w).alloc _).alloc _).trans X1)
  go_wp2_with fail
  go_ret
  exact ⟨rfl, X1.out⟩
def ArgD (f : Nat) (t : Nd) : Prop := t.size ≤ f ∧ argB (tyF nmB f) (exF f) t = true
theorem arg_split {f : Nat} {t : Nd} (h : ArgD f t) : ((t.kind = 11 ∨ t.kind = 12) ∧ tyF nmB f t = true) ∨ (t.kind ≠ 10 ∧ t.kind ≠ 11 ∧ t.kind ≠ 12 ∧ exF f t = true) :=
 arg_cases f rfl (fun t ht => by have := exF_kind ht; omega) h.2
theorem part_any (f : Nat) (H : ExpH f) (deep : Nat) (head : Bool) (hd : deep + f ≤ 1200000) (hf : f ≤ 1100000) (t : Nd) (ht : ArgD f t) (v : Value) (w : World) (hm : MaxL w) (hv : NdV none' w t v) :
 Calls Tryz.prog 51 #[shV deep head, v] w (StrPost (if t.kind = 11 ∨ t.kind = 12 then typF f t else exT f deep head t) w) := by
 rcases arg_split ht with ⟨hk, hty⟩ | ⟨h10, h11, h12, hex⟩
 · have CT := hid fun W (X : Ext none' w W) => typ_any f (by unfold bigD; omega) t ⟨ht.1, hty⟩ v W (hv.ext X fun _ _ h => h)
   rw [if_pos hk]
   obtain ⟨q, hq⟩ : ∃ q, typF f t = q := ⟨_, rfl⟩
   rw [hq] at CT ⊢
   obtain ⟨y, rfl, hy⟩ := hv
   obtain ⟨a1, cap1, rfl, _⟩ := hy
   obtain ⟨tk, htk⟩ : ∃ k, t.kind = k := ⟨_, rfl⟩
   rw [htk] at CT hk ⊢
   clear hq htk ht hm H hd hf hty
   rcases hk with rfl | rfl
   all_goals
    go_enter Tryz.func51, Tryz.ntmps51
    go_wp2_with fail
    refine (CT.out _ (((Ext.refl _ _).alloc _).alloc _)).mono ?_
    rintro e w1 ⟨rfl, X1⟩
    have X1 := hid ((((Ext.refl none' w).alloc _).alloc _).trans X1)
    go_wp2_with fail
    go_ret
    exact ⟨rfl, X1.out⟩
 · have CE := hid fun W (X : Ext none' w W) => H deep head hd t ht.1 hex v W (maxL_later hm X) (hv.ext X fun _ _ h => h)
   rw [if_neg (by omega)]
   obtain ⟨q, hq⟩ : ∃ q, exT f deep head t = q := ⟨_, rfl⟩
   rw [hq] at CE ⊢
   obtain ⟨y, rfl, hy⟩ := hv
   obtain ⟨a1, cap1, rfl, _⟩ := hy
   obtain ⟨tk, htk⟩ : ∃ k, t.kind = k := ⟨_, rfl⟩
   rw [htk] at CE h10 h11 h12 ⊢
   have q10 : (tk == 10) = false := by simpa using h10
   have q11 : (tk == 11) = false := by simpa using h11
   have q12 : (tk == 12) = false := by simpa using h12
   clear hq htk ht hm H hd hf hex h10 h11 h12
   go_enter Tryz.func51, Tryz.ntmps51
   go_wp2_with fail
   refine (CE.out _ (((Ext.refl _ _).alloc _).alloc _)).mono ?_
   rintro e w1 ⟨rfl, X1⟩
   have X1 := hid ((((Ext.refl none' w).alloc _).alloc _).trans X1)
   go_wp2_with fail
   go_ret
   exact ⟨rfl, X1.out⟩
theorem part_tell (f : Nat) (H : ExpH f) (deep : Nat) (hd : deep + f ≤ 1200000) (hf : f ≤ 1100000) (w : World) (hm : MaxL w) : TellV (ArgD f) (partT (typF f) (exT f) deep) w (.func (.func 51) #[shV deep false] #[]) :=
 ⟨_, _, _, rfl, Go.Proofs.enters_of Tryz.func51 (by kernel_rfl) rfl, fun t ht W x X hx => part_any f H deep false hd hf t ht x W (maxL_later hm X) hx⟩
end Go.Proofs.YthbmjamgidfneaaGreatDoor
namespace Go.Proofs.YthbmjamgidfneaaGreatDoor
open Go.RowKit Go.Lib Go.BigFrame
theorem Src.lits {P : Program} {tx e' : TypeId} (hk : P.underlying tx = some (.slice e')) {w : World} {b : Nat} {bs : List UInt8} {t : TypeId} {fz : Nat × Nat} (h : w.heap[b]? = some (.cells (byteVals bs).toArray t fz)) : Src P 1 tx (.slice (some ⟨b, 0, none⟩) bs.length bs.length) bs.length (byteVals bs) w :=
 Src.ofSlice _ hk _ _ _ _ (by rw [byteVals_length, Nat.mul_one]) (fun j u hj => by
  have e : (⟨b, 0, none⟩ : Addr).add j = ⟨b, j, none⟩ := by simp [Addr.add]; omega
  rw [e, cell_at h, List.getElem?_toArray, hj]) (fun u hu => by
  obtain ⟨c, _, rfl⟩ := List.mem_map.1 hu
  rfl)
structure OutRel (w wr : World) (v : Value) (bs : List UInt8) : Prop where
 own : wr.ownsRow w.heap.size 5 1 v bs.length (byteVals bs)
 hx : Ext none' w wr
theorem OutRel.later {w wr w2 : World} {v : Value} {bs : List UInt8} (h : OutRel w wr v bs) (x : Ext none' wr w2) : OutRel w w2 v bs := ⟨ownsRow_ext h.own x (fun _ _ h => h), h.hx.trans x⟩
theorem OutRel.app {w wr w2 : World} {v v2 : Value} {bs cs : List UInt8} (h : OutRel w wr v bs) (own : w2.ownsRow w.heap.size 5 1 v2 (bs.length + cs.length) (byteVals bs ++ byteVals cs)) (g : wr.grownBy w2 v.ownBlock) : OutRel w w2 v2 (bs ++ cs) :=
 ⟨by rw [List.length_append, byteVals_append]; exact own, h.hx.grown g (fun k hk => .inr (h.own.lt k hk).1)⟩
theorem hexI (q : Nat) (h : q < 16) (w : World) : (Instr.index 9 (.string ⟨#[48, 49, 50, 51, 52, 53, 54, 55, 56, 57, 97, 98, 99, 100, 101, 102]⟩) (.int .u8 (q : Nat))).run Tryz.prog w = .ok (.int .u8 ((hexd q).toNat : Nat)) w := by
 have : q = 0 ∨ q = 1 ∨ q = 2 ∨ q = 3 ∨ q = 4 ∨ q = 5 ∨ q = 6 ∨ q = 7 ∨ q = 8 ∨ q = 9 ∨ q = 10 ∨ q = 11 ∨ q = 12 ∨ q = 13 ∨ q = 14 ∨ q = 15 := by omega
 rcases this with rfl | rfl | rfl | rfl | rfl | rfl | rfl | rfl | rfl | rfl | rfl | rfl | rfl | rfl | rfl | rfl <;> (rw [run_index_string _ _ _ _ _ Tryz.underlying9]; rfl)
theorem quote_any (s : List UInt8) (w : World) (hs : s.length ≤ 1000000) : Calls Tryz.prog 52 #[.string ⟨s.toArray⟩] w (StrPost (quoteP s) w) := by
 obtain ⟨i0, hi, hz0, hz1, hz2⟩ : ∃ i0, Tryz.prog.info? 5 = some i0 ∧ i0.zero = some (.int .u8 0) ∧ i0.size = 1 ∧ i0.bytes = 1 := ⟨_, rfl, rfl, rfl, rfl⟩
 have I0 := hid hi
 have I1 := hid hz0
 have I2 := hid hz1
 have I3 := hid hz2
 clear hi hz0 hz1 hz2
 have own0 : (w.alloc (.cells #[.int .u8 34] 5)).ownsRow w.heap.size 5 1 (.slice (some ⟨w.heap.size, 0, none⟩) 1 1) 1 [.int .u8 34] := World.ownsRow_lit w #[.int .u8 34] 1 (Nat.le_refl _) (by decide) rfl
 have R0 : Hid (OutRel w (w.alloc (.cells #[.int .u8 34] 5)) (.slice (some ⟨w.heap.size, 0, none⟩) 1 1) (34 :: (s.take 0).flatMap quoteB)) := hid ⟨own0, (Ext.refl _ _).alloc _⟩
 clear own0
 go_enter Tryz.func52, Tryz.ntmps52
 go_wp2_with fail
 go_loopw [3, 4, 5, 9] (fun vo _ _ z wr => ∃ i : Nat, z = .int .i64 i ∧ i ≤ s.length ∧ Hid (OutRel w wr vo (34 :: (s.take i).flatMap quoteB))) (fun _ _ _ z _ => s.length - (RowKit.intOf z).toNat)
 case atStart => exact ⟨0, rfl, by omega, R0⟩
 case round =>
  obtain ⟨i, rfl, hle, HR⟩ := hrel
  by_cases hil : i < s.length
  · have hix := byte_at s i hil
    have HF := hid (flatMap_take s i hil)
    obtain ⟨c, hc⟩ : ∃ c, s[i]'hil = c := ⟨_, rfl⟩
    rw [hc] at hix HF
    have hbl := quotes_len (s.take i)
    rw [List.length_take] at hbl
    obtain ⟨bs, hbs⟩ : ∃ bs, bs = 34 :: (s.take i).flatMap quoteB := ⟨_, rfl⟩
    have hl : bs.length ≤ 4000001 := by rw [hbs, List.length_cons]; omega
    rw [← hbs] at HR
    have HN : Hid (34 :: (s.take (i + 1)).flatMap quoteB = bs ++ quoteB c) := hid (by rw [HF.out, hbs]; rfl)
    have HX := hid HR.out.hx.size
    clear hc hbl hbs HF
    by_cases q1 : c = 34 ∨ c = 92
    · have HB : Hid (quoteB c = [92, c]) := hid (by unfold quoteB; rw [if_pos q1])
      have O2 := hid (HR.out.later ((Ext.refl none' wr).alloc (.cells (byteVals [92, c]).toArray 5)))
      have S2 : Hid (Src Tryz.prog 1 37 (.slice (some ⟨wr.heap.size, 0, none⟩) 2 2) 2 (byteVals [92, c]) (wr.alloc (.cells (byteVals [92, c]).toArray 5))) := hid (Src.lits (bs := [92, c]) Tryz.underlying37 (heap_alloc_at rfl _))
      have hq : ((c.toNat : Int) == 34) = true ∨ (((c.toNat : Int) == 34) = false ∧ ((c.toNat : Int) == 92) = true) := by
       rcases q1 with rfl | rfl
       · left; decide
       · right; decide
      clear q1
      rcases hq with hq | ⟨hq, hq2⟩
      all_goals
       go_wp2_with (at_builtin; refine wpList_app _ rfl (.tmp 31) (.tmp 33) 37 37 rfl w.heap.size 5 i0 _ 1 1 Tryz.underlying37 I0.out I1.out I2.out I3.out rfl _ bs.length (byteVals bs) rfl O2.out.own _ 2 _ rfl S2.out ?_ ?_ ?_ ?_)
       · unfold maxLen; omega
       · omega
       · have := HX.out; simp; omega
       intro v3 w3 own3 grow3 blk3 _
       have N := hid (O2.out.app (cs := [92, c]) own3 grow3)
       rw [← HB.out, ← HN.out] at N
       clear own3 grow3 blk3
       go_wp2_with fail
       go_roundw
       case rel => exact ⟨i + 1, by go_num, by omega, N⟩
       case measure => simp [RowKit.intOf]; omega
    · have q1' : c ≠ 34 ∧ c ≠ 92 := ⟨fun h => q1 (.inl h), fun h => q1 (.inr h)⟩
      have n1 : ((c.toNat : Int) == 34) = false := by have := u8n q1'.1; simp at this ⊢; omega
      have n2 : ((c.toNat : Int) == 92) = false := by have := u8n q1'.2; simp at this ⊢; omega
      by_cases q2 : c = 10
      · have HB : Hid (quoteB c = [92, 110]) := hid (by unfold quoteB; rw [if_neg q1, if_pos q2])
        have S2 : Hid (Src Tryz.prog 1 9 (.string ⟨#[92, 110]⟩) 2 (byteVals [92, 110]) wr) := hid (Src.str Tryz.underlying9 [92, 110] wr)
        have n3 : ((c.toNat : Int) == 10) = true := by rw [q2]; decide
        clear q1 q1' q2
        go_wp2_with (at_builtin; refine wpList_app _ rfl (.tmp 38) (.const (.string ⟨#[92, 110]⟩)) 37 9 rfl w.heap.size 5 i0 _ 1 1 Tryz.underlying37 I0.out I1.out I2.out I3.out rfl _ bs.length (byteVals bs) rfl HR.out.own _ 2 _ rfl S2.out ?_ ?_ ?_ ?_)
        · unfold maxLen; omega
        · omega
        · exact HX.out
        intro v3 w3 own3 grow3 blk3 _
        have N := hid (HR.out.app (cs := [92, 110]) own3 grow3)
        rw [← HB.out, ← HN.out] at N
        clear own3 grow3 blk3
        go_wp2_with fail
        go_roundw
        case rel => exact ⟨i + 1, by go_num, by omega, N⟩
        case measure => simp [RowKit.intOf]; omega
      · have n3 : ((c.toNat : Int) == 10) = false := by have := u8n q2; simp at this ⊢; omega
        by_cases q3 : c = 9
        · have HB : Hid (quoteB c = [92, 116]) := hid (by unfold quoteB; rw [if_neg q1, if_neg q2, if_pos q3])
          have S2 : Hid (Src Tryz.prog 1 9 (.string ⟨#[92, 116]⟩) 2 (byteVals [92, 116]) wr) := hid (Src.str Tryz.underlying9 [92, 116] wr)
          have n4 : ((c.toNat : Int) == 9) = true := by rw [q3]; decide
          clear q1 q1' q2 q3
          go_wp2_with (at_builtin; refine wpList_app _ rfl (.tmp 43) (.const (.string ⟨#[92, 116]⟩)) 37 9 rfl w.heap.size 5 i0 _ 1 1 Tryz.underlying37 I0.out I1.out I2.out I3.out rfl _ bs.length (byteVals bs) rfl HR.out.own _ 2 _ rfl S2.out ?_ ?_ ?_ ?_)
          · unfold maxLen; omega
          · omega
          · exact HX.out
          intro v3 w3 own3 grow3 blk3 _
          have N := hid (HR.out.app (cs := [92, 116]) own3 grow3)
          rw [← HB.out, ← HN.out] at N
          clear own3 grow3 blk3
          go_wp2_with fail
          go_roundw
          case rel => exact ⟨i + 1, by go_num, by omega, N⟩
          case measure => simp [RowKit.intOf]; omega
        · have n4 : ((c.toNat : Int) == 9) = false := by have := u8n q3; simp at this ⊢; omega
          by_cases q4 : 32 ≤ c.toNat ∧ c.toNat ≤ 126
          · have HB : Hid (quoteB c = [c]) := hid (by unfold quoteB; rw [if_neg q1, if_neg q2, if_neg q3, if_pos q4])
            have O2 := hid (HR.out.later ((Ext.refl none' wr).alloc (.cells (byteVals [c]).toArray 5)))
            have S2 : Hid (Src Tryz.prog 1 37 (.slice (some ⟨wr.heap.size, 0, none⟩) 1 1) 1 (byteVals [c]) (wr.alloc (.cells (byteVals [c]).toArray 5))) := hid (Src.lits (bs := [c]) Tryz.underlying37 (heap_alloc_at rfl _))
            obtain ⟨q41, q42⟩ := q4
            clear q1 q1' q2 q3
            go_wp2_with (at_builtin; refine wpList_app _ rfl (.tmp 52) (.tmp 54) 37 37 rfl w.heap.size 5 i0 _ 1 1 Tryz.underlying37 I0.out I1.out I2.out I3.out rfl _ bs.length (byteVals bs) rfl O2.out.own _ 1 _ rfl S2.out ?_ ?_ ?_ ?_)
            · unfold maxLen; omega
            · omega
            · have := HX.out; simp; omega
            intro v3 w3 own3 grow3 blk3 _
            have N := hid (O2.out.app (cs := [c]) own3 grow3)
            rw [← HB.out, ← HN.out] at N
            clear own3 grow3 blk3
            go_wp2_with fail
            go_roundw
            case rel => exact ⟨i + 1, by go_num, by omega, N⟩
            case measure => simp [RowKit.intOf]; omega
          · have HB : Hid (quoteB c = [92, 120, hexd (c.toNat / 16), hexd (c.toNat % 16)]) := hid (by unfold quoteB; rw [if_neg q1, if_neg q2, if_neg q3, if_neg q4])
            have q4' : c.toNat < 32 ∨ 126 < c.toNat := by omega
            have hc256 : c.toNat < 256 := UInt8.toNat_lt _
            have hi1 : ∀ w, (Instr.index 9 (.string ⟨#[48, 49, 50, 51, 52, 53, 54, 55, 56, 57, 97, 98, 99, 100, 101, 102]⟩) (.int .u8 ((c.toNat : Int) / 16))).run Tryz.prog w = .ok (.int .u8 ((hexd (c.toNat / 16)).toNat : Nat)) w := fun w => by
             rw [show (c.toNat : Int) / 16 = ((c.toNat / 16 : Nat) : Int) by omega]; exact hexI _ (by omega) w
            have hi2 : ∀ w, (Instr.index 9 (.string ⟨#[48, 49, 50, 51, 52, 53, 54, 55, 56, 57, 97, 98, 99, 100, 101, 102]⟩) (.int .u8 ((c.toNat : Int) % 16))).run Tryz.prog w = .ok (.int .u8 ((hexd (c.toNat % 16)).toNat : Nat)) w := fun w => by
             rw [show (c.toNat : Int) % 16 = ((c.toNat % 16 : Nat) : Int) by omega]; exact hexI _ (by omega) w
            clear q1 q1' q2 q3 q4
            rcases q4' with q4' | q4'
            all_goals
             go_wp2_with fail
             refine region_in none' wr [0, 1, 2, 3, 4, 5, 6] [(7, true), (8, false), (9, false)] (by kernel_rfl) (by kernel_rfl) (fun dst v c a w h => by cases dst <;> exact h) (Ext.refl _ _) ?_
             simp only [sel, List.getElem?_cons_succ, List.getElem?_cons_zero]
             repeat (go_big_quiet_step (fail))
             refine wpQuiet_nil ?_
             simp only [wpChain, sel, List.getElem?_cons_succ, List.getElem?_cons_zero]
             clear hi1 hi2
             obtain ⟨h1, hh1⟩ : ∃ h1, hexd (c.toNat / 16) = h1 := ⟨_, rfl⟩
             obtain ⟨h2, hh2⟩ : ∃ h2, hexd (c.toNat % 16) = h2 := ⟨_, rfl⟩
             rw [hh1, hh2] at HB ⊢
             clear hh1 hh2
             obtain ⟨W, hW⟩ : ∃ W, W = wr.drew := ⟨_, rfl⟩
             rw [← hW]
             have XW : Ext none' wr W := by rw [hW]; exact (Ext.refl _ _).drew
             have HXW := hid XW
             have O2 := hid (HR.out.later (XW.alloc (.cells (byteVals [92, 120, h1, h2]).toArray 5)))
             have S2 : Hid (Src Tryz.prog 1 37 (.slice (some ⟨W.heap.size, 0, none⟩) 4 4) 4 (byteVals [92, 120, h1, h2]) (W.alloc (.cells (byteVals [92, 120, h1, h2]).toArray 5))) := hid (Src.lits (bs := [92, 120, h1, h2]) Tryz.underlying37 (heap_alloc_at rfl _))
             clear XW hW
             go_wp2_with fail
             refine ⟨In.of (HXW.out.alloc _), ?_⟩
             refine wpList_app _ rfl (.tmp 15) (.tmp 22) 37 37 rfl w.heap.size 5 i0 _ 1 1 Tryz.underlying37 I0.out I1.out I2.out I3.out rfl _ bs.length (byteVals bs) rfl O2.out.own _ 4 _ rfl S2.out ?_ ?_ ?_ ?_
             · unfold maxLen; omega
             · omega
             · have := HX.out; have := HXW.out.size; simp; omega
             intro v3 w3 own3 grow3 blk3 _
             have N := hid (O2.out.app (cs := [92, 120, h1, h2]) own3 grow3)
             rw [← HB.out, ← HN.out] at N
             clear own3 grow3 blk3
             refine wpList_nil ?_
             go_wp2_with fail
             go_roundw
             case rel => exact ⟨i + 1, by go_num, by omega, N⟩
             case measure => simp [RowKit.intOf]; omega
  · obtain rfl : i = s.length := by omega
    have HE := HR
    rw [List.take_length] at HE
    obtain ⟨bs, hbs⟩ : ∃ bs, bs = 34 :: s.flatMap quoteB := ⟨_, rfl⟩
    have hl : bs.length ≤ 4000001 := by have := quotes_len s; rw [hbs, List.length_cons]; omega
    have HQ : Hid (quoteP s = bs ++ [34]) := hid (by rw [hbs]; rfl)
    rw [← hbs] at HE
    have HX := hid HE.out.hx.size
    have O2 := hid (HE.out.later ((Ext.refl none' wr).alloc (.cells (byteVals [34]).toArray 5)))
    have S2 : Hid (Src Tryz.prog 1 37 (.slice (some ⟨wr.heap.size, 0, none⟩) 1 1) 1 (byteVals [34]) (wr.alloc (.cells (byteVals [34]).toArray 5))) := hid (Src.lits (bs := [34]) Tryz.underlying37 (heap_alloc_at rfl _))
    clear hbs HR
    go_wp2_with (at_builtin; refine wpList_app _ rfl (.tmp 57) (.tmp 58) 37 37 rfl w.heap.size 5 i0 _ 1 1 Tryz.underlying37 I0.out I1.out I2.out I3.out rfl _ bs.length (byteVals bs) rfl O2.out.own _ 1 _ rfl S2.out ?_ ?_ ?_ ?_)
    · unfold maxLen; omega
    · omega
    · have := HX.out; simp; omega
    intro v3 w3 own3 grow3 blk3 _
    have N := hid (O2.out.app (cs := [34]) own3 grow3)
    rw [← HQ.out] at N
    have hcv := conv_bytes (Bytes.of_owns N.out.own) 37 5 Tryz.underlying37 Tryz.underlying5 9 Tryz.underlying9
    have HCV := hid hcv
    clear own3 grow3 blk3
    go_wp2_with fail
    go_ret
    exact ⟨rfl, N.out.hx⟩
end Go.Proofs.YthbmjamgidfneaaGreatDoor
namespace Go.Proofs.YthbmjamgidfneaaGreatDoor
open Go.RowKit Go.Lib Go.BigFrame
set_option linter.unusedVariables false
set_option linter.unusedSimpArgs false
theorem IsSl.gone {w : World} {b off : Nat} : IsSl 4 IsNd none' w (.slice (some ⟨b, off, none⟩) 0 0) [] :=
 ⟨_, 0, rfl, Nat.le_refl _, (fun h => by cases h), fun h => absurd rfl h⟩
theorem oth_any (f : Nat) (H : ExpH f) (deep : Nat) (hd : deep + (f + 1) ≤ 1200000) (hf : f + 1 ≤ 1100000) (t : Nd) (ht : t.size ≤ f + 1) (h0 : 0 < t.kids.length) (h : ∀ x ∈ t.kids.drop 1, argB (tyF nmB f) (exF f) x = true) (v : Value) (W : World) (hm : MaxL W) (hs : IsSl 4 IsNd none' W v (t.kids.drop 1)) :
 Calls Tryz.prog 47 #[v, .string ⟨sComma.toArray⟩, (.func (.func 51) #[shV deep false] #[])] W (StrPost (othT (typF f) (exT f) deep t) W) := by
 have hin : ∀ x ∈ t.kids.drop 1, x.size ≤ f := fun x hx => by have := Nd.size_kid (List.mem_of_mem_drop hx); omega
 have hl := lens_le (p := partT (typF f) (exT f) deep) (c := 1250000) (l := t.kids.drop 1) fun x hx =>
  partT_len (hin x hx) (fun he => (lens_all f deep (by omega)).1 x (hin x hx) he) (h x hx)
 have hz := size_kids t
 have hc := kids_cons h0
 rw [hc, Nd.sizeL] at hz
 have hn : (t.kids.drop 1).length ≤ t.kids.length := by rw [List.length_drop]; omega
 have hk := t.kids_len
 have hcm : sComma.length = 2 := rfl
 exact each_any (ArgD f) (partT (typF f) (exT f) deep) sComma (t.kids.drop 1) v _ W hs (part_tell f H deep (by omega) (by omega) W hm)
  (fun i hi => ⟨hin _ (List.getElem_mem hi), h _ (List.getElem_mem hi)⟩) (by unfold bigD; omega) (by rw [hcm]; omega)
theorem sx_call (f : Nat) (H : ExpH f) (deep : Nat) (head : Bool) (hd : deep + (f + 1) ≤ 1200000) (hf : f + 1 ≤ 1100000) (t : Nd) (ht : t.size ≤ f + 1) (hk : t.kind = 21) (he : (t.text == [] && (!t.kids.isEmpty && t.kids.all (exF f))) = true) (v : Value) (w : World) (hm : MaxL w) (hv : NdV none' w t v) :
 Calls Tryz.prog 23 #[shV deep head, v] w (StrPost (fstT (exT f) deep head (t.kid 0) ++ [40] ++ othT (typF f) (exT f) deep t ++ [41]) w) := by
 obtain ⟨y, rfl, hy⟩ := hv
 have HY := hid hy
 obtain ⟨a1, cap1, rfl, hcap, _⟩ := hy
 have hkl : t.kids.length ≤ 1100000 := by have := t.kids_len; omega
 obtain ⟨rr, hrr⟩ : ∃ r, r = fstT (exT f) deep head (t.kid 0) ++ [40] ++ othT (typF f) (exT f) deep t ++ [41] := ⟨_, rfl⟩
 rw [← hrr]
 simp only [Bool.and_eq_true, Bool.not_eq_true', List.all_eq_true] at he
 have h3 : 0 < t.kids.length := by
  have := he.2.1
  cases h : t.kids with
  | nil => rw [h] at this; simp at this
  | cons a l => simp
 have hx1 : exF f (t.kid 0) = true := he.2.2 _ (kid_mem' h3)
 have hag : ∀ x ∈ t.kids.drop 1, argB (tyF nmB f) (exF f) x = true := fun x hx => exB_arg (he.2.2 x (List.mem_of_mem_drop hx))
 have hks : (t.kid 0).size ≤ f := by have := Nd.size_kid (kid_mem' (t := t) (i := 0) (by omega)); omega
 have hfl := brT_len (head := head) (yes := ((t.kid 0).kind == 19 || (t.kid 0).kind == 20)) ((lens_all f deep (by omega)).1 _ hks hx1)
 have C0 := hid fun W (X : Ext none' w W) v' (hv' : NdV none' W (t.kid 0) v') => first_any f H deep head (by omega) (by omega) (t.kid 0) hks hx1 v' W (maxL_later hm X) hv'
 have hbl2 : (fstT (exT f) deep head (t.kid 0)).length ≤ 10000000000000 := by unfold fstT; omega
 obtain ⟨q0, hq0⟩ : ∃ q, fstT (exT f) deep head (t.kid 0) = q := ⟨_, rfl⟩
 rw [hq0] at C0 hbl2 hrr
 have hol := othT_len (deep := deep) (ex := exT f) h3 ht (fun x hx he => (lens_all f deep (by omega)).1 x (by have := Nd.size_kid hx; omega) he) hag
 have hol2 : (othT (typF f) (exT f) deep t).length ≤ 10000000000000 := by omega
 have CO := hid fun W (X : Ext none' w W) v' (hs : IsSl 4 IsNd none' W v' (t.kids.drop 1)) => oth_any f H deep (by omega) (by omega) t ht h3 hag v' W (maxL_later hm X) hs
 obtain ⟨q1, hq1⟩ : ∃ q, othT (typF f) (exT f) deep t = q := ⟨_, rfl⟩
 rw [hq1] at CO hol2 hrr
 have y0 : (0 : Int) < (t.kids.length : Int) := by omega
 have y1 : (1 : Int) ≤ (t.kids.length : Int) := by omega
 have y2 : (t.kids.length : Int) ≤ (cap1 : Int) := by omega
 have cat1 := str_cat q0 [40]
 have cat2 := str_cat (q0 ++ [40]) q1
 have cat3 := str_cat (q0 ++ [40] ++ q1) [41]
 simp only [List.append_assoc, List.cons_append, List.nil_append] at cat2 cat3
 have HR := hid hrr
 have HKL := hid h3
 rw [hk]
 have CF := hid fun W => free_any deep head W
 obtain ⟨B, hB⟩ : ∃ B, B = w.heap.size := ⟨_, rfl⟩
 have BX := TwoBox.mk' (deep := deep) (head := head) (cs := #[.int .i64 21, .string ⟨t.text.toArray⟩, .slice a1 t.kids.length cap1, .int .i64 t.pos]) hB
 obtain ⟨W0, hW0⟩ : ∃ W0, W0 = ((w.alloc (.cells #[.int .i64 (deep : Nat), .bool head] 50)).alloc (.cells #[.int .i64 21, .string ⟨t.text.toArray⟩, .slice a1 t.kids.length cap1, .int .i64 t.pos] 24)) := ⟨_, rfl⟩
 rw [← hW0] at BX
 have BX := hid BX
 have hmf := mkf_run
 clear hk he hrr ht hd hf h3 hag hks hol hq0 hq1 H hfl hx1
 go_enter Tryz.func23, Tryz.ntmps23
 go_upto_region 1 with (fail)
 rw [← hW0, ← hB]
 clear hW0 hB
 obtain ⟨x0, x1⟩ := cell2 BX.out.g0
 obtain ⟨c0, c1, c2, c3⟩ := cell4 BX.out.g1
 go_wp2_with fail
 refine (CF.out _).mono ?_
 rintro e w1 ⟨rfl, X1⟩
 have BX := hid (BX.out.ext X1)
 clear x0 x1 c0 c1 c2 c3 X1
 obtain ⟨x0, x1⟩ := cell2 BX.out.g0
 obtain ⟨c0, c1, c2, c3⟩ := cell4 BX.out.g1
 go_upto_region 14 with (fail)
 clear x0 x1 c0 c1 c2 c3
 obtain ⟨b, off, z0, rfl, hbw, k00, k01, k02, k03, hz0⟩ := kid_val (HY.out.ext isNd_good BX.out.x fun _ _ h => h) 0 (HKL.out)
 simp only [Nat.zero_mul, Nat.add_zero] at k00 k01 k02 k03
 have HZ0 := hid hz0
 obtain ⟨a2, cap2, rfl, _⟩ := hz0
 have m00 := fun t' : LaterF none' w1 => (t'.x.cell (p := ⟨b, off, none⟩) hbw (fun h => h)).trans k00
 have m01 := fun t' : LaterF none' w1 => (t'.x.cell (p := ⟨b, off + 1, none⟩) hbw (fun h => h)).trans k01
 have m02 := fun t' : LaterF none' w1 => (t'.x.cell (p := ⟨b, off + 2, none⟩) hbw (fun h => h)).trans k02
 have m03 := fun t' : LaterF none' w1 => (t'.x.cell (p := ⟨b, off + 3, none⟩) hbw (fun h => h)).trans k03
 clear k00 k01 k02 k03
 obtain ⟨x0, x1⟩ := cell2L fun t' : LaterF none' w1 => t'.x.heap BX.out.g0 fun h => h
 obtain ⟨c0, c1, c2, c3⟩ := cell4L fun t' : LaterF none' w1 => t'.x.heap BX.out.g1 fun h => h
 by_cases hc1 : cap1 = 1
 case pos =>
  subst hc1
  have hl1 : Hid (t.kids.drop 1 = []) := hid (List.drop_eq_nil_of_le (by omega))
  refine region_q none' w1 (.qs [0, 1, 2, 3, 6, 7, 8] (.one 4 true (.qs [5] (.one 9 true (.qs [10, 11, 12] .fin))))) (by kernel_rfl) (by kernel_rfl) (fun dst v c a w h => by cases dst <;> exact h) ?_
  refine ⟨In.of (Ext.refl _ _).drew, ?_⟩
  change wpQuiet _ _ (fun w' => ∃ t : LaterF none' w1, w' = t.w) _ _ _
  simp only [sel, List.getElem?_cons_succ, List.getElem?_cons_zero]
  repeat (go_big_quiet_step (fail))
  refine wpQuiet_nil ?_
  simp only [wpTreeQ, stepT, sel, List.getElem?_cons_succ, List.getElem?_cons_zero]
  have D1 := hid (Ext.refl none' w1).drew
  clear x0 x1 c0 c1 c2 c3 m00 m01 m02 m03
  go_wp2_with fail
  refine (C0.out _ (BX.out.x.trans D1.out) _ ⟨_, rfl, HZ0.out.ext isNd_good D1.out fun _ _ h => h⟩).mono ?_
  rintro e w2 ⟨rfl, X2⟩
  have XX := hid (D1.out.trans X2)
  go_wp2_with fail
  refine ⟨In.of XX.out, In.of XX.out, ?_⟩
  change wpQuiet _ _ (fun w' => ∃ t : LaterF none' w1, w' = t.w) _ _ _
  repeat (go_big_quiet_step (fail))
  refine wpQuiet_nil ?_
  go_wp2_with fail
  refine (CO.out _ (BX.out.x.trans XX.out) _ (by rw [hl1.out]; exact IsSl.gone)).mono ?_
  rintro e w3 ⟨rfl, X3⟩
  have XX := hid (XX.out.trans X3)
  go_wp2_with fail
  refine ⟨In.of XX.out, In.of XX.out, ?_⟩
  change wpQuiet _ _ (fun w' => ∃ t : LaterF none' w1, w' = t.w) _ _ _
  repeat (go_big_quiet_step (fail))
  refine wpQuiet_nil ?_
  go_wp2_with fail
  go_ret
  exact ⟨by rw [HR.out]; simp, BX.out.x.trans XX.out⟩
 case neg =>
  refine region_q none' w1 (.qs [0, 1, 2, 3, 6, 7, 8] (.one 4 true (.qs [5] (.one 9 true (.qs [10, 11, 12] .fin))))) (by kernel_rfl) (by kernel_rfl) (fun dst v c a w h => by cases dst <;> exact h) ?_
  refine ⟨In.of (Ext.refl _ _).drew, ?_⟩
  change wpQuiet _ _ (fun w' => ∃ t : LaterF none' w1, w' = t.w) _ _ _
  simp only [sel, List.getElem?_cons_succ, List.getElem?_cons_zero]
  repeat (go_big_quiet_step (fail))
  refine wpQuiet_nil ?_
  simp only [wpTreeQ, stepT, sel, List.getElem?_cons_succ, List.getElem?_cons_zero]
  have D1 := hid (Ext.refl none' w1).drew
  clear x0 x1 c0 c1 c2 c3 m00 m01 m02 m03
  go_wp2_with fail
  refine (C0.out _ (BX.out.x.trans D1.out) _ ⟨_, rfl, HZ0.out.ext isNd_good D1.out fun _ _ h => h⟩).mono ?_
  rintro e w2 ⟨rfl, X2⟩
  have XX := hid (D1.out.trans X2)
  go_wp2_with fail
  refine ⟨In.of XX.out, In.of XX.out, ?_⟩
  change wpQuiet _ _ (fun w' => ∃ t : LaterF none' w1, w' = t.w) _ _ _
  repeat (go_big_quiet_step (fail))
  refine wpQuiet_nil ?_
  go_wp2_with fail
  refine (CO.out _ (BX.out.x.trans XX.out) _ ((HY.out.ext isNd_good (BX.out.x.trans XX.out) fun _ _ h => h).drop1 HKL.out)).mono ?_
  rintro e w3 ⟨rfl, X3⟩
  have XX := hid (XX.out.trans X3)
  go_wp2_with fail
  refine ⟨In.of XX.out, In.of XX.out, ?_⟩
  change wpQuiet _ _ (fun w' => ∃ t : LaterF none' w1, w' = t.w) _ _ _
  repeat (go_big_quiet_step (fail))
  refine wpQuiet_nil ?_
  go_wp2_with fail
  go_ret
  exact ⟨by rw [HR.out]; simp, BX.out.x.trans XX.out⟩
theorem sx_idx (f : Nat) (H : ExpH f) (deep : Nat) (head : Bool) (hd : deep + (f + 1) ≤ 1200000) (hf : f + 1 ≤ 1100000) (t : Nd) (ht : t.size ≤ f + 1) (hk : t.kind = 22) (he : (t.text == [] && (decide (1 < t.kids.length) && (exF f (t.kid 0) && (t.kids.drop 1).all (argB (tyF nmB f) (exF f))))) = true) (v : Value) (w : World) (hm : MaxL w) (hv : NdV none' w t v) :
 Calls Tryz.prog 23 #[shV deep head, v] w (StrPost (fstT (exT f) deep head (t.kid 0) ++ [91] ++ othT (typF f) (exT f) deep t ++ [93]) w) := by
 obtain ⟨y, rfl, hy⟩ := hv
 have HY := hid hy
 obtain ⟨a1, cap1, rfl, hcap, _⟩ := hy
 have hkl : t.kids.length ≤ 1100000 := by have := t.kids_len; omega
 obtain ⟨rr, hrr⟩ : ∃ r, r = fstT (exT f) deep head (t.kid 0) ++ [91] ++ othT (typF f) (exT f) deep t ++ [93] := ⟨_, rfl⟩
 rw [← hrr]
 simp only [Bool.and_eq_true, decide_eq_true_eq, List.all_eq_true] at he
 have h3 : 0 < t.kids.length := by have := he.2.1; omega
 have hx1 : exF f (t.kid 0) = true := he.2.2.1
 have hag : ∀ x ∈ t.kids.drop 1, argB (tyF nmB f) (exF f) x = true := he.2.2.2
 have hks : (t.kid 0).size ≤ f := by have := Nd.size_kid (kid_mem' (t := t) (i := 0) (by omega)); omega
 have hfl := brT_len (head := head) (yes := ((t.kid 0).kind == 19 || (t.kid 0).kind == 20)) ((lens_all f deep (by omega)).1 _ hks hx1)
 have C0 := hid fun W (X : Ext none' w W) v' (hv' : NdV none' W (t.kid 0) v') => first_any f H deep head (by omega) (by omega) (t.kid 0) hks hx1 v' W (maxL_later hm X) hv'
 have hbl2 : (fstT (exT f) deep head (t.kid 0)).length ≤ 10000000000000 := by unfold fstT; omega
 obtain ⟨q0, hq0⟩ : ∃ q, fstT (exT f) deep head (t.kid 0) = q := ⟨_, rfl⟩
 rw [hq0] at C0 hbl2 hrr
 have hol := othT_len (deep := deep) (ex := exT f) h3 ht (fun x hx he => (lens_all f deep (by omega)).1 x (by have := Nd.size_kid hx; omega) he) hag
 have hol2 : (othT (typF f) (exT f) deep t).length ≤ 10000000000000 := by omega
 have CO := hid fun W (X : Ext none' w W) v' (hs : IsSl 4 IsNd none' W v' (t.kids.drop 1)) => oth_any f H deep (by omega) (by omega) t ht h3 hag v' W (maxL_later hm X) hs
 obtain ⟨q1, hq1⟩ : ∃ q, othT (typF f) (exT f) deep t = q := ⟨_, rfl⟩
 rw [hq1] at CO hol2 hrr
 have y0 : (0 : Int) < (t.kids.length : Int) := by omega
 have y1 : (1 : Int) ≤ (t.kids.length : Int) := by omega
 have y2 : (t.kids.length : Int) ≤ (cap1 : Int) := by omega
 have cat1 := str_cat q0 [91]
 have cat2 := str_cat (q0 ++ [91]) q1
 have cat3 := str_cat (q0 ++ [91] ++ q1) [93]
 simp only [List.append_assoc, List.cons_append, List.nil_append] at cat2 cat3
 have HR := hid hrr
 have HKL := hid h3
 rw [hk]
 have CF := hid fun W => free_any deep head W
 obtain ⟨B, hB⟩ : ∃ B, B = w.heap.size := ⟨_, rfl⟩
 have BX := TwoBox.mk' (deep := deep) (head := head) (cs := #[.int .i64 22, .string ⟨t.text.toArray⟩, .slice a1 t.kids.length cap1, .int .i64 t.pos]) hB
 obtain ⟨W0, hW0⟩ : ∃ W0, W0 = ((w.alloc (.cells #[.int .i64 (deep : Nat), .bool head] 50)).alloc (.cells #[.int .i64 22, .string ⟨t.text.toArray⟩, .slice a1 t.kids.length cap1, .int .i64 t.pos] 24)) := ⟨_, rfl⟩
 rw [← hW0] at BX
 have BX := hid BX
 have hmf := mkf_run
 clear hk he hrr ht hd hf h3 hag hks hol hq0 hq1 H hfl hx1
 go_enter Tryz.func23, Tryz.ntmps23
 go_upto_region 1 with (fail)
 rw [← hW0, ← hB]
 clear hW0 hB
 obtain ⟨x0, x1⟩ := cell2 BX.out.g0
 obtain ⟨c0, c1, c2, c3⟩ := cell4 BX.out.g1
 go_wp2_with fail
 refine (CF.out _).mono ?_
 rintro e w1 ⟨rfl, X1⟩
 have BX := hid (BX.out.ext X1)
 clear x0 x1 c0 c1 c2 c3 X1
 obtain ⟨x0, x1⟩ := cell2 BX.out.g0
 obtain ⟨c0, c1, c2, c3⟩ := cell4 BX.out.g1
 go_upto_region 16 with (fail)
 clear x0 x1 c0 c1 c2 c3
 obtain ⟨b, off, z0, rfl, hbw, k00, k01, k02, k03, hz0⟩ := kid_val (HY.out.ext isNd_good BX.out.x fun _ _ h => h) 0 (HKL.out)
 simp only [Nat.zero_mul, Nat.add_zero] at k00 k01 k02 k03
 have HZ0 := hid hz0
 obtain ⟨a2, cap2, rfl, _⟩ := hz0
 have m00 := fun t' : LaterF none' w1 => (t'.x.cell (p := ⟨b, off, none⟩) hbw (fun h => h)).trans k00
 have m01 := fun t' : LaterF none' w1 => (t'.x.cell (p := ⟨b, off + 1, none⟩) hbw (fun h => h)).trans k01
 have m02 := fun t' : LaterF none' w1 => (t'.x.cell (p := ⟨b, off + 2, none⟩) hbw (fun h => h)).trans k02
 have m03 := fun t' : LaterF none' w1 => (t'.x.cell (p := ⟨b, off + 3, none⟩) hbw (fun h => h)).trans k03
 clear k00 k01 k02 k03
 obtain ⟨x0, x1⟩ := cell2L fun t' : LaterF none' w1 => t'.x.heap BX.out.g0 fun h => h
 obtain ⟨c0, c1, c2, c3⟩ := cell4L fun t' : LaterF none' w1 => t'.x.heap BX.out.g1 fun h => h
 by_cases hc1 : cap1 = 1
 case pos =>
  subst hc1
  have hl1 : Hid (t.kids.drop 1 = []) := hid (List.drop_eq_nil_of_le (by omega))
  refine region_q none' w1 (.qs [0, 1, 2, 3, 6, 7, 8] (.one 4 true (.qs [5] (.one 9 true (.qs [10, 11, 12] .fin))))) (by kernel_rfl) (by kernel_rfl) (fun dst v c a w h => by cases dst <;> exact h) ?_
  refine ⟨In.of (Ext.refl _ _).drew, ?_⟩
  change wpQuiet _ _ (fun w' => ∃ t : LaterF none' w1, w' = t.w) _ _ _
  simp only [sel, List.getElem?_cons_succ, List.getElem?_cons_zero]
  repeat (go_big_quiet_step (fail))
  refine wpQuiet_nil ?_
  simp only [wpTreeQ, stepT, sel, List.getElem?_cons_succ, List.getElem?_cons_zero]
  have D1 := hid (Ext.refl none' w1).drew
  clear x0 x1 c0 c1 c2 c3 m00 m01 m02 m03
  go_wp2_with fail
  refine (C0.out _ (BX.out.x.trans D1.out) _ ⟨_, rfl, HZ0.out.ext isNd_good D1.out fun _ _ h => h⟩).mono ?_
  rintro e w2 ⟨rfl, X2⟩
  have XX := hid (D1.out.trans X2)
  go_wp2_with fail
  refine ⟨In.of XX.out, In.of XX.out, ?_⟩
  change wpQuiet _ _ (fun w' => ∃ t : LaterF none' w1, w' = t.w) _ _ _
  repeat (go_big_quiet_step (fail))
  refine wpQuiet_nil ?_
  go_wp2_with fail
  refine (CO.out _ (BX.out.x.trans XX.out) _ (by rw [hl1.out]; exact IsSl.gone)).mono ?_
  rintro e w3 ⟨rfl, X3⟩
  have XX := hid (XX.out.trans X3)
  go_wp2_with fail
  refine ⟨In.of XX.out, In.of XX.out, ?_⟩
  change wpQuiet _ _ (fun w' => ∃ t : LaterF none' w1, w' = t.w) _ _ _
  repeat (go_big_quiet_step (fail))
  refine wpQuiet_nil ?_
  go_wp2_with fail
  go_ret
  exact ⟨by rw [HR.out]; simp, BX.out.x.trans XX.out⟩
 case neg =>
  refine region_q none' w1 (.qs [0, 1, 2, 3, 6, 7, 8] (.one 4 true (.qs [5] (.one 9 true (.qs [10, 11, 12] .fin))))) (by kernel_rfl) (by kernel_rfl) (fun dst v c a w h => by cases dst <;> exact h) ?_
  refine ⟨In.of (Ext.refl _ _).drew, ?_⟩
  change wpQuiet _ _ (fun w' => ∃ t : LaterF none' w1, w' = t.w) _ _ _
  simp only [sel, List.getElem?_cons_succ, List.getElem?_cons_zero]
  repeat (go_big_quiet_step (fail))
  refine wpQuiet_nil ?_
  simp only [wpTreeQ, stepT, sel, List.getElem?_cons_succ, List.getElem?_cons_zero]
  have D1 := hid (Ext.refl none' w1).drew
  clear x0 x1 c0 c1 c2 c3 m00 m01 m02 m03
  go_wp2_with fail
  refine (C0.out _ (BX.out.x.trans D1.out) _ ⟨_, rfl, HZ0.out.ext isNd_good D1.out fun _ _ h => h⟩).mono ?_
  rintro e w2 ⟨rfl, X2⟩
  have XX := hid (D1.out.trans X2)
  go_wp2_with fail
  refine ⟨In.of XX.out, In.of XX.out, ?_⟩
  change wpQuiet _ _ (fun w' => ∃ t : LaterF none' w1, w' = t.w) _ _ _
  repeat (go_big_quiet_step (fail))
  refine wpQuiet_nil ?_
  go_wp2_with fail
  refine (CO.out _ (BX.out.x.trans XX.out) _ ((HY.out.ext isNd_good (BX.out.x.trans XX.out) fun _ _ h => h).drop1 HKL.out)).mono ?_
  rintro e w3 ⟨rfl, X3⟩
  have XX := hid (XX.out.trans X3)
  go_wp2_with fail
  refine ⟨In.of XX.out, In.of XX.out, ?_⟩
  change wpQuiet _ _ (fun w' => ∃ t : LaterF none' w1, w' = t.w) _ _ _
  repeat (go_big_quiet_step (fail))
  refine wpQuiet_nil ?_
  go_wp2_with fail
  go_ret
  exact ⟨by rw [HR.out]; simp, BX.out.x.trans XX.out⟩
theorem lit_if {k : Int} {head b : Bool} {r x y : List UInt8} (hb : (k == 10) = b) (h : r = (if head ∧ k = 10 then x else y)) : r = if head && b then x else y := by
 subst hb
 rw [h]
 cases head <;> simp
theorem sx_lit (f : Nat) (H : ExpH f) (deep : Nat) (head : Bool) (hd : deep + (f + 1) ≤ 1200000) (hf : f + 1 ≤ 1100000) (t : Nd) (ht : t.size ≤ f + 1) (hk : t.kind = 24) (he : (t.text == [] && (!t.kids.isEmpty && ((t.kid 0).kind != 12 && (tyF nmB f (t.kid 0) && (t.kids.drop 1).all (exF f))))) = true) (v : Value) (w : World) (hm : MaxL w) (hv : NdV none' w t v) :
 Calls Tryz.prog 23 #[shV deep head, v] w (StrPost ((if head ∧ (t.kid 0).kind = 10 then [40] ++ (typF f (t.kid 0) ++ [123] ++ othT (typF f) (exT f) deep t ++ [125]) ++ [41] else typF f (t.kid 0) ++ [123] ++ othT (typF f) (exT f) deep t ++ [125])) w) := by
 obtain ⟨y, rfl, hy⟩ := hv
 have HY := hid hy
 obtain ⟨a1, cap1, rfl, hcap, _⟩ := hy
 have hkl : t.kids.length ≤ 1100000 := by have := t.kids_len; omega
 obtain ⟨rr, hrr⟩ : ∃ r, r = (if head ∧ (t.kid 0).kind = 10 then [40] ++ (typF f (t.kid 0) ++ [123] ++ othT (typF f) (exT f) deep t ++ [125]) ++ [41] else typF f (t.kid 0) ++ [123] ++ othT (typF f) (exT f) deep t ++ [125]) := ⟨_, rfl⟩
 rw [← hrr]
 simp only [Bool.and_eq_true, Bool.not_eq_true', List.all_eq_true] at he
 have h3 : 0 < t.kids.length := by
  have := he.2.1
  cases h : t.kids with
  | nil => rw [h] at this; simp at this
  | cons a l => simp
 have hx1 : tyF nmB f (t.kid 0) = true := he.2.2.2.1
 have hag : ∀ x ∈ t.kids.drop 1, argB (tyF nmB f) (exF f) x = true := fun x hx => exB_arg (he.2.2.2.2 x hx)
 have hks : (t.kid 0).size ≤ f := by have := Nd.size_kid (kid_mem' (t := t) (i := 0) (by omega)); omega
 have hfl := ty_len hx1 hks
 have C0 := hid fun W (X : Ext none' w W) v' (hv' : NdV none' W (t.kid 0) v') => typ_any f (by unfold bigD; omega) (t.kid 0) ⟨hks, hx1⟩ v' W hv'
 have hbl2 : (typF f (t.kid 0)).length ≤ 10000000000000 := by omega
 obtain ⟨q0, hq0⟩ : ∃ q, typF f (t.kid 0) = q := ⟨_, rfl⟩
 rw [hq0] at C0 hbl2 hrr
 obtain ⟨e1, he1⟩ : ∃ b, ((t.kid 0).kind == 10) = b := ⟨_, rfl⟩
 replace hrr := lit_if he1 hrr
 have hol := othT_len (deep := deep) (ex := exT f) h3 ht (fun x hx he => (lens_all f deep (by omega)).1 x (by have := Nd.size_kid hx; omega) he) hag
 have hol2 : (othT (typF f) (exT f) deep t).length ≤ 10000000000000 := by omega
 have CO := hid fun W (X : Ext none' w W) v' (hs : IsSl 4 IsNd none' W v' (t.kids.drop 1)) => oth_any f H deep (by omega) (by omega) t ht h3 hag v' W (maxL_later hm X) hs
 obtain ⟨q1, hq1⟩ : ∃ q, othT (typF f) (exT f) deep t = q := ⟨_, rfl⟩
 rw [hq1] at CO hol2 hrr
 have y0 : (0 : Int) < (t.kids.length : Int) := by omega
 have y1 : (1 : Int) ≤ (t.kids.length : Int) := by omega
 have y2 : (t.kids.length : Int) ≤ (cap1 : Int) := by omega
 have cat1 := str_cat q0 [123]
 have cat2 := str_cat (q0 ++ [123]) q1
 have cat3 := str_cat (q0 ++ [123] ++ q1) [125]
 simp only [List.append_assoc, List.cons_append, List.nil_append] at cat2 cat3
 have cat4 := str_cat [40] (q0 ++ [123] ++ q1 ++ [125])
 have cat5 := str_cat (40 :: (q0 ++ [123] ++ q1 ++ [125])) [41]
 simp only [List.append_assoc, List.cons_append, List.nil_append] at cat4 cat5
 have HR := hid hrr
 have HKL := hid h3
 rw [hk]
 have CF := hid fun W => free_any deep head W
 obtain ⟨B, hB⟩ : ∃ B, B = w.heap.size := ⟨_, rfl⟩
 have BX := TwoBox.mk' (deep := deep) (head := head) (cs := #[.int .i64 24, .string ⟨t.text.toArray⟩, .slice a1 t.kids.length cap1, .int .i64 t.pos]) hB
 obtain ⟨W0, hW0⟩ : ∃ W0, W0 = ((w.alloc (.cells #[.int .i64 (deep : Nat), .bool head] 50)).alloc (.cells #[.int .i64 24, .string ⟨t.text.toArray⟩, .slice a1 t.kids.length cap1, .int .i64 t.pos] 24)) := ⟨_, rfl⟩
 rw [← hW0] at BX
 have BX := hid BX
 have hmf := mkf_run
 clear hk he hrr ht hd hf h3 hag hks hol hq0 hq1 H hfl hx1
 go_enter Tryz.func23, Tryz.ntmps23
 go_upto_region 1 with (fail)
 rw [← hW0, ← hB]
 clear hW0 hB
 obtain ⟨x0, x1⟩ := cell2 BX.out.g0
 obtain ⟨c0, c1, c2, c3⟩ := cell4 BX.out.g1
 go_wp2_with fail
 refine (CF.out _).mono ?_
 rintro e w1 ⟨rfl, X1⟩
 have BX := hid (BX.out.ext X1)
 clear x0 x1 c0 c1 c2 c3 X1
 obtain ⟨x0, x1⟩ := cell2 BX.out.g0
 obtain ⟨c0, c1, c2, c3⟩ := cell4 BX.out.g1
 go_upto_region 20 with (fail)
 clear x0 x1 c0 c1 c2 c3
 obtain ⟨b, off, z0, rfl, hbw, k00, k01, k02, k03, hz0⟩ := kid_val (HY.out.ext isNd_good BX.out.x fun _ _ h => h) 0 (HKL.out)
 simp only [Nat.zero_mul, Nat.add_zero] at k00 k01 k02 k03
 have HZ0 := hid hz0
 obtain ⟨a2, cap2, rfl, _⟩ := hz0
 have m00 := fun t' : LaterF none' w1 => (t'.x.cell (p := ⟨b, off, none⟩) hbw (fun h => h)).trans k00
 have m01 := fun t' : LaterF none' w1 => (t'.x.cell (p := ⟨b, off + 1, none⟩) hbw (fun h => h)).trans k01
 have m02 := fun t' : LaterF none' w1 => (t'.x.cell (p := ⟨b, off + 2, none⟩) hbw (fun h => h)).trans k02
 have m03 := fun t' : LaterF none' w1 => (t'.x.cell (p := ⟨b, off + 3, none⟩) hbw (fun h => h)).trans k03
 clear k00 k01 k02 k03
 obtain ⟨x0, x1⟩ := cell2L fun t' : LaterF none' w1 => t'.x.heap BX.out.g0 fun h => h
 obtain ⟨c0, c1, c2, c3⟩ := cell4L fun t' : LaterF none' w1 => t'.x.heap BX.out.g1 fun h => h
 by_cases hc1 : cap1 = 1
 case pos =>
  subst hc1
  have hl1 : Hid (t.kids.drop 1 = []) := hid (List.drop_eq_nil_of_le (by omega))
  refine region_q none' w1 (.qs [0, 1, 2, 5, 6, 7] (.one 3 true (.qs [4] (.one 8 true (.qs [9, 10, 11] .fin))))) (by kernel_rfl) (by kernel_rfl) (fun dst v c a w h => by cases dst <;> exact h) ?_
  refine ⟨In.of (Ext.refl _ _).drew, ?_⟩
  change wpQuiet _ _ (fun w' => ∃ t : LaterF none' w1, w' = t.w) _ _ _
  simp only [sel, List.getElem?_cons_succ, List.getElem?_cons_zero]
  repeat (go_big_quiet_step (fail))
  refine wpQuiet_nil ?_
  simp only [wpTreeQ, stepT, sel, List.getElem?_cons_succ, List.getElem?_cons_zero]
  have D1 := hid (Ext.refl none' w1).drew
  clear x0 x1 c0 c1 c2 c3 m00 m01 m02 m03
  go_wp2_with fail
  refine (C0.out _ (BX.out.x.trans D1.out) _ ⟨_, rfl, HZ0.out.ext isNd_good D1.out fun _ _ h => h⟩).mono ?_
  rintro e w2 ⟨rfl, X2⟩
  have XX := hid (D1.out.trans X2)
  go_wp2_with fail
  refine ⟨In.of XX.out, In.of XX.out, ?_⟩
  change wpQuiet _ _ (fun w' => ∃ t : LaterF none' w1, w' = t.w) _ _ _
  repeat (go_big_quiet_step (fail))
  refine wpQuiet_nil ?_
  go_wp2_with fail
  refine (CO.out _ (BX.out.x.trans XX.out) _ (by rw [hl1.out]; exact IsSl.gone)).mono ?_
  rintro e w3 ⟨rfl, X3⟩
  have XX := hid (XX.out.trans X3)
  go_wp2_with fail
  refine ⟨In.of XX.out, In.of XX.out, ?_⟩
  change wpQuiet _ _ (fun w' => ∃ t : LaterF none' w1, w' = t.w) _ _ _
  repeat (go_big_quiet_step (fail))
  refine wpQuiet_nil ?_
  have BX := hid (BX.out.ext XX.out)
  clear XX HZ0 hbw
  go_upto_region 21 with (fail)
  obtain ⟨x0, x1⟩ := cell2 BX.out.g0
  obtain ⟨c0, c1, c2, c3⟩ := cell4 BX.out.g1
  obtain ⟨b', off', z0, e2, hbw, k00, k01, k02, k03, hz0⟩ := kid_val (HY.out.ext isNd_good BX.out.x fun _ _ h => h) 0 (HKL.out)
  injection e2 with e2
  injection e2 with e2 e3 _
  subst e2 e3
  simp only [Nat.zero_mul, Nat.add_zero] at k00 k01 k02 k03
  have HZ0 := hid hz0
  obtain ⟨a2, cap2, rfl, _⟩ := hz0
  cases head <;> cases e1
  all_goals
   go_wp2_with fail
   go_ret
   exact ⟨by rw [HR.out]; simp, BX.out.x⟩
 case neg =>
  refine region_q none' w1 (.qs [0, 1, 2, 5, 6, 7] (.one 3 true (.qs [4] (.one 8 true (.qs [9, 10, 11] .fin))))) (by kernel_rfl) (by kernel_rfl) (fun dst v c a w h => by cases dst <;> exact h) ?_
  refine ⟨In.of (Ext.refl _ _).drew, ?_⟩
  change wpQuiet _ _ (fun w' => ∃ t : LaterF none' w1, w' = t.w) _ _ _
  simp only [sel, List.getElem?_cons_succ, List.getElem?_cons_zero]
  repeat (go_big_quiet_step (fail))
  refine wpQuiet_nil ?_
  simp only [wpTreeQ, stepT, sel, List.getElem?_cons_succ, List.getElem?_cons_zero]
  have D1 := hid (Ext.refl none' w1).drew
  clear x0 x1 c0 c1 c2 c3 m00 m01 m02 m03
  go_wp2_with fail
  refine (C0.out _ (BX.out.x.trans D1.out) _ ⟨_, rfl, HZ0.out.ext isNd_good D1.out fun _ _ h => h⟩).mono ?_
  rintro e w2 ⟨rfl, X2⟩
  have XX := hid (D1.out.trans X2)
  go_wp2_with fail
  refine ⟨In.of XX.out, In.of XX.out, ?_⟩
  change wpQuiet _ _ (fun w' => ∃ t : LaterF none' w1, w' = t.w) _ _ _
  repeat (go_big_quiet_step (fail))
  refine wpQuiet_nil ?_
  go_wp2_with fail
  refine (CO.out _ (BX.out.x.trans XX.out) _ ((HY.out.ext isNd_good (BX.out.x.trans XX.out) fun _ _ h => h).drop1 HKL.out)).mono ?_
  rintro e w3 ⟨rfl, X3⟩
  have XX := hid (XX.out.trans X3)
  go_wp2_with fail
  refine ⟨In.of XX.out, In.of XX.out, ?_⟩
  change wpQuiet _ _ (fun w' => ∃ t : LaterF none' w1, w' = t.w) _ _ _
  repeat (go_big_quiet_step (fail))
  refine wpQuiet_nil ?_
  have BX := hid (BX.out.ext XX.out)
  clear XX HZ0 hbw
  go_upto_region 21 with (fail)
  obtain ⟨x0, x1⟩ := cell2 BX.out.g0
  obtain ⟨c0, c1, c2, c3⟩ := cell4 BX.out.g1
  obtain ⟨b', off', z0, e2, hbw, k00, k01, k02, k03, hz0⟩ := kid_val (HY.out.ext isNd_good BX.out.x fun _ _ h => h) 0 (HKL.out)
  injection e2 with e2
  injection e2 with e2 e3 _
  subst e2 e3
  simp only [Nat.zero_mul, Nat.add_zero] at k00 k01 k02 k03
  have HZ0 := hid hz0
  obtain ⟨a2, cap2, rfl, _⟩ := hz0
  cases head <;> cases e1
  all_goals
   go_wp2_with fail
   go_ret
   exact ⟨by rw [HR.out]; simp, BX.out.x⟩
end Go.Proofs.YthbmjamgidfneaaGreatDoor
namespace Go.Proofs.YthbmjamgidfneaaGreatDoor
open Go.RowKit Go.Lib Go.BigFrame
theorem cut_run (s : List UInt8) (i j : Int) (a b : Nat) (hi : i = a) (hj : j = b) (hab : a ≤ b) (hb : b ≤ s.length) (W : World) : (Instr.slice 9 (.string ⟨s.toArray⟩) (some (.int .i64 i)) (some (.int .i64 j)) none).run Tryz.prog W = .ok (.string ⟨((s.drop a).take (b - a)).toArray⟩) W := by
 subst hi
 subst hj
 rw [run_slice_string W _ _ _ _ _ _ Tryz.underlying9 (by omega) (by omega) (by rw [bsize]; omega)]
 simp only [Int.toNat_natCast]
 rw [extract_eq]
theorem hexT_cut (q : Nat) (h : q < 16) : (hexT.drop q).take (q + 1 - q) = [hexd q] := by
 have : q = 0 ∨ q = 1 ∨ q = 2 ∨ q = 3 ∨ q = 4 ∨ q = 5 ∨ q = 6 ∨ q = 7 ∨ q = 8 ∨ q = 9 ∨ q = 10 ∨ q = 11 ∨ q = 12 ∨ q = 13 ∨ q = 14 ∨ q = 15 := by omega
 rcases this with rfl | rfl | rfl | rfl | rfl | rfl | rfl | rfl | rfl | rfl | rfl | rfl | rfl | rfl | rfl | rfl <;> rfl
theorem hex_run (q : Nat) (h : q < 16) (i j : Int) (hi : i = q) (hj : j = q + 1) (W : World) : (Instr.slice 9 (.string ⟨#[48, 49, 50, 51, 52, 53, 54, 55, 56, 57, 97, 98, 99, 100, 101, 102]⟩) (some (.int .i64 i)) (some (.int .i64 j)) none).run Tryz.prog W = .ok (.string ⟨[hexd q].toArray⟩) W := by
 have := cut_run hexT i j q (q + 1) hi (by rw [hj]; rfl) (by omega) (by show q + 1 ≤ 16; omega) W
 rw [hexT_cut q h] at this
 exact this
def quotesTo (s : List UInt8) (i : Nat) : List UInt8 := 34 :: (s.take i).flatMap quoteB
theorem rquote_any (s : List UInt8) (w : World) (hs : s.length ≤ 1000000) : Calls Tryz.prog 67 #[.string ⟨s.toArray⟩] w (StrPost (quoteP s) w) := by
 go_enter Tryz.func67, Tryz.ntmps67
 go_wp2_with fail
 go_loopw [3, 4] (fun o z wr => ∃ (i : Nat) (bs : List UInt8), z = .int .i64 (i : Nat) ∧ o = .string ⟨bs.toArray⟩ ∧ i ≤ s.length ∧ Hid (bs = quotesTo s i) ∧ Hid (Ext none' w wr)) (fun _ z _ => s.length - (RowKit.intOf z).toNat)
 case atStart => exact ⟨0, [34], rfl, rfl, by omega, hid rfl, hid (Ext.refl _ _)⟩
 case round =>
  obtain ⟨i, bs, rfl, rfl, hle, HB, HX⟩ := hrel
  have hbl : bs.length ≤ 4000001 := by
   have := quotes_len (s.take i)
   rw [List.length_take] at this
   rw [HB.out]; unfold quotesTo; rw [List.length_cons]; omega
  by_cases hil : i < s.length
  · have hi1 : ∀ W, (Instr.index 9 (.string ⟨s.toArray⟩) (.int .i64 (i : Nat))).run Tryz.prog W = .ok (.int .u8 ((s[i]'hil).toNat : Nat)) W := fun W => idx_run s i hil W
    have hfm := flatMap_take s i hil
    have hsl := fun W => cut_run s (i : Int) ((i : Int) + 1) i (i + 1) rfl (by omega) (by omega) (by omega) W
    have hcut : (s.drop i).take (i + 1 - i) = [s[i]'hil] := by
     rw [List.drop_eq_getElem_cons hil, show i + 1 - i = 1 by omega]; rfl
    rw [hcut] at hsl
    obtain ⟨c, hc⟩ : ∃ c, s[i]'hil = c := ⟨_, rfl⟩
    simp only [hc] at hi1 hsl
    rw [hc] at hfm
    have HN : Hid (bs ++ quoteB c = quotesTo s (i + 1)) := hid (by rw [HB.out]; unfold quotesTo; rw [hfm]; rfl)
    have hc255 : c.toNat ≤ 255 := by have := c.toNat_lt; omega
    clear hc hfm hcut
    by_cases m1 : c = 34
    · have n1 : ((c.toNat : Int) == 34) = true := by rw [m1]; rfl
      have hcat := str_cat bs [92, 34]
      have N : Hid (bs ++ [92, 34] = quotesTo s (i + 1)) := hid (by rw [← HN.out, m1]; rfl)
      clear hsl m1
      go_wp2_with fail
      go_roundw
      case rel => exact ⟨i + 1, bs ++ [92, 34], by go_num, by rfl, by omega, N, HX⟩
      case measure => simp [RowKit.intOf]; omega
    · have n1 : ((c.toNat : Int) == 34) = false := by have := u8n m1; simp at this ⊢; omega
      by_cases m2 : c = 92
      · have n2 : ((c.toNat : Int) == 92) = true := by rw [m2]; rfl
        have hcat := str_cat bs [92, 92]
        have N : Hid (bs ++ [92, 92] = quotesTo s (i + 1)) := hid (by rw [← HN.out, m2]; rfl)
        clear hsl m2
        go_wp2_with fail
        go_roundw
        case rel => exact ⟨i + 1, bs ++ [92, 92], by go_num, by rfl, by omega, N, HX⟩
        case measure => simp [RowKit.intOf]; omega
      · have n2 : ((c.toNat : Int) == 92) = false := by have := u8n m2; simp at this ⊢; omega
        by_cases m3 : c = 10
        · have n3 : ((c.toNat : Int) == 10) = true := by rw [m3]; rfl
          have hcat := str_cat bs [92, 110]
          have N : Hid (bs ++ [92, 110] = quotesTo s (i + 1)) := hid (by rw [← HN.out, m3]; rfl)
          clear hsl m3
          go_wp2_with fail
          go_roundw
          case rel => exact ⟨i + 1, bs ++ [92, 110], by go_num, by rfl, by omega, N, HX⟩
          case measure => simp [RowKit.intOf]; omega
        · have n3 : ((c.toNat : Int) == 10) = false := by have := u8n m3; simp at this ⊢; omega
          by_cases m4 : c = 9
          · have n4 : ((c.toNat : Int) == 9) = true := by rw [m4]; rfl
            have hcat := str_cat bs [92, 116]
            have N : Hid (bs ++ [92, 116] = quotesTo s (i + 1)) := hid (by rw [← HN.out, m4]; rfl)
            clear hsl m4
            go_wp2_with fail
            go_roundw
            case rel => exact ⟨i + 1, bs ++ [92, 116], by go_num, by rfl, by omega, N, HX⟩
            case measure => simp [RowKit.intOf]; omega
          · have n4 : ((c.toNat : Int) == 9) = false := by have := u8n m4; simp at this ⊢; omega
            by_cases hp : 32 ≤ c.toNat ∧ c.toNat ≤ 126
            · have hcat := str_cat bs [c]
              have N : Hid (bs ++ [c] = quotesTo s (i + 1)) := hid (by rw [← HN.out]; unfold quoteB; rw [if_neg (by simp [m1, m2]), if_neg m3, if_neg m4, if_pos hp])
              obtain ⟨p1, p2⟩ := hp
              obtain ⟨y, hy⟩ : ∃ y : List UInt8, y = [c] := ⟨_, rfl⟩
              have hyl : y.length = 1 := by rw [hy]; rfl
              rw [← hy] at hcat N
              simp only [← hy] at hsl
              clear m1 m2 m3 m4 hy HN
              go_wp2_with fail
              go_roundw
              case rel => exact ⟨i + 1, bs ++ y, by go_num, by rfl, by omega, N, HX⟩
              case measure => simp [RowKit.intOf]; omega
            · have hpp : c.toNat < 32 ∨ (32 ≤ c.toNat ∧ 126 < c.toNat) := by omega
              have hx1 := fun W => hex_run (c.toNat / 16) (by omega) ((c.toNat : Int) / 16) ((c.toNat : Int) / 16 + 1) (by omega) (by omega) W
              have hx2 := fun W => hex_run (c.toNat % 16) (by omega) ((c.toNat : Int) % 16) ((c.toNat : Int) % 16 + 1) (by omega) (by omega) W
              have hc1 := str_cat [92, 120] [hexd (c.toNat / 16)]
              have hc2 := str_cat ([92, 120] ++ [hexd (c.toNat / 16)]) [hexd (c.toNat % 16)]
              have hc3 := str_cat bs (([92, 120] ++ [hexd (c.toNat / 16)]) ++ [hexd (c.toNat % 16)])
              have N : Hid (bs ++ (([92, 120] ++ [hexd (c.toNat / 16)]) ++ [hexd (c.toNat % 16)]) = quotesTo s (i + 1)) := hid (by rw [← HN.out]; unfold quoteB; rw [if_neg (by simp [m1, m2]), if_neg m3, if_neg m4, if_neg hp]; rfl)
              obtain ⟨x1, hy1⟩ : ∃ x : List UInt8, x = [hexd (c.toNat / 16)] := ⟨_, rfl⟩
              obtain ⟨x2, hy2⟩ : ∃ x : List UInt8, x = [hexd (c.toNat % 16)] := ⟨_, rfl⟩
              have hl1 : x1.length = 1 := by rw [hy1]; rfl
              have hl2 : x2.length = 1 := by rw [hy2]; rfl
              rw [← hy1] at hc1 hc2 hc3 N
              rw [← hy2] at hc2 hc3 N
              simp only [← hy1] at hx1
              simp only [← hy2] at hx2
              obtain ⟨x3, hy3⟩ : ∃ x : List UInt8, x = [92, 120] ++ x1 := ⟨_, rfl⟩
              have hl3 : x3.length = 3 := by rw [hy3, List.length_append, hl1]; rfl
              rw [← hy3] at hc1 hc2 hc3 N
              obtain ⟨x4, hy4⟩ : ∃ x : List UInt8, x = x3 ++ x2 := ⟨_, rfl⟩
              have hl4 : x4.length = 4 := by rw [hy4, List.length_append, hl3, hl2]
              rw [← hy4] at hc2 hc3 N
              clear hp m1 m2 m3 m4 hy1 hy2 hy3 hy4 HN hsl
              rcases hpp with p1 | ⟨p1, p2⟩
              all_goals
               go_wp2_with fail
               refine region_in none' wr [0, 1, 2, 3, 4, 5, 6, 7, 8, 9, 10, 11, 12, 13, 14, 15, 16] [] (by kernel_rfl) (by kernel_rfl) (fun dst v c a w h => by cases dst <;> exact h) (Ext.refl _ _) ?_
               simp only [sel, List.getElem?_cons_succ, List.getElem?_cons_zero]
               repeat (go_big_quiet_step (fail))
               refine wpQuiet_nil ?_
               simp only [wpChain]
               go_wp2_with fail
               go_roundw
               case rel => exact ⟨i + 1, bs ++ x4, by go_num, by rfl, by omega, N, by first | exact HX | exact hid HX.out.drew⟩
               case measure => simp [RowKit.intOf]; omega
  · obtain rfl : i = s.length := by omega
    have hcat := str_cat bs [34]
    have e : Hid (bs ++ [34] = quoteP s) := hid (by rw [HB.out]; unfold quotesTo quoteP; rw [List.take_length]; rfl)
    clear HB
    go_wp2_with fail
    go_ret
    rw [← e.out]
    exact ⟨rfl, HX.out⟩
end Go.Proofs.YthbmjamgidfneaaGreatDoor
