import Derived.Test.YtmlhkgocilpobaaKiBeh
import Derived.Test.YtmlhkgocilpobaaUnNone
/-
  demoticref10.Size: the size of a tree.
-/
namespace Go.Proofs.Ytmlhkgocilpobaa
open Go.RowKit Go.Lib Go.BigFrame
set_option maxRecDepth 100000 in
set_option maxHeartbeats 1600000 in
theorem rsize_any (t : Ty) : t.size ≤ bigD → ∀ (A : Nat → Prop) (v : Value) (w : World), TyV A w t v → Calls Try.prog 13 #[v] w (IntP (t.size : Nat) w) := by
  induction t using Ty.induct with
  | h k n l ih =>
    intro hsz A v w hv
    obtain ⟨p, hp⟩ : ∃ p, p = Ty.size (.mk k n l) := ⟨_, rfl⟩
    rw [← hp]
    rw [Ty.size] at hp
    have HP := hid hp
    obtain ⟨x, rfl, hx⟩ := hv
    have hx : IsSl 3 IsTy A w x l := hx
    have HX := hid hx
    obtain ⟨a0, cap0, rfl, _⟩ := hx
    have HIH := hid ih
    have hll : l.length ≤ bigD := by have := Ty.args_len (.mk k n l); simp only [Ty.args] at this; omega
    unfold bigD at hll
    have HSZ := hid hsz
    clear ih hp hsz
    show Calls Try.prog 13 #[.agg #[.int .i64 k, .string ⟨n.toArray⟩, .slice a0 l.length cap0]] w (IntP (p : Nat) w)
    obtain ⟨B, hB⟩ : ∃ B, B = w.heap.size := ⟨_, rfl⟩
    have g0 := heap_alloc_at (w := w) hB (.cells #[.int .i64 k, .string ⟨n.toArray⟩, .slice a0 l.length cap0] 43)
    obtain ⟨W1, hW1⟩ : ∃ W1, W1 = w.alloc (.cells #[.int .i64 k, .string ⟨n.toArray⟩, .slice a0 l.length cap0] 43) := ⟨_, rfl⟩
    have X1 : Ext none' w W1 := by rw [hW1]; exact (Ext.refl _ _).alloc _
    rw [← hW1] at g0
    have HX1 := hid (HX.out.ext isTy_good X1 fun _ _ h => h.elim)
    have X1 := hid X1
    have hb2 : Hid (∀ W, Ext none' W1 W → W.cell? ⟨B, 2, none⟩ = some (.slice a0 l.length cap0)) := hid fun W X => by rw [cell_at (X.heap g0 (fun h => h))]; rfl
    clear g0
    go_enter Try.func13, Try.ntmps13
    go_wp2_with fail
    rw [← hW1, ← hB]
    clear hB hW1
    go_loopw [3, 4] (fun c z wr => ∃ (i : Nat), z = .int .i64 (i : Nat) ∧ i ≤ l.length ∧ c = .int .i64 ((1 + Ty.sizeL (l.take i) : Nat) : Nat) ∧ Hid (Ext none' W1 wr)) (fun _ z _ => l.length - (RowKit.intOf z).toNat)
    case atStart => exact ⟨0, rfl, by omega, rfl, hid (Ext.refl _ _)⟩
    case round =>
      obtain ⟨i, rfl, hle, rfl, HR⟩ := hrel
      have b2 := hb2.out _ HR.out
      by_cases hi : i < l.length
      · obtain ⟨b, off, cs, rfl, hAb, hbw, hcc, hty⟩ := (HX1.out.ext isTy_good HR.out fun _ _ h => h.elim).at i hi
        obtain ⟨x', rfl, hx'⟩ := hty.parts
        have c0 := hcc 0 _ rfl
        have c1 := hcc 1 _ rfl
        have c2 := hcc 2 _ rfl
        simp only [Nat.add_zero] at c0
        have hmem := List.getElem_mem hi
        have hts : l[i].size ≤ bigD := by have := Ty.size_arg (t := .mk k n l) hmem; have := HSZ.out; omega
        have HX2 := hid hx'
        obtain ⟨a', cap', rfl, _⟩ := hx'
        have CS := hid (HIH.out _ hmem hts A (.agg #[.int .i64 l[i].kind, .string ⟨l[i].name.toArray⟩, .slice a' l[i].args.length cap']) wr ⟨_, rfl, HX2.out⟩)
        have htake : l.take (i + 1) = l.take i ++ [l[i]] := by rw [List.take_add_one, List.getElem?_eq_getElem hi]; rfl
        have hsn : 1 + Ty.sizeL (l.take (i + 1)) = 1 + Ty.sizeL (l.take i) + l[i].size := by rw [htake, Ty.sizeL_append]; simp [Ty.sizeL]; omega
        have hbd : l[i].size ≤ 20000000000 := hts
        have htk : Ty.sizeL (l.take i) ≤ Ty.sizeL l := by
          have e := Ty.sizeL_append (l.take i) (l.drop i)
          rw [List.take_append_drop] at e
          omega
        have hfull : Ty.sizeL l ≤ 20000000000 := by have := HSZ.out; rw [Ty.size] at this; unfold bigD at this; omega
        have hcl : 1 + Ty.sizeL (l.take i) ≤ 20000000001 := by omega
        obtain ⟨q, hq⟩ : ∃ q, l[i].size = q := ⟨_, rfl⟩
        obtain ⟨c, hc⟩ : ∃ c, 1 + Ty.sizeL (l.take i) = c := ⟨_, rfl⟩
        rw [hq] at CS hsn hbd
        rw [hc] at hsn hcl ⊢
        have HSN := hid hsn
        clear hcc hty hsn htake hq hc htk hfull hts
        go_wp2_with fail
        refine CS.out.mono ?_
        rintro e w2 ⟨rfl, X2⟩
        have X2 := hid (HR.out.trans X2)
        go_wp2_with fail
        go_roundw
        case rel => exact ⟨i + 1, by go_num, by omega, by rw [HSN.out]; rfl, X2⟩
        case measure => simp [RowKit.intOf]; omega
      · obtain rfl : i = l.length := by omega
        have e1 : Hid (1 + Ty.sizeL (l.take l.length) = p) := hid (by rw [HP.out, List.take_length]; omega)
        rw [e1.out]
        go_wp2_with fail
        go_ret
        exact ⟨rfl, X1.out.trans HR.out⟩
end Go.Proofs.Ytmlhkgocilpobaa
