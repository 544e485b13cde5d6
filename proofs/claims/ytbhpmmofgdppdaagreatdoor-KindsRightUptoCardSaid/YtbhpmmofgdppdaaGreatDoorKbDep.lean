import Derived.Test.YtbhpmmofgdppdaaGreatDoorZAo
import Derived.Test.YtbhpmmofgdppdaaGreatDoorKbP
/-
  demoticref06.Depth: how many nodes are within one another, to a depth.
-/
namespace Go.Proofs.YtbhpmmofgdppdaaGreatDoor
open Go.RowKit Go.Lib Go.BigFrame
def dm (f : Nat) (l : List Nd) : Nat := (l.map (depD f)).foldr max 0
theorem dm_snoc (f : Nat) (l : List Nd) (t : Nd) : dm f (l ++ [t]) = max (dm f l) (depD f t) := by
  unfold dm
  induction l with
  | nil => simp
  | cons a r ih => rw [List.cons_append, List.map_cons, List.foldr_cons, ih, List.map_cons, List.foldr_cons]; omega
theorem depD_le : ∀ (f : Nat) (t : Nd), depD f t ≤ f
  | 0, _ => Nat.le_refl _
  | f + 1, t => by
    have key : ∀ l : List Nd, (l.map (depD f)).foldr max 0 ≤ f := by
      intro l
      induction l with
      | nil => exact Nat.zero_le _
      | cons a r ih => rw [List.map_cons, List.foldr_cons]; have := depD_le f a; omega
    rw [depD]
    have := key t.kids
    omega
theorem dm_le (f : Nat) (l : List Nd) : dm f l ≤ f := by
  unfold dm
  induction l with
  | nil => exact Nat.zero_le _
  | cons a r ih => rw [List.map_cons, List.foldr_cons]; have := depD_le f a; omega
set_option maxRecDepth 100000 in
set_option maxHeartbeats 1600000 in
theorem ndepth_any : ∀ (f : Nat), f ≤ 100000 → ∀ (t : Nd), t.size ≤ bigD → ∀ (A : Nat → Prop) (v : Value) (w : World), NdV A w t v → Calls Tryz.prog 40 #[v, .int .i64 (f : Nat)] w (IntP (depD f t : Nat) w) := by
  intro f
  induction f with
  | zero =>
    intro _ t _ A v w hv
    obtain ⟨x, rfl, hx⟩ := hv
    obtain ⟨a0, cap0, rfl, _⟩ := hx
    go_enter Tryz.func40, Tryz.ntmps40
    go_wp2_with fail
    go_ret
    exact ⟨rfl, (Ext.refl _ _).alloc _⟩
  | succ f ih =>
    intro hf t hsz A v w hv
    cases t with
    | mk k n l ps =>
    obtain ⟨p, hp⟩ : ∃ p, p = depD (f + 1) (.mk k n l ps) := ⟨_, rfl⟩
    rw [← hp]
    have hp : p = dm f l + 1 := hp
    have HP := hid hp
    obtain ⟨x, rfl, hx⟩ := hv
    have hx : IsSl 4 IsNd A w x l := hx
    have HX := hid hx
    obtain ⟨a0, cap0, rfl, _⟩ := hx
    have HIH := hid (ih (by omega))
    have hll : l.length ≤ bigD := by have := Nd.kids_len (.mk k n l ps); simp only [Nd.kids] at this; omega
    unfold bigD at hll
    have HSZ := hid hsz
    have HFF := hid hf
    clear ih hp hsz
    show Calls Tryz.prog 40 #[.agg #[.int .i64 k, .string ⟨n.toArray⟩, .slice a0 l.length cap0, .int .i64 ps], .int .i64 ((f + 1 : Nat) : Nat)] w (IntP (p : Nat) w)
    obtain ⟨B, hB⟩ : ∃ B, B = w.heap.size := ⟨_, rfl⟩
    have g0 := heap_alloc_at (w := w) hB (.cells #[.int .i64 k, .string ⟨n.toArray⟩, .slice a0 l.length cap0, .int .i64 ps] 49)
    obtain ⟨W1, hW1⟩ : ∃ W1, W1 = w.alloc (.cells #[.int .i64 k, .string ⟨n.toArray⟩, .slice a0 l.length cap0, .int .i64 ps] 49) := ⟨_, rfl⟩
    have X1 : Ext none' w W1 := by rw [hW1]; exact (Ext.refl _ _).alloc _
    rw [← hW1] at g0
    have HX1 := hid (HX.out.ext isNd_good X1 fun _ _ h => h.elim)
    have X1 := hid X1
    have hb2 : Hid (∀ W, Ext none' W1 W → W.cell? ⟨B, 2, none⟩ = some (.slice a0 l.length cap0)) := hid fun W X => by rw [cell_at (X.heap g0 (fun h => h))]; rfl
    have hz : (((f + 1 : Nat) : Int) == 0) = false := by simp only [beq_eq_false_iff_ne]; omega
    have hs : ((f + 1 : Nat) : Int) - 1 = (f : Int) := by omega
    obtain ⟨F, hF⟩ : ∃ F : Int, F = ((f + 1 : Nat) : Int) := ⟨_, rfl⟩
    have hFb : F ≤ 100000 ∧ 1 ≤ F := by omega
    rw [← hF] at hz hs ⊢
    clear g0 hF
    go_enter Tryz.func40, Tryz.ntmps40
    go_wp2_with fail
    rw [← hW1, ← hB]
    clear hB hW1
    go_loopw [5, 6] (fun c z wr => ∃ (i : Nat), z = .int .i64 (i : Nat) ∧ i ≤ l.length ∧ c = .int .i64 ((dm f (l.take i) : Nat) : Nat) ∧ Hid (Ext none' W1 wr)) (fun _ z _ => l.length - (RowKit.intOf z).toNat)
    case atStart => exact ⟨0, rfl, by omega, rfl, hid (Ext.refl _ _)⟩
    case round =>
      obtain ⟨i, rfl, hle, rfl, HR⟩ := hrel
      have b2 := hb2.out _ HR.out
      by_cases hi : i < l.length
      · obtain ⟨b, off, cs, rfl, hAb, hbw, hcc, hty⟩ := (HX1.out.ext isNd_good HR.out fun _ _ h => h.elim).at i hi
        obtain ⟨x', rfl, hx'⟩ := hty.parts
        have c0 := hcc 0 _ rfl
        have c1 := hcc 1 _ rfl
        have c2 := hcc 2 _ rfl
        have c3 := hcc 3 _ rfl
        simp only [Nat.add_zero] at c0
        have hmem := List.getElem_mem hi
        have hts : l[i].size ≤ bigD := by have := Nd.size_kid (t := .mk k n l ps) hmem; have := HSZ.out; omega
        have HX2 := hid hx'
        obtain ⟨a', cap', rfl, _⟩ := hx'
        have CS := hid (HIH.out l[i] hts A (.agg #[.int .i64 l[i].kind, .string ⟨l[i].text.toArray⟩, .slice a' l[i].kids.length cap', .int .i64 l[i].pos]) wr ⟨_, rfl, HX2.out⟩)
        have htake : l.take (i + 1) = l.take i ++ [l[i]] := by rw [List.take_add_one, List.getElem?_eq_getElem hi]; rfl
        have hsn : dm f (l.take (i + 1)) = max (dm f (l.take i)) (depD f l[i]) := by rw [htake, dm_snoc]
        have hbd : depD f l[i] ≤ 100000 := by have := depD_le f l[i]; have := HFF.out; omega
        have hcl : dm f (l.take i) ≤ 100000 := by have := dm_le f (l.take i); have := HFF.out; omega
        obtain ⟨q, hq⟩ : ∃ q, depD f l[i] = q := ⟨_, rfl⟩
        obtain ⟨c, hc⟩ : ∃ c, dm f (l.take i) = c := ⟨_, rfl⟩
        rw [hq] at CS hsn hbd
        rw [hc] at hsn hcl ⊢
        have HSN := hid hsn
        clear hcc hty hsn htake hq hc hts
        go_wp2_with fail
        refine CS.out.mono ?_
        rintro e w2 ⟨rfl, X2⟩
        have X2 := hid (HR.out.trans X2)
        go_wp2_with fail
        go_roundw
        case rel => exact ⟨i + 1, by go_num, by omega, by rw [HSN.out]; congr 1; omega, X2⟩
        case measure => simp [RowKit.intOf]; omega
      · obtain rfl : i = l.length := by omega
        obtain ⟨m, hm⟩ : ∃ m, dm f (l.take l.length) = m := ⟨_, rfl⟩
        have e1 : Hid (p = m + 1) := hid (by rw [HP.out, ← hm, List.take_length])
        have hmb : m ≤ 100000 := by rw [← hm]; have := dm_le f (l.take l.length); have := HFF.out; omega
        rw [hm]
        clear hm
        go_wp2_with fail
        go_ret
        exact ⟨by rw [e1.out]; rfl, X1.out.trans HR.out⟩
end Go.Proofs.YtbhpmmofgdppdaaGreatDoor
