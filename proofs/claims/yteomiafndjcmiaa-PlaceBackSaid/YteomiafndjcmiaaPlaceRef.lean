import Derived.Test.YteomiafndjcmiaaPlaceBoth
import Derived.Test.YteomiafndjcmiaaPlaceSign
import Derived.Shelf.Bytes.SlCountOne
namespace Go.Proofs.Yteomiafndjcmiaa
open Go.RowKit Go.Lib
theorem bytesOf_map (s : List UInt8) : Lib.bytesOf (s.map fun c => ((c.toNat : Nat) : Int)) = s := by
  unfold Lib.bytesOf
  rw [List.map_map]
  conv => rhs; rw [← List.map_id s]
  apply List.map_congr_left
  intro c _
  simp
theorem count_bytes {P : Program} {B : Nat} {w : World} {v : Value} {s : List UInt8} (hv : Bytes B w v s) (c : Int) :
    (Extern.BytealgCount.count #[v, .int .u8 c]).run P w = .ok (.int .i64 (s.count c.toNat.toUInt8 : Nat)) w := by
  obtain ⟨a, cap, rfl, h1, h2, h3, h4⟩ := hv
  by_cases hs : s = []
  · subst hs
    cases a with
    | none => rw [List.length_nil, run_countNil]; rfl
    | some a =>
      rw [List.length_nil, run_countAt w a 0 cap [] rfl (fun i hi => by omega)]; rfl
  · obtain ⟨b, off, rfl, _, _, hc⟩ := h4 hs
    rw [run_countSlice w b off s.length cap (s.map fun c => ((c.toNat : Nat) : Int)) (by simp) ?_ c, bytesOf_map]
    · rfl
    · intro i hi
      rw [hc i hi]
      simp [List.getD, hi]
theorem lines_any (B : Nat) (s : List UInt8) (v : Value) (w : World) (hv : Bytes B w v s) (_hs : s.length ≤ 1000000) :
    Calls Try.prog 11 #[v] w (IntPost ((s.count 10 : Nat) + 1) w) := by
  have HV := hid hv
  obtain ⟨aa, cap, rfl, h1, h2, h3, h4⟩ := hv
  have H4 := hid h4
  clear h3 h4
  have hcl : s.count 10 ≤ s.length := List.count_le_length
  go_enter Try.func11, Try.ntmps11
  go_wp2
  rw [run_callFunc_extern Try.func19 (by kernel_rfl) (by kernel_rfl) (by kernel_rfl) (e := Extern.BytealgCount.count) (by kernel_rfl), count_bytes (HV.out.keep ((Ext.refl _ _).alloc _))]
  simp only [Result.andThen]
  rw [Oper.upon_value]
  go_wp2
  go_ret
  exact ⟨rfl, (Ext.refl _ _).alloc _⟩
def signL (s : List UInt8) : Int × Int := if decodeL s = (65533, 1) then (1, -1) else (((decodeL s).2 : Int), ((decodeL s).1 : Int))
theorem sign_bytes (B : Nat) (s : List UInt8) (v : Value) (k : Nat) (w : World) (hv : Bytes B w v s) (hk : k < s.length) (hs : s.length ≤ 1000000) :
    Calls Try.prog 13 #[v, .int .i64 k] w (RetPair (signL (s.drop k)) w) := by
  have hne : s ≠ [] := by intro e; subst e; simp at hk
  obtain ⟨aa, cap, rfl, h1, h2, h3, h4⟩ := hv
  obtain ⟨b, off, rfl, _, _, hc⟩ := h4 hne
  have gd : ∀ j, j < s.length → w.cell? ⟨b, off + j, none⟩ = some (.int .u8 (((s.getD j 0).toNat : Nat) : Int)) := fun j hj => by
    rw [hc j hj]; simp [List.getD, hj]
  have hlt : ∀ j, (s.getD j 0).toNat < 256 := fun j => UInt8.toNat_lt _
  refine sign_core b off s.length cap k (s.getD k 0).toNat (s.getD (k + 1) 0).toNat (s.getD (k + 2) 0).toNat (s.getD (k + 3) 0).toNat w _ ?_ (by omega) hk (hlt _) (hlt _) (hlt _) (hlt _) (gd _ hk) (gd _) (gd _) (gd _)
  refine hid ?_
  rw [sgn_eq _ _ _ _ _ (hlt _) (hlt _) (hlt _) (by omega) (hlt _)]
  unfold signL signN
  rw [decodeL_N, List.length_drop, getD_dropU, getD_dropU, getD_dropU, getD_dropU, Nat.add_zero]
theorem signL_10 (s : List UInt8) : (signL s).2 = 10 ↔ (decodeL s).1 = 10 := by
  unfold signL
  split
  · rename_i h; rw [h]; simp
  · simp only; omega
theorem signL_w (s : List UInt8) : (signL s).1 = (decodeL s).2 := by
  unfold signL
  split
  · rename_i h; rw [h]; simp
  · rfl
def Pair (p : Int × Int) (w : World) (e : Ending) (w' : World) : Prop := e = .returned (.tuple #[.int .i64 p.1, .int .i64 p.2]) ∧ w = w'
set_option maxHeartbeats 800000 in
theorem ref_of_any (B : Nat) (s : List UInt8) (v : Value) (k : Int) (w : World) (hv : Bytes B w v s) (hs : s.length ≤ 1000000) :
    Calls Try.prog 8 #[v, .int .i64 k] w (RetPair (ofI s k) w) := by
  obtain ⟨p, hp⟩ : ∃ p, p = ofI s k := ⟨_, rfl⟩
  rw [← hp]
  unfold ofI at hp
  have HV := hid hv
  obtain ⟨aa, cap, rfl, h1, h2, h3, h4⟩ := hv
  have H4 := hid h4
  clear h3 h4
  by_cases hk : k < 0
  · rw [if_pos (.inl hk)] at hp
    subst hp
    go_enter Try.func8, Try.ntmps8
    go_wp2
    go_ret2
    exact RetPair.intro rfl
  by_cases hk2 : (s.length : Int) < k
  · rw [if_pos (.inr hk2)] at hp
    subst hp
    go_enter Try.func8, Try.ntmps8
    go_wp2
    go_ret2
    exact RetPair.intro rfl
  rw [if_neg (by omega)] at hp
  obtain ⟨n, rfl⟩ : ∃ n : Nat, k = n := ⟨k.toNat, by omega⟩
  rw [Int.toNat_natCast] at hp
  have HP := hid hp
  clear hp
  go_enter Try.func8, Try.ntmps8
  go_wp2_with fail
  go_loop [6, 7, 8] (fun x y z => ∃ (pos : Nat) (l c : Int), x = .int .i64 l ∧ y = .int .i64 c ∧ z = .int .i64 pos ∧ pos ≤ s.length ∧ (1 ≤ l ∧ 1 ≤ c ∧ l ≤ pos + 1 ∧ c ≤ pos + 1) ∧ Hid (p = (((rest (s.drop pos) pos l c).find? fun x => decide (n ≤ x.1)).map (·.2)).getD (0, 0))) (fun _ _ z => s.length - (RowKit.intOf z).toNat)
  case atStart => exact ⟨0, 1, 1, rfl, rfl, rfl, by omega, by omega, HP⟩
  case round =>
    obtain ⟨pos, l, c, rfl, rfl, rfl, hle, hbd, HF⟩ := hrel
    by_cases hlt : pos < n
    · have hsz : pos < s.length := by omega
      have hw := signL_w (s.drop pos)
      have h10 := signL_10 (s.drop pos)
      have w1 := dw1 (s.drop pos)
      have w2 := dwle (s.drop pos) (drop_ne hsz)
      rw [List.length_drop] at w2
      obtain ⟨d, hd⟩ : ∃ d, decodeL (s.drop pos) = d := ⟨_, rfl⟩
      rw [hd] at hw h10 w1 w2
      have C := hid (sign_bytes B s (.slice aa s.length cap) pos w HV.out hsz hs)
      obtain ⟨q1, q2, hq⟩ : ∃ q1 q2, signL (s.drop pos) = (q1, q2) := ⟨_, _, rfl⟩
      rw [hq] at hw h10 C
      simp only at hw h10
      subst hw
      have HD := hid hd
      have H10 := hid h10
      clear hd h10 hq
      by_cases e : q2 = 10
      · have hq2 : (q2 == 10) = true := by simp [e]
        have E := hid e
        clear e
        go_wp2_with (go_at_call 13; refine C.out.mono ?_; rintro e w1 ⟨rfl, rfl⟩)
        go_round
        case rel =>
          refine ⟨pos + d.2, l + 1, 1, by go_num, rfl, by go_num, by omega, by omega, ?_⟩
          refine hid ?_
          rw [HF.out, rest_step _ _ _ _ (drop_ne hsz), HD.out, List.find?_cons_of_neg (by simp; omega), List.drop_drop, if_pos (H10.out.1 E.out)]
        case measure => simp [RowKit.intOf]; omega
      · have hq2 : (q2 == 10) = false := by simp [e]
        have E := hid e
        clear e
        go_wp2_with (go_at_call 13; refine C.out.mono ?_; rintro e w1 ⟨rfl, rfl⟩)
        go_round
        case rel =>
          refine ⟨pos + d.2, l, c + 1, rfl, by go_num, by go_num, by omega, by omega, ?_⟩
          refine hid ?_
          rw [HF.out, rest_step _ _ _ _ (drop_ne hsz), HD.out, List.find?_cons_of_neg (by simp; omega), List.drop_drop, if_neg (fun h => E.out (H10.out.2 h))]
        case measure => simp [RowKit.intOf]; omega
    · have e : p = (l, c) := by
        obtain ⟨t, ht⟩ := rest_head (s.drop pos) pos l c
        rw [HF.out, ht, List.find?_cons_of_pos (by simp; omega)]
        rfl
      have E := hid e
      clear e
      go_wp2
      go_ret2
      exact RetPair.intro E.out
end Go.Proofs.Yteomiafndjcmiaa
