import Derived.Test.YtielcpnalepkfaaDoorLitPart
namespace Go.Proofs.YtielcpnalepkfaaDoor
open Go.RowKit Go.Lib Go.BigFrame
theorem ext_below {w0 wr w' : World} (x : Ext none' w0 wr) (b : Below w0.heap.size wr w') : Ext none' w0 w' :=
  ⟨b.os.trans x.os, b.tape.trans x.tape, b.output.trans x.output, Nat.le_trans x.size b.size, fun k hk hn => (b.block k hk).trans (x.block k hk hn)⟩
theorem byteVals_cells (l : List UInt8) : Lib.byteCells l = byteVals l := rfl
theorem strCells_vals (l : List UInt8) : Lib.strCells ⟨l.toArray⟩ = byteVals l := by simp [Lib.strCells, byteVals]
theorem builder_ext {T e : TypeId} {B b : Nat} {bs : List Value} {w w' : World} (h : Lib.IsBuilder T e B b bs w) (x : Ext none' w w') : Lib.IsBuilder T e B b bs w' := by
  have go : ∀ p, Lib.BuilderAt T e B b p bs w → Lib.BuilderAt T e B b p bs w' := fun p ⟨hB, v, hb, hown, hne⟩ => ⟨hB, v, x.heap hb (fun h => h), ownsRow_ext hown x (fun _ _ h => h), hne⟩
  exact h.imp (go _) (go _)
def QtPost (o : Option (List UInt8)) (w : World) (e : Ending) (w' : World) : Prop :=
  match o with
  | some b => e = .returned (.string ⟨b.toArray⟩) ∧ Ext none' w w'
  | none => e = .panicked [{ v := gaveW, recovered := false }] ∧ Ext none' w w'
theorem runeB_len (v : Nat) : (runeB v).length ≤ 4 := by unfold runeB; repeat' split
                                                         all_goals simp
theorem partP_out {s : List UInt8} {o : List UInt8} {n : Nat} (h : partP s = some (o, n)) : o.length ≤ 4 := by
  cases s with
  | nil => cases h
  | cons c t =>
    rw [partP_cons] at h
    split at h
    · simp at h; rw [← h.1]; simp
    · split at h
      · cases hd : digitsP 16 2 t with
        | none => rw [hd] at h; cases h
        | some v => rw [hd] at h; simp at h; rw [← h.1]; simp
      · split at h
        · split at h
          · cases h
          · split at h
            · simp at h; rw [← h.1]; exact runeB_len _
            · cases h
        · split at h
          · cases h
          · split at h
            · simp at h; rw [← h.1]; simp
            · cases h
def strLen : Value → Nat
  | .string b => b.size
  | _ => 0
set_option maxRecDepth 100000 in
set_option maxHeartbeats 3200000 in
theorem quoted_any (s : List UInt8) (w : World) (hs : s.length ≤ 1000000) : Calls Tryd.prog 26 #[.string ⟨s.toArray⟩] w (QtPost (unq s) w) := by
  obtain ⟨p, hp⟩ : ∃ p, p = unq s := ⟨_, rfl⟩
  rw [← hp]
  have HP := hid hp
  clear hp
  have B0 : Hid (Lib.IsBuilder 65 5 w.heap.size w.heap.size (byteVals []) (w.alloc (.cells #[.pointer none, .slice none 0 0] 65))) := hid (.inl ⟨Nat.le_refl _, .slice none 0 0, heap_alloc_at rfl _, World.ownsRow_nil _ _ _ _, by simp [Value.ownBlock]⟩)
  go_enter Tryd.func26, Tryd.ntmps26
  go_wp2_with fail
  obtain ⟨b, hb⟩ : ∃ b, b = w.heap.size := ⟨_, rfl⟩
  have HB := hid hb
  have B1 : Hid (Lib.IsBuilder 65 5 w.heap.size b (byteVals []) (w.alloc (.cells #[.pointer none, .slice none 0 0] 65))) := hid (by rw [hb]; exact B0.out)
  rw [← hb]
  clear hb B0
  go_loopw [0, 4, 5, 6] (fun u _ _ _ wr => ∃ rest acc : List UInt8, u = .string ⟨rest.toArray⟩ ∧ acc.length + 4 * rest.length ≤ 4 * s.length ∧ Hid (Lib.IsBuilder 65 5 w.heap.size b (byteVals acc) wr) ∧ Hid (Ext none' w wr) ∧ Hid (p = (unq rest).map (acc ++ ·))) (fun u _ _ _ _ => strLen u)
  case atStart => exact ⟨s, [], rfl, by simp, B1, hid ((Ext.refl _ _).alloc _), hid (by rw [HP.out]; simp)⟩
  case round =>
    obtain ⟨rest, acc, rfl, hlen, HBD, HX, HR⟩ := hrel
    have HSZ := hid HX.out.size
    rcases s_cases rest with rfl | ⟨c, t, hct⟩
    · have e : Hid (p = some acc) := hid (by rw [HR.out, unq_nil]; simp)
      have CS := hid (Tryd.Builder_String_any w.heap.size b acc wr HBD.out HSZ.out)
      clear HR
      go_wp2_with fail
      refine CS.out.mono ?_
      rintro e' w2 ⟨rfl, hbl⟩
      have X2 := hid (ext_below HX.out hbl)
      clear hbl
      go_wp2_with fail
      go_ret
      rw [e.out]
      exact ⟨rfl, X2.out⟩
    · have hrl : 0 < rest.length := by rw [hct]; simp
      have hne : (rest == []) = false := by rw [hct]; rfl
      have hix := byte_at rest 0 hrl
      have hc0 : rest[0]'hrl = c := by subst hct; rfl
      rw [hc0] at hix
      have hlt1 : rest.length ≤ t.length + 1 := by rw [hct]; exact Nat.le_refl _
      have hlt2 : t.length + 1 ≤ rest.length := by rw [hct]; exact Nat.le_refl _
      have hd1 : rest.drop 1 = t := by rw [hct]; rfl
      have HD1 := hid (drop_str rest 1)
      rw [hd1] at HD1
      have HDN : Hid (∀ n, (⟨rest.toArray⟩ : ByteArray).extract (n + 1) rest.length = ⟨(t.drop n).toArray⟩) := hid fun n => by
        rw [drop_str, hct]; rfl
      have hr := HR.out
      rw [hct, unq_cons] at hr
      have HR2 := hid hr
      have htl : t.length ≤ 1000000 := by omega
      clear hr hc0 hd1 HR hct
      by_cases m1 : c = 92
      · have CP := part_any t wr htl
        have hrp : p = (match partP t with
          | none => none
          | some (o, n) => ((unq (t.drop n)).map (o ++ ·))).map (acc ++ ·) := by rw [HR2.out, if_pos m1]; cases partP t <;> rfl
        subst m1
        clear HR2
        cases hpt : partP t with
        | none =>
          have e : Hid (p = none) := hid (by rw [hrp, hpt]; rfl)
          rw [hpt] at CP
          have CP := hid CP
          clear hrp hpt
          go_wp2_with fail
          rw [HD1.out]
          refine CP.out.mono ?_
          rintro e' w2 ⟨rfl, X2⟩
          have X2 := hid (HX.out.trans X2)
          go_wp2_with fail
          rw [e.out]
          exact ⟨rfl, rfl, X2.out⟩
        | some x =>
          obtain ⟨o, n⟩ := x
          have ho := partP_out hpt
          obtain ⟨hn1, hn2⟩ := partP_le hpt
          have e : Hid (p = (unq (t.drop n)).map ((acc ++ o) ++ ·)) := hid (by
            rw [hrp, hpt]
            simp only [Option.map_map]
            congr 1
            funext x
            simp)
          rw [hpt] at CP
          have CP := hid CP
          have HTD : Hid ((t.drop n).length = t.length - n) := hid List.length_drop
          clear hrp hpt
          go_wp2_with fail
          rw [HD1.out]
          refine CP.out.mono ?_
          rintro e' w2 ⟨rfl, X2⟩
          have HBD2 := hid (builder_ext HBD.out X2)
          have X2 := hid (HX.out.trans X2)
          go_wp2_with fail
          refine (Tryd.Builder_WriteString w.heap.size b (byteVals acc) ⟨o.toArray⟩ w2 HBD2.out (by rw [byteVals_length, bsize]; omega) X2.out.size).mono ?_
          rintro e' w3 ⟨rfl, hb3, hbl⟩
          rw [strCells_vals, ← byteVals_append] at hb3
          have HB3 : Hid (Lib.IsBuilder 65 5 w.heap.size b (byteVals (acc ++ o)) w3) := hid (.inr hb3)
          have X3 := hid (ext_below X2.out hbl)
          clear hb3 hbl
          go_wp2_with fail
          rw [HDN.out]
          go_roundw
          case rel => exact ⟨t.drop n, acc ++ o, rfl, by rw [List.length_append, HTD.out]; omega, HB3, X3, e⟩
          case measure => simp only [strLen, bsize, HTD.out]; omega
      · have n1 : ((c.toNat : Int) == 92) = false := by have := u8n m1; simp at this ⊢; omega
        by_cases m2 : c = 34 ∨ c = 10
        · have e : Hid (p = none) := hid (by rw [HR2.out, if_neg m1, if_pos m2]; rfl)
          have hq : ((c.toNat : Int) != 34) = false ∨ (((c.toNat : Int) != 34) = true ∧ ((c.toNat : Int) != 10) = false) := by
            rcases m2 with rfl | rfl
            · left; decide
            · right; decide
          clear m1 m2 HR2
          rcases hq with hq | ⟨hq, hq2⟩
          all_goals
            go_wp2_with fail
            refine (wneed_no _).mono ?_
            rintro e' w2 ⟨rfl, rfl⟩
            go_wp2_with fail
            rw [e.out]
            exact ⟨rfl, rfl, HX.out⟩
        · have e : Hid (p = (unq t).map ((acc ++ [c]) ++ ·)) := hid (by
            rw [HR2.out, if_neg m1, if_neg m2]
            simp only [Option.map_map]
            congr 1
            funext x
            simp)
          have n2 : ((c.toNat : Int) != 34) = true := by have := u8n (fun h => m2 (.inl h)); simp at this ⊢; omega
          have n3 : ((c.toNat : Int) != 10) = true := by have := u8n (fun h => m2 (.inr h)); simp at this ⊢; omega
          clear m1 m2 HR2
          go_wp2_with fail
          refine (wneed_yes _).mono ?_
          rintro e' w2 ⟨rfl, rfl⟩
          go_wp2_with fail
          refine (Tryd.Builder_WriteByte w.heap.size b (byteVals acc) (c.toNat : Nat) wr HBD.out (by rw [byteVals_length]; omega) HSZ.out).mono ?_
          rintro e' w3 ⟨rfl, hb3, hbl⟩
          rw [show byteVals acc ++ [.int .u8 (c.toNat : Nat)] = byteVals (acc ++ [c]) by simp [byteVals]] at hb3
          have HB3 : Hid (Lib.IsBuilder 65 5 w.heap.size b (byteVals (acc ++ [c])) w3) := hid (.inr hb3)
          have X3 := hid (ext_below HX.out hbl)
          clear hb3 hbl
          go_wp2_with fail
          rw [HD1.out]
          go_roundw
          case rel => exact ⟨t, acc ++ [c], rfl, by rw [List.length_append, List.length_singleton]; omega, HB3, X3, e⟩
          case measure => simp only [strLen, bsize]; omega
end Go.Proofs.YtielcpnalepkfaaDoor
