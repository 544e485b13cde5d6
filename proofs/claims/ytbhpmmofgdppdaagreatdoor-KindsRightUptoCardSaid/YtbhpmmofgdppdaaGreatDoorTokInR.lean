import Derived.Test.YtbhpmmofgdppdaaGreatDoorZAk
namespace Go.Proofs.YtbhpmmofgdppdaaGreatDoor
open Go.RowKit Go.Lib
theorem rletter_any (c : Nat) (w : World) : Calls Tryz.prog 94 #[.int .u8 c] w (RetBool (letterB c) w) := by
  obtain ⟨b, hb⟩ : ∃ b, b = letterB c := ⟨_, rfl⟩
  rw [← hb]
  have HB := hid hb
  clear hb
  go_enter Tryz.func94, Tryz.ntmps94
  go_wp2
  all_goals go_ret
  all_goals refine ⟨?_, rfl⟩
  all_goals congr 2
  all_goals rw [HB.out]; simp [letterB]
  all_goals first | omega | (rw [Bool.eq_iff_iff]; simp; omega)
theorem rfigure_any (c : Nat) (w : World) : Calls Tryz.prog 92 #[.int .u8 c] w (RetBool (figB c) w) := by
  obtain ⟨b, hb⟩ : ∃ b, b = figB c := ⟨_, rfl⟩
  rw [← hb]
  have HB := hid hb
  clear hb
  go_enter Tryz.func92, Tryz.ntmps92
  go_wp2
  all_goals go_ret
  all_goals refine ⟨?_, rfl⟩
  all_goals congr 2
  all_goals rw [HB.out]; simp [figB]
  all_goals first | omega | (rw [Bool.eq_iff_iff]; simp; omega)
theorem in_any (s : List UInt8) (b : Nat) (ts : List (List UInt8)) (cap : Nat) (w : World) (hT : Texts w b ts) (hc : ts.length ≤ 1000) :
    Calls Tryz.prog 122 #[.string ⟨s.toArray⟩, .slice (some ⟨b, 0, none⟩) ts.length cap] w (RetBool (decide (s ∈ ts)) w) := by
  obtain ⟨p, hp⟩ : ∃ p, p = decide (s ∈ ts) := ⟨_, rfl⟩
  rw [← hp]
  have HP := hid hp
  have HT := hid hT
  clear hp hT
  go_enter Tryz.func122, Tryz.ntmps122
  go_wp2
  go_loop [5] (fun z => ∃ (i : Nat), z = .int .i64 i ∧ i ≤ ts.length ∧ Hid (s ∉ ts.take i)) (fun z => ts.length - (RowKit.intOf z).toNat)
  case atStart => exact ⟨0, rfl, by omega, hid (by simp)⟩
  case round =>
    obtain ⟨i, rfl, hle, HF⟩ := hrel
    by_cases hi : i < ts.length
    · have g := HT.out i hi
      obtain ⟨t, ht⟩ : ∃ t, ts[i] = t := ⟨_, rfl⟩
      rw [ht] at g
      have HTT := hid ht
      clear ht
      by_cases e : t = s
      · subst e
        go_wp2
        go_ret
        refine ⟨?_, rfl⟩
        rw [HP.out]
        have : t ∈ ts := by rw [← HTT.out]; exact List.getElem_mem hi
        simp [this]
      · have e' : (t == s) = false := by simpa using e
        have E := hid e
        clear e
        go_wp2
        go_round
        case rel =>
          refine ⟨i + 1, by go_num, by omega, hid ?_⟩
          rw [List.take_add_one, List.getElem?_eq_getElem hi, HTT.out]
          simp only [Option.toList_some, List.mem_append, List.mem_singleton, not_or]
          exact ⟨HF.out, fun h => E.out h.symm⟩
        case measure => simp [RowKit.intOf]; omega
    · have e : i = ts.length := by omega
      subst e
      have HF' := hid HF
      have E : Hid (p = false) := hid (by rw [HP.out]; have := HF.out; rw [List.take_length] at this; simp [this])
      go_wp2
      go_ret
      exact ⟨by rw [E.out]; rfl, rfl⟩
theorem rword_any (s : List UInt8) (w : World) : Calls Tryz.prog 93 #[.string ⟨s.toArray⟩] w fun e w' => e = .returned (.int .i64 (wordK s : Nat)) ∧ Ext none' w w' := by
  obtain ⟨b, hb⟩ : ∃ b, b = wordK s := ⟨_, rfl⟩
  rw [← hb]
  unfold wordK at hb
  have HB := hid hb
  clear hb
  have C1 : ∀ w2 b2 cap, Hid (Texts w2 b2 words1) → Calls Tryz.prog 122 #[.string ⟨s.toArray⟩, .slice (some ⟨b2, 0, none⟩) 14 cap] w2 (RetBool (decide (s ∈ words1)) w2) := fun w2 b2 cap h => in_any s b2 words1 cap w2 h.out (by decide)
  have C2 : ∀ w2 b2 cap, Hid (Texts w2 b2 words2) → Calls Tryz.prog 122 #[.string ⟨s.toArray⟩, .slice (some ⟨b2, 0, none⟩) 11 cap] w2 (RetBool (decide (s ∈ words2)) w2) := fun w2 b2 cap h => in_any s b2 words2 cap w2 h.out (by decide)
  have H1 := hid C1
  have H2 := hid C2
  clear C1 C2
  go_enter Tryz.func93, Tryz.ntmps93
  go_wp2_with fail
  refine (H1.out _ _ _ (hid (texts_of (heap_alloc_at rfl _) rfl))).mono ?_
  rintro e w1 ⟨rfl, rfl⟩
  by_cases h1 : s ∈ words1
  · have e1 : decide (s ∈ words1) = true := by simpa using h1
    rw [e1]
    have E : Hid (b = 1) := hid (by rw [HB.out, if_pos h1])
    clear h1 e1
    go_wp2_with fail
    go_ret
    exact ⟨by rw [E.out]; rfl, (Ext.refl _ _).alloc _⟩
  · have e1 : decide (s ∈ words1) = false := by simpa using h1
    rw [e1]
    have HB2 : Hid (b = if s ∈ words2 then 2 else 0) := hid (by rw [HB.out, if_neg h1])
    clear h1 e1
    go_wp2_with fail
    refine (H2.out _ _ _ (hid (texts_of (heap_alloc_at (by simp) _) rfl))).mono ?_
    rintro e w1 ⟨rfl, rfl⟩
    by_cases h1 : s ∈ words2
    · have e1 : decide (s ∈ words2) = true := by simpa using h1
      rw [e1]
      have E : Hid (b = 2) := hid (by rw [HB2.out, if_pos h1])
      clear h1 e1
      go_wp2_with fail
      go_ret
      exact ⟨by rw [E.out]; rfl, ((Ext.refl _ _).alloc _).alloc _⟩
    · have e1 : decide (s ∈ words2) = false := by simpa using h1
      rw [e1]
      have E : Hid (b = 0) := hid (by rw [HB2.out, if_neg h1])
      clear h1 e1
      go_wp2_with fail
      go_ret
      exact ⟨by rw [E.out]; rfl, ((Ext.refl _ _).alloc _).alloc _⟩
end Go.Proofs.YtbhpmmofgdppdaaGreatDoor
