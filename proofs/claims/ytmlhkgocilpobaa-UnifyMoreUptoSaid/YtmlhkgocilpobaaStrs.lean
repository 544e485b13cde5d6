import Derived.Test.YtmlhkgocilpobaaKiFind
/-
  Rows of strings: sources of an append.
-/
namespace Go.Proofs.Ytmlhkgocilpobaa
open Go.RowKit Go.Lib Go.BigFrame
def strVals (l : List (List UInt8)) : List Value := l.map fun s => .string ⟨s.toArray⟩
theorem str_src {P : Program} {tx e' : TypeId} (hk : P.underlying tx = some (.slice e')) {A : Nat → Prop} {w : World} {a : Option Addr} {cap : Nat} {l : List (List UInt8)} (h : IsStrs A w (.slice a l.length cap) l) : Src P 1 tx (.slice a l.length cap) l.length (strVals l) w := by
  by_cases hl : l = []
  · subst hl
    cases a with
    | none => exact Src.ofNil w hk cap
    | some a => exact Src.ofSlice w hk a 0 cap [] (by simp) (fun j u hj => by simp at hj) (fun u hu => by cases hu)
  · obtain ⟨b, off, rfl, _⟩ := h.cell 0 (List.length_pos_iff.2 hl)
    refine Src.ofSlice w hk _ _ cap _ (by simp [strVals]) (fun j u hj => ?_) (fun u hu => ?_)
    · have hjl : j < l.length := by have := (List.getElem?_eq_some_iff.1 hj).1; simpa [strVals] using this
      obtain ⟨b', off', e, hc⟩ := h.cell j hjl
      injection e with e
      injection e with e1 e2
      subst e1 e2
      have ea : (⟨b, off, none⟩ : Addr).add j = ⟨b, off + j, none⟩ := by unfold Addr.add; split <;> simp_all
      rw [ea, hc]
      simpa [strVals, hjl] using hj
    · obtain ⟨t, _, rfl⟩ := List.mem_map.1 hu
      rfl
theorem str_row {A : Nat → Prop} {w : World} {base : Nat} {v : Value} {l : List (List UInt8)} (h : w.ownsRow base 9 1 v l.length (strVals l)) : RowOf 1 9 IsStr A w base v l :=
  ⟨_, h, fun i hi => by
    show ((strVals l).drop (i * 1)).take 1 = [.string ⟨(l[i]).toArray⟩]
    unfold strVals
    rw [Nat.mul_one, ← List.map_drop, List.drop_eq_getElem_cons hi]
    rfl⟩
theorem infoStr : (Try.prog.info? 9).map (fun i => (i.zero, i.size, i.bytes)) = some (some (.string ⟨#[]⟩), 1, 16) := by kernel_rfl
end Go.Proofs.Ytmlhkgocilpobaa
