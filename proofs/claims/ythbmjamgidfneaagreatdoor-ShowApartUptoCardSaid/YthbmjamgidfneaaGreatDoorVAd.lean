import Derived.Test.YthbmjamgidfneaaGreatDoorVAb
import Derived.Lib.Join
import Derived.Shelf.Strings.Builder1
import Derived.Shelf.Strings.Builder2
import Derived.Shelf.Strings.OnBuilder
import Derived.Shelf.Small.Strs
import Derived.Shelf.Strings.BuilderF
import Derived.Shelf.Utf8.RuneCount
import Derived.Shelf.Strings.Builder2Cap
import Derived.Shelf.Strings.Search1
import Derived.Shelf.Strings.Search2
import Derived.Shelf.Strings.Search3
import Derived.Shelf.Strings.Cut
import Derived.Shelf.Strings.Count
import Derived.Shelf.LaysM
import Derived.Shelf.Strings.Shaped
import Derived.Shelf.Strings.Prefix
import Derived.Shelf.Strings.Split
import Derived.Shelf.Strings.Replace
import Derived.Shelf.Strings.SplitShaped
import Derived.Shelf.Unicode.Decode
import Derived.Shelf.Strings.RuneCount
import Derived.Shelf.Bits.Mul64
import Derived.Shelf.Strings.Repeat
import Derived.Shelf.Unicode.DecodeSlow
import Derived.Shelf.Unicode.DecodeAny
import Derived.Test.YthbmjamgidfneaaGreatDoorProg
set_option maxRecDepth 100000
set_option maxHeartbeats 6400000
namespace Go.Proofs.YthbmjamgidfneaaGreatDoor
open Go.RowKit Go.Lib Go.BigFrame
def strVals (l : List (List UInt8)) : List Value := l.map fun s => .string ⟨s.toArray⟩
theorem str_row {A : Nat → Prop} {w : World} {base : Nat} {v : Value} {l : List (List UInt8)} (h : w.ownsRow base 9 1 v l.length (strVals l)) : RowOf 1 9 IsStr A w base v l :=
 ⟨_, h, fun i hi => by
  show ((strVals l).drop (i * 1)).take 1 = [.string ⟨(l[i]).toArray⟩]
  unfold strVals
  rw [Nat.mul_one, ← List.map_drop, List.drop_eq_getElem_cons hi]
  rfl⟩
theorem infoStr : (Tryz.prog.info? 9).map (fun i => (i.zero, i.size, i.bytes)) = some (some (.string ⟨#[]⟩), 1, 16) := by kernel_rfl
end Go.Proofs.YthbmjamgidfneaaGreatDoor
namespace Go.Proofs.YthbmjamgidfneaaGreatDoor
open Go.RowKit Go.Lib
def Nd.zero : Nd := .mk 0 [] [] 0
def Nd.kid (t : Nd) (i : Nat) : Nd := t.kids.getD i Nd.zero
def betw (sep : List UInt8) (parts : List (List UInt8)) : List UInt8 := Lib.join (parts.filter fun p => !p.isEmpty) sep
theorem join_take (l : List (List UInt8)) (sep : List UInt8) : (Lib.join l sep).length ≤ sep.length * l.length + Lib.lens l := by
 cases l with
 | nil => simp [Lib.join_nil]
 | cons x r => rw [Lib.join_length]; have := Nat.mul_le_mul_left sep.length (show r.length ≤ (x :: r).length by simp); omega
theorem lens_filter (p : List UInt8 → Bool) (l : List (List UInt8)) : Lib.lens (l.filter p) ≤ Lib.lens l := by
 induction l with
 | nil => simp
 | cons a r ih =>
  by_cases h : p a = true
  · rw [List.filter_cons_of_pos h]; simp only [Lib.lens, List.map_cons, List.sum_cons] at ih ⊢; omega
  · rw [List.filter_cons_of_neg h]; simp only [Lib.lens, List.map_cons, List.sum_cons] at ih ⊢; omega
theorem betw_len (sep : List UInt8) (l : List (List UInt8)) : (betw sep l).length ≤ sep.length * l.length + Lib.lens l := by
 have h1 := join_take (l.filter fun p => !p.isEmpty) sep
 have h2 := lens_filter (fun p => !p.isEmpty) l
 have h3 := Nat.mul_le_mul_left sep.length (List.length_filter_le (fun p => !p.isEmpty) l)
 unfold betw
 omega
def optT (p : Nd → List UInt8) (t : Nd) : List UInt8 := if t.kind = 0 then [] else p t
def parF (p : Nd → List UInt8) (t : Nd) : List UInt8 := betw [32] [t.text, p (t.kid 0)]
def sComma : List UInt8 := [44, 32]
def sigF (p : Nd → List UInt8) (t : Nd) : List UInt8 := betw [32] [([102, 117, 110, 99, 40] ++ Lib.join ((t.kid 0).kids.map (parF p)) sComma) ++ [41], optT p (t.kid 1)]
def typF : Nat → Nd → List UInt8
 | 0, _ => []
 | f + 1, t => if t.kind = 11 then [91, 93] ++ typF f (t.kid 0) else if t.kind = 12 then sigF (typF f) t else if t.kids = [] then t.text else ((t.text ++ [91]) ++ Lib.join (t.kids.map (typF f)) sComma) ++ [93]
theorem lens_size {p : Nd → List UInt8} : ∀ {l : List Nd}, (∀ x ∈ l, (p x).length + 4 ≤ 200 * x.size) → Lib.lens (l.map p) + 4 * l.length ≤ 200 * Nd.sizeL l
 | [], _ => by simp [Lib.lens]
 | x :: r, h => by
  have h1 := h x (by simp)
  have h2 := lens_size (p := p) (l := r) fun y hy => h y (by simp [hy])
  simp only [Lib.lens, List.map_cons, List.sum_cons, List.length_cons, Nd.sizeL] at h2 ⊢
  omega
theorem one_kid {ps : Nd → Bool} {l : List Nd} (h : kidsB [ps] l = true) : ∃ x, l = [x] ∧ ps x = true := by
 have hl := kidsB_len h
 match l, hl with
 | [x], _ => exact ⟨x, rfl, by simpa [kidsB] using h⟩
theorem two_kids {p q : Nd → Bool} {l : List Nd} (h : kidsB [p, q] l = true) : ∃ x y, l = [x, y] ∧ p x = true ∧ q y = true := by
 have hl := kidsB_len h
 match l, hl with
 | [x, y], _ => exact ⟨x, y, rfl, by simpa [kidsB] using h⟩
theorem ofB_parts {k : Int} {ps : List (Nd → Bool)} {t : Nd} (h : ofB k ps t = true) : t.kind = k ∧ t.text = [] ∧ kidsB ps t.kids = true := by
 unfold ofB at h
 simp only [Bool.and_eq_true, beq_iff_eq] at h
 exact ⟨h.1.1, h.1.2, h.2⟩
theorem namB_parts {so : List UInt8 → Bool} {k : Int} {ps : List (Nd → Bool)} {t : Nd} (h : namB so k ps t = true) : t.kind = k ∧ so t.text = true ∧ kidsB ps t.kids = true := by
 unfold namB at h
 simp only [Bool.and_eq_true, beq_iff_eq] at h
 exact ⟨h.1.1, h.1.2, h.2⟩
theorem listB_parts {p : Nd → Bool} {t : Nd} (h : listB p t = true) : t.kind = 6 ∧ t.text = [] ∧ ∀ x ∈ t.kids, p x = true := by
 unfold listB at h
 simp only [Bool.and_eq_true, beq_iff_eq, List.all_eq_true] at h
 exact ⟨h.1.1, h.1.2, h.2⟩
theorem emptyB_kind {t : Nd} (h : emptyB t = true) : t.kind = 0 := by
 unfold emptyB at h
 simp only [Bool.and_eq_true, beq_iff_eq] at h
 exact h.1.1
theorem tyF_kind {nm : List UInt8 → Bool} {f : Nat} {t : Nd} (h : tyF nm f t = true) : t.kind = 10 ∨ t.kind = 11 ∨ t.kind = 12 := by
 cases f with
 | zero => cases h
 | succ f =>
  rw [tyF] at h
  split at h
  · exact .inl ‹_›
  split at h
  · exact .inr (.inl ‹_›)
  split at h
  · exact .inr (.inr ‹_›)
  cases h
theorem sigB_parts {ty : Nd → Bool} {so : List UInt8 → Bool} {t : Nd} (h : sigB ty so t = true) : t.kind = 12 ∧ t.text = [] ∧ ∃ l r, t.kids = [l, r] ∧ l.kind = 6 ∧ l.text = [] ∧ (∀ x ∈ l.kids, x.kind = 8 ∧ so x.text = true ∧ ∃ y, x.kids = [y] ∧ ty y = true) ∧ (emptyB r = true ∨ ty r = true) := by
 obtain ⟨h1, h2, h3⟩ := ofB_parts h
 obtain ⟨l, r, hl, h4, h5⟩ := two_kids h3
 obtain ⟨h6, h7, h8⟩ := listB_parts h4
 refine ⟨h1, h2, l, r, hl, h6, h7, fun x hx => ?_, by simpa using h5⟩
 obtain ⟨g1, g2, g3⟩ := namB_parts (h8 x hx)
 exact ⟨g1, g2, one_kid g3⟩
theorem sigF_len {ty : Nd → Bool} {so : List UInt8 → Bool} {p : Nd → List UInt8} {t : Nd} (hso : ∀ s, so s = true → s.length ≤ 100) (h : sigB ty so t = true) (hp : ∀ x, x.size < t.size → ty x = true → (p x).length + 4 ≤ 200 * x.size) :
  (sigF p t).length + 4 ≤ 200 * t.size ∧ (Lib.join ((t.kid 0).kids.map (parF p)) sComma).length + 4 ≤ 200 * (t.kid 0).size ∧ (optT p (t.kid 1)).length ≤ 200 * (t.kid 1).size ∧ (∀ x ∈ (t.kid 0).kids, (parF p x).length + 4 ≤ 200 * x.size) := by
 obtain ⟨_, _, l, r, hk, _, _, hps, hr⟩ := sigB_parts h
 have e0 : t.kid 0 = l := by unfold Nd.kid; rw [hk]; rfl
 have e1 : t.kid 1 = r := by unfold Nd.kid; rw [hk]; rfl
 have hst : 1 + l.size + r.size ≤ t.size := by
  cases t with
  | mk k n kids ps => simp only [Nd.kids] at hk; subst hk; simp only [Nd.size, Nd.sizeL]; omega
 have hsl : 1 + Nd.sizeL l.kids ≤ l.size := by
  cases l with
  | mk k n kids ps => simp only [Nd.size, Nd.kids]; omega
 have hpar : ∀ x ∈ l.kids, (parF p x).length + 4 ≤ 200 * x.size := fun x hx => by
  obtain ⟨_, h2, y, hy, hty⟩ := hps x hx
  have hxs : 1 + y.size ≤ x.size := by
   cases x with
   | mk k n kids ps => simp only [Nd.kids] at hy; subst hy; simp only [Nd.size, Nd.sizeL]; omega
  have h3 := Nd.sizeL_mem hx
  have h4 := hp y (by omega) hty
  have e : x.kid 0 = y := by unfold Nd.kid; rw [hy]; rfl
  have h5 := betw_len [32] [x.text, p y]
  have h6 := hso _ h2
  unfold parF
  rw [e]
  simp [Lib.lens] at h5
  omega
 have hj := join_take (l.kids.map (parF p)) sComma
 have hls := lens_size (p := parF p) hpar
 rw [List.length_map] at hj
 have hc : sComma.length = 2 := rfl
 rw [hc] at hj
 have hr2 : (optT p r).length ≤ 200 * r.size := by
  unfold optT
  split
  · simp
  · rcases hr with hr | hr
    · exact absurd (emptyB_kind hr) ‹_›
    · have := hp r (by omega) hr; omega
 refine ⟨?_, by rw [e0]; omega, by rw [e1]; exact hr2, by rw [e0]; exact hpar⟩
 have h5 := betw_len [32] [([102, 117, 110, 99, 40] ++ Lib.join ((t.kid 0).kids.map (parF p)) sComma) ++ [41], optT p (t.kid 1)]
 unfold sigF
 rw [e0, e1] at h5 ⊢
 simp only [Lib.lens, List.map_cons, List.map_nil, List.sum_cons, List.sum_nil, List.length_append, List.length_cons, List.length_nil] at h5
 omega
theorem typF_len {nm : List UInt8 → Bool} (hnm : ∀ s, nm s = true → s.length ≤ 100) : ∀ (f : Nat) (t : Nd), tyF nm f t = true → t.size ≤ f → (typF f t).length + 4 ≤ 200 * t.size := by
 intro f
 induction f with
 | zero => intro t h; cases h
 | succ f ih =>
  intro t h hs
  rw [tyF] at h
  rw [typF]
  split at h
  · rename_i hk
    rw [if_neg (by omega), if_neg (by omega)]
    simp only [Bool.and_eq_true, List.all_eq_true] at h
    have h1 := hnm _ h.1
    have hts := t.size_pos
    split
    · omega
    · have hst : 1 + Nd.sizeL t.kids ≤ t.size := by
       cases t with
       | mk k n kids ps => simp only [Nd.size, Nd.kids]; omega
      have hls := lens_size (p := typF f) (l := t.kids) fun x hx => ih x (h.2 x hx) (by have := Nd.size_kid hx; omega)
      have hj := join_take (t.kids.map (typF f)) sComma
      rw [List.length_map] at hj
      have hc : sComma.length = 2 := rfl
      rw [hc] at hj
      simp only [List.length_append, List.length_cons, List.length_nil]
      omega
  · split at h
    · rename_i hk
      rw [if_pos hk]
      obtain ⟨_, _, h3⟩ := ofB_parts h
      obtain ⟨x, hx, htx⟩ := one_kid h3
      have e : t.kid 0 = x := by unfold Nd.kid; rw [hx]; rfl
      have hst : 1 + x.size ≤ t.size := by
       cases t with
       | mk k n kids ps => simp only [Nd.kids] at hx; subst hx; simp only [Nd.size, Nd.sizeL]; omega
      have := ih x htx (by omega)
      rw [e]
      simp only [List.length_append, List.length_cons, List.length_nil]
      omega
    · split at h
      · rename_i hk
        rw [if_neg (by omega), if_pos hk]
        exact (sigF_len (so := noT) (fun s hs => by unfold noT at hs; simp at hs; subst hs; simp) h fun x hx htx => ih x htx (by omega)).1
      · cases h
end Go.Proofs.YthbmjamgidfneaaGreatDoor
namespace Go.Proofs
open Go.Shelf
def Tryz.lays156_ren : Go.Shelf.Ren := ⟨fun | 156 => 91 | 165 => 93 | 166 => 95 | 169 => 97 | 240 => 129 | 241 => 130 | 276 => 169 | 277 => 170 | n => n, fun | 31 => 84 | 9 => 9 | 3 => 3 | 4 => 4 | 0 => 0 | 20 => 20 | 72 => 90 | 76 => 93 | 70 => 88 | 37 => 37 | 75 => 92 | 127 => 117 | 164 => 133 | 5 => 5 | 80 => 96 | n => n, fun | n => n⟩
theorem Tryz.lays156 : Go.Proofs.Lays.n156 Tryz.prog Tryz.lays156_ren := {
 mixed := by kernel_rfl
 f156 := Tryz.func91.trans (congrArg some (by kernel_rfl))
 f165 := Tryz.func93.trans (congrArg some (by kernel_rfl))
 f166 := Tryz.func95.trans (congrArg some (by kernel_rfl))
 f169 := Tryz.func97.trans (congrArg some (by kernel_rfl))
 f240 := Tryz.func129.trans (congrArg some (by kernel_rfl))
 f241 := Tryz.func130.trans (congrArg some (by kernel_rfl))
 f276 := Tryz.func169.trans (congrArg some (by kernel_rfl))
 f277 := Tryz.func170.trans (congrArg some (by kernel_rfl))
 t0 := Tryz.underlying0
 a0 := Tryz.isAgg0
 z0 := Tryz.sizeOf0
 v0 := Tryz.zeroValue0
 t3 := Tryz.underlying3
 a3 := Tryz.isAgg3
 z3 := Tryz.sizeOf3
 v3 := Tryz.zeroValue3
 t4 := Tryz.underlying4
 a4 := Tryz.isAgg4
 z4 := Tryz.sizeOf4
 v4 := Tryz.zeroValue4
 t9 := Tryz.underlying9
 a9 := Tryz.isAgg9
 z9 := Tryz.sizeOf9
 v9 := Tryz.zeroValue9
 t20 := Tryz.underlying20
 a20 := Tryz.isAgg20
 z20 := Tryz.sizeOf20
 v20 := Tryz.zeroValue20
 t31 := Tryz.underlying84
 a31 := Tryz.isAgg84
 z31 := Tryz.sizeOf84
 v31 := Tryz.zeroValue84
 t37 := Tryz.underlying37
 a37 := Tryz.isAgg37
 z37 := Tryz.sizeOf37
 v37 := Tryz.zeroValue37
 t70 := Tryz.underlying88
 a70 := Tryz.isAgg88
 z70 := Tryz.sizeOf88
 v70 := Tryz.zeroValue88
 t72 := Tryz.underlying90
 a72 := Tryz.isAgg90
 z72 := Tryz.sizeOf90
 v72 := Tryz.zeroValue90
 t75 := Tryz.underlying92
 a75 := Tryz.isAgg92
 z75 := Tryz.sizeOf92
 v75 := Tryz.zeroValue92
 t76 := Tryz.underlying93
 a76 := Tryz.isAgg93
 z76 := Tryz.sizeOf93
 v76 := Tryz.zeroValue93
 t127 := Tryz.underlying117
 a127 := Tryz.isAgg117
 z127 := Tryz.sizeOf117
 v127 := Tryz.zeroValue117
 t164 := Tryz.underlying133
 a164 := Tryz.isAgg133
 z164 := Tryz.sizeOf133
 v164 := Tryz.zeroValue133 }
theorem Tryz.Builder_Extra_156 : Builder.Extra Tryz.prog Tryz.lays156_ren := {
 sizeBuilder := by kernel_rfl
 liesBuilder := by kernel_rfl
 t5 := Tryz.underlying5
 a5 := Tryz.isAgg5
 z5 := Tryz.sizeOf5
 v5 := Tryz.zeroValue5
 infoByte := by kernel_rfl
 cellsByte := by kernel_rfl
 sizeByte := by kernel_rfl
 neB5 := by decide }
open Go.RowKit in
theorem Tryz.strings_Join_none (a : Option Addr) (c : Nat) (sep : ByteArray) (w : World) :
  Calls Tryz.prog 91 #[.slice a 0 c, .string sep] w fun e w' => e = .returned (.string ⟨#[]⟩) ∧ w' = w := Any.strings_Join_none Tryz.lays156 Tryz.Builder_Extra_156 a c sep w
open Go.RowKit in
theorem Tryz.strings_Join (bk o c : Nat) (xs : List ByteArray) (sep : ByteArray) (w : World) (hcells : ∀ (j : Nat) x, xs[j]? = some x → w.cell? ⟨bk, o + j, none⟩ = some (.string x)) (hbk : bk < w.heap.size) (hN : xs.length ≤ 140737488355328) (hcap : xs.length ≤ c) (hlen : (Lib.join (xs.map (·.data.toList)) sep.data.toList).length ≤ 140737488355328) :
  Calls Tryz.prog 91 #[.slice (some ⟨bk, o, none⟩) xs.length c, .string sep] w fun e w' => e = .returned (.string ⟨(Lib.join (xs.map (·.data.toList)) sep.data.toList).toArray⟩) ∧ Below w.heap.size w w' := Any.strings_Join Tryz.lays156 Tryz.Builder_Extra_156 bk o c xs sep w hcells hbk hN hcap hlen
def Tryz.lays144_ren : Go.Shelf.Ren := ⟨fun | 144 => 164 | 143 => 94 | 219 => 131 | 217 => 171 | 225 => 172 | 224 => 173 | 267 => 174 | 266 => 189 | 314 => 190 | n => n, fun | 9 => 9 | 4 => 4 | 3 => 3 | 5 => 5 | 46 => 86 | 146 => 128 | 51 => 127 | n => n, fun | 1 => 2 | n => n⟩
theorem Tryz.lays144 : Go.Proofs.Lays.n144 Tryz.prog Tryz.lays144_ren := {
 mixed := by kernel_rfl
 f143 := Tryz.func94.trans (congrArg some (by kernel_rfl))
 f144 := Tryz.func164.trans (congrArg some (by kernel_rfl))
 f217 := Tryz.func171.trans (congrArg some (by kernel_rfl))
 f219 := Tryz.func131.trans (congrArg some (by kernel_rfl))
 f224 := Tryz.func173.trans (congrArg some (by kernel_rfl))
 f225 := Tryz.func172.trans (congrArg some (by kernel_rfl))
 f266 := Tryz.func189.trans (congrArg some (by kernel_rfl))
 f267 := Tryz.func174.trans (congrArg some (by kernel_rfl))
 f314 := Tryz.func190.trans (congrArg some (by kernel_rfl))
 t3 := Tryz.underlying3
 a3 := Tryz.isAgg3
 z3 := Tryz.sizeOf3
 v3 := Tryz.zeroValue3
 t4 := Tryz.underlying4
 a4 := Tryz.isAgg4
 z4 := Tryz.sizeOf4
 v4 := Tryz.zeroValue4
 t5 := Tryz.underlying5
 a5 := Tryz.isAgg5
 z5 := Tryz.sizeOf5
 v5 := Tryz.zeroValue5
 t9 := Tryz.underlying9
 a9 := Tryz.isAgg9
 z9 := Tryz.sizeOf9
 v9 := Tryz.zeroValue9
 t46 := Tryz.underlying86
 a46 := Tryz.isAgg86
 z46 := Tryz.sizeOf86
 v46 := Tryz.zeroValue86
 t51 := Tryz.underlying127
 a51 := Tryz.isAgg127
 z51 := Tryz.sizeOf127
 v51 := Tryz.zeroValue127
 t146 := Tryz.underlying128
 a146 := Tryz.isAgg128
 z146 := Tryz.sizeOf128
 v146 := Tryz.zeroValue128
 g1 := by kernel_rfl }
open Go.RowKit Go.Lib in
theorem Tryz.strings_Contains_one (s : ByteArray) (c : UInt8) (w : World) :
  Calls Tryz.prog 164 #[.string s, .string ⟨#[c]⟩] w fun e w' => e = .returned (.bool (decide (0 ≤ Lib.indexByte s.data.toList c))) ∧ w' = w := Any.strings_Contains_one Tryz.lays144 s c w
open Go.RowKit Go.Lib in
theorem Tryz.strings_Contains (s sub : ByteArray) (m : Int) (w : World) (hs : s.size < 4294967281) (hm : w.cell? ⟨2, 0, none⟩ = some (.int .i64 m)) :
  Calls Tryz.prog 164 #[.string s, .string sub] w fun e w' => e = .returned (.bool (Lib.contains s.data.toList sub.data.toList)) ∧ w' = w := Any.strings_Contains Tryz.lays144 s sub m w hs hm
def Tryz.lays145_ren : Go.Shelf.Ren := ⟨fun | 145 => 188 | 220 => 191 | 219 => 131 | 217 => 171 | 225 => 172 | 224 => 173 | 267 => 174 | 266 => 189 | 314 => 190 | n => n, fun | 9 => 9 | 4 => 4 | 59 => 140 | 3 => 3 | 5 => 5 | 46 => 86 | 146 => 128 | 51 => 127 | n => n, fun | 1 => 2 | n => n⟩
theorem Tryz.lays145 : Go.Proofs.Lays.n145 Tryz.prog Tryz.lays145_ren := {
 mixed := by kernel_rfl
 f145 := Tryz.func188.trans (congrArg some (by kernel_rfl))
 f217 := Tryz.func171.trans (congrArg some (by kernel_rfl))
 f219 := Tryz.func131.trans (congrArg some (by kernel_rfl))
 f220 := Tryz.func191.trans (congrArg some (by kernel_rfl))
 f224 := Tryz.func173.trans (congrArg some (by kernel_rfl))
 f225 := Tryz.func172.trans (congrArg some (by kernel_rfl))
 f266 := Tryz.func189.trans (congrArg some (by kernel_rfl))
 f267 := Tryz.func174.trans (congrArg some (by kernel_rfl))
 f314 := Tryz.func190.trans (congrArg some (by kernel_rfl))
 t3 := Tryz.underlying3
 a3 := Tryz.isAgg3
 z3 := Tryz.sizeOf3
 v3 := Tryz.zeroValue3
 t4 := Tryz.underlying4
 a4 := Tryz.isAgg4
 z4 := Tryz.sizeOf4
 v4 := Tryz.zeroValue4
 t5 := Tryz.underlying5
 a5 := Tryz.isAgg5
 z5 := Tryz.sizeOf5
 v5 := Tryz.zeroValue5
 t9 := Tryz.underlying9
 a9 := Tryz.isAgg9
 z9 := Tryz.sizeOf9
 v9 := Tryz.zeroValue9
 t46 := Tryz.underlying86
 a46 := Tryz.isAgg86
 z46 := Tryz.sizeOf86
 v46 := Tryz.zeroValue86
 t51 := Tryz.underlying127
 a51 := Tryz.isAgg127
 z51 := Tryz.sizeOf127
 v51 := Tryz.zeroValue127
 t59 := Tryz.underlying140
 a59 := Tryz.isAgg140
 z59 := Tryz.sizeOf140
 v59 := Tryz.zeroValue140
 t146 := Tryz.underlying128
 a146 := Tryz.isAgg128
 z146 := Tryz.sizeOf128
 v146 := Tryz.zeroValue128
 g1 := by kernel_rfl }
open Go.RowKit Go.Lib in
theorem Tryz.strings_Cut (s sep : ByteArray) (m : Int) (w : World) (hs : s.size < 4294967281) (hm : w.cell? ⟨2, 0, none⟩ = some (.int .i64 m)) :
  Calls Tryz.prog 188 #[.string s, .string sep] w fun e w' => e = .returned (.tuple #[.string ⟨(Lib.cut s.data.toList sep.data.toList).1.toArray⟩, .string ⟨(Lib.cut s.data.toList sep.data.toList).2.1.toArray⟩, .bool (Lib.cut s.data.toList sep.data.toList).2.2]) ∧ ∃ n, w' = w.drewN n := Any.strings_Cut Tryz.lays145 s sep m w hs hm
def Tryz.lays101_ren : Go.Shelf.Ren := ⟨fun | 101 => 87 | 208 => 123 | 206 => 161 | n => n, fun | 9 => 9 | 4 => 4 | 3 => 3 | n => n, fun | n => n⟩
theorem Tryz.lays101 : Go.Proofs.Lays.n101 Tryz.prog Tryz.lays101_ren := {
 mixed := by kernel_rfl
 f101 := Tryz.func87.trans (congrArg some (by kernel_rfl))
 f206 := Tryz.func161.trans (congrArg some (by kernel_rfl))
 f208 := Tryz.func123.trans (congrArg some (by kernel_rfl))
 t3 := Tryz.underlying3
 a3 := Tryz.isAgg3
 z3 := Tryz.sizeOf3
 v3 := Tryz.zeroValue3
 t4 := Tryz.underlying4
 a4 := Tryz.isAgg4
 z4 := Tryz.sizeOf4
 v4 := Tryz.zeroValue4
 t9 := Tryz.underlying9
 a9 := Tryz.isAgg9
 z9 := Tryz.sizeOf9
 v9 := Tryz.zeroValue9 }
open Go.RowKit Go.Lib in
theorem Tryz.strings_TrimPrefix (s p : ByteArray) (w : World) :
  Calls Tryz.prog 87 #[.string s, .string p] w fun e w' => e = .returned (.string ⟨(Lib.trimPrefix s.data.toList p.data.toList).toArray⟩) ∧ w' = w := Any.strings_TrimPrefix Tryz.lays101 s p w
def Tryz.lays102_ren : Go.Shelf.Ren := ⟨fun | 102 => 88 | 209 => 124 | 207 => 166 | n => n, fun | 9 => 9 | 4 => 4 | 3 => 3 | n => n, fun | n => n⟩
theorem Tryz.lays102 : Go.Proofs.Lays.n102 Tryz.prog Tryz.lays102_ren := {
 mixed := by kernel_rfl
 f102 := Tryz.func88.trans (congrArg some (by kernel_rfl))
 f207 := Tryz.func166.trans (congrArg some (by kernel_rfl))
 f209 := Tryz.func124.trans (congrArg some (by kernel_rfl))
 t3 := Tryz.underlying3
 a3 := Tryz.isAgg3
 z3 := Tryz.sizeOf3
 v3 := Tryz.zeroValue3
 t4 := Tryz.underlying4
 a4 := Tryz.isAgg4
 z4 := Tryz.sizeOf4
 v4 := Tryz.zeroValue4
 t9 := Tryz.underlying9
 a9 := Tryz.isAgg9
 z9 := Tryz.sizeOf9
 v9 := Tryz.zeroValue9 }
open Go.RowKit Go.Lib in
theorem Tryz.strings_TrimSuffix (s p : ByteArray) (w : World) (hs : s.size ≤ 9223372036854775807) :
  Calls Tryz.prog 88 #[.string s, .string p] w fun e w' => e = .returned (.string ⟨(Lib.trimSuffix s.data.toList p.data.toList).toArray⟩) ∧ w' = w := Any.strings_TrimSuffix Tryz.lays102 s p w hs
def Tryz.lays154_ren : Go.Shelf.Ren := ⟨fun | 154 => 59 | 138 => 92 | 165 => 93 | 143 => 94 | 166 => 95 | 197 => 96 | 169 => 97 | 195 => 127 | 218 => 128 | 240 => 129 | 241 => 130 | 219 => 131 | 260 => 132 | 276 => 169 | 277 => 170 | 217 => 171 | 225 => 172 | 224 => 173 | 267 => 174 | 266 => 189 | 314 => 190 | n => n, fun | 9 => 9 | 3 => 3 | 4 => 4 | 72 => 90 | 0 => 0 | 76 => 93 | 105 => 60 | 21 => 21 | 5 => 5 | 70 => 88 | 20 => 20 | 37 => 37 | 75 => 92 | 127 => 117 | 164 => 133 | 46 => 86 | 119 => 109 | 139 => 112 | 138 => 111 | 146 => 128 | 51 => 127 | 80 => 96 | n => n, fun | 1 => 2 | 3 => 0 | 4 => 1 | n => n⟩
theorem Tryz.lays154 : Go.Proofs.Lays.n154 Tryz.prog Tryz.lays154_ren := {
 mixed := by kernel_rfl
 f138 := Tryz.func92.trans (congrArg some (by kernel_rfl))
 f143 := Tryz.func94.trans (congrArg some (by kernel_rfl))
 f154 := Tryz.func59.trans (congrArg some (by kernel_rfl))
 f165 := Tryz.func93.trans (congrArg some (by kernel_rfl))
 f166 := Tryz.func95.trans (congrArg some (by kernel_rfl))
 f169 := Tryz.func97.trans (congrArg some (by kernel_rfl))
 f195 := Tryz.func127.trans (congrArg some (by kernel_rfl))
 f197 := Tryz.func96.trans (congrArg some (by kernel_rfl))
 f217 := Tryz.func171.trans (congrArg some (by kernel_rfl))
 f218 := Tryz.func128.trans (congrArg some (by kernel_rfl))
 f219 := Tryz.func131.trans (congrArg some (by kernel_rfl))
 f224 := Tryz.func173.trans (congrArg some (by kernel_rfl))
 f225 := Tryz.func172.trans (congrArg some (by kernel_rfl))
 f240 := Tryz.func129.trans (congrArg some (by kernel_rfl))
 f241 := Tryz.func130.trans (congrArg some (by kernel_rfl))
 f260 := Tryz.func132.trans (congrArg some (by kernel_rfl))
 f266 := Tryz.func189.trans (congrArg some (by kernel_rfl))
 f267 := Tryz.func174.trans (congrArg some (by kernel_rfl))
 f276 := Tryz.func169.trans (congrArg some (by kernel_rfl))
 f277 := Tryz.func170.trans (congrArg some (by kernel_rfl))
 f314 := Tryz.func190.trans (congrArg some (by kernel_rfl))
 t0 := Tryz.underlying0
 a0 := Tryz.isAgg0
 z0 := Tryz.sizeOf0
 v0 := Tryz.zeroValue0
 t3 := Tryz.underlying3
 a3 := Tryz.isAgg3
 z3 := Tryz.sizeOf3
 v3 := Tryz.zeroValue3
 t4 := Tryz.underlying4
 a4 := Tryz.isAgg4
 z4 := Tryz.sizeOf4
 v4 := Tryz.zeroValue4
 t5 := Tryz.underlying5
 a5 := Tryz.isAgg5
 z5 := Tryz.sizeOf5
 v5 := Tryz.zeroValue5
 t9 := Tryz.underlying9
 a9 := Tryz.isAgg9
 z9 := Tryz.sizeOf9
 v9 := Tryz.zeroValue9
 t20 := Tryz.underlying20
 a20 := Tryz.isAgg20
 z20 := Tryz.sizeOf20
 v20 := Tryz.zeroValue20
 t21 := Tryz.underlying21
 a21 := Tryz.isAgg21
 z21 := Tryz.sizeOf21
 v21 := Tryz.zeroValue21
 t37 := Tryz.underlying37
 a37 := Tryz.isAgg37
 z37 := Tryz.sizeOf37
 v37 := Tryz.zeroValue37
 t46 := Tryz.underlying86
 a46 := Tryz.isAgg86
 z46 := Tryz.sizeOf86
 v46 := Tryz.zeroValue86
 t51 := Tryz.underlying127
 a51 := Tryz.isAgg127
 z51 := Tryz.sizeOf127
 v51 := Tryz.zeroValue127
 t70 := Tryz.underlying88
 a70 := Tryz.isAgg88
 z70 := Tryz.sizeOf88
 v70 := Tryz.zeroValue88
 t72 := Tryz.underlying90
 a72 := Tryz.isAgg90
 z72 := Tryz.sizeOf90
 v72 := Tryz.zeroValue90
 t75 := Tryz.underlying92
 a75 := Tryz.isAgg92
 z75 := Tryz.sizeOf92
 v75 := Tryz.zeroValue92
 t76 := Tryz.underlying93
 a76 := Tryz.isAgg93
 z76 := Tryz.sizeOf93
 v76 := Tryz.zeroValue93
 t105 := Tryz.underlying60
 a105 := Tryz.isAgg60
 z105 := Tryz.sizeOf60
 v105 := Tryz.zeroValue60
 t119 := Tryz.underlying109
 a119 := Tryz.isAgg109
 z119 := Tryz.sizeOf109
 t127 := Tryz.underlying117
 a127 := Tryz.isAgg117
 z127 := Tryz.sizeOf117
 v127 := Tryz.zeroValue117
 t138 := Tryz.underlying111
 a138 := Tryz.isAgg111
 z138 := Tryz.sizeOf111
 v138 := Tryz.zeroValue111
 t139 := Tryz.underlying112
 a139 := Tryz.isAgg112
 z139 := Tryz.sizeOf112
 v139 := Tryz.zeroValue112
 t146 := Tryz.underlying128
 a146 := Tryz.isAgg128
 z146 := Tryz.sizeOf128
 v146 := Tryz.zeroValue128
 t164 := Tryz.underlying133
 a164 := Tryz.isAgg133
 z164 := Tryz.sizeOf133
 v164 := Tryz.zeroValue133
 g1 := by kernel_rfl
 g3 := by kernel_rfl
 g4 := by kernel_rfl }
theorem Tryz.Builder_Extra_154 : Builder.Extra Tryz.prog Tryz.lays154_ren := {
 sizeBuilder := by kernel_rfl
 liesBuilder := by kernel_rfl
 t5 := Tryz.underlying5
 a5 := Tryz.isAgg5
 z5 := Tryz.sizeOf5
 v5 := Tryz.zeroValue5
 infoByte := by kernel_rfl
 cellsByte := by kernel_rfl
 sizeByte := by kernel_rfl
 neB5 := by decide }
open Go.RowKit Go.Lib in
theorem Tryz.strings_Replace (s old new : ByteArray) (n : Int) (m : Int) (w : World) (hs : s.size < 4294967281) (hm : w.cell? ⟨2, 0, none⟩ = some (.int .i64 m)) (h1 : 1 ≤ old.size) (hlen : s.size + Lib.countB s old * new.size ≤ 140737488355328) :
  Calls Tryz.prog 59 #[.string s, .string old, .string new, .int .i64 n] w fun e w' =>
   e = .returned (.string ⟨(Lib.replace s.data.toList old.data.toList new.data.toList n).toArray⟩) ∧ Below w.heap.size w w' := Any.strings_Replace Tryz.lays154 Tryz.Builder_Extra_154 s old new n m w hs hm h1 hlen
def Tryz.lays105_ren : Go.Shelf.Ren := ⟨fun | 105 => 89 | 212 => 125 | 99 => 111 | 165 => 93 | 166 => 95 | 170 => 126 | 169 => 97 | 263 => 167 | 264 => 168 | 206 => 161 | 240 => 129 | 241 => 130 | 276 => 169 | 277 => 170 | n => n, fun | 9 => 9 | 3 => 3 | 4 => 4 | 20 => 20 | 0 => 0 | 46 => 86 | 109 => 113 | 5 => 5 | 72 => 90 | 76 => 93 | 51 => 127 | 146 => 128 | 53 => 130 | 148 => 131 | 70 => 88 | 37 => 37 | 75 => 92 | 127 => 117 | 164 => 133 | 80 => 96 | n => n, fun | n => n⟩
theorem Tryz.lays105 : Go.Proofs.Lays.n105 Tryz.prog Tryz.lays105_ren := {
 mixed := by kernel_rfl
 f99 := Tryz.func111.trans (congrArg some (by kernel_rfl))
 f105 := Tryz.func89.trans (congrArg some (by kernel_rfl))
 f165 := Tryz.func93.trans (congrArg some (by kernel_rfl))
 f166 := Tryz.func95.trans (congrArg some (by kernel_rfl))
 f169 := Tryz.func97.trans (congrArg some (by kernel_rfl))
 f170 := Tryz.func126.trans (congrArg some (by kernel_rfl))
 f206 := Tryz.func161.trans (congrArg some (by kernel_rfl))
 f212 := Tryz.func125.trans (congrArg some (by kernel_rfl))
 f240 := Tryz.func129.trans (congrArg some (by kernel_rfl))
 f241 := Tryz.func130.trans (congrArg some (by kernel_rfl))
 f263 := Tryz.func167.trans (congrArg some (by kernel_rfl))
 f264 := Tryz.func168.trans (congrArg some (by kernel_rfl))
 f276 := Tryz.func169.trans (congrArg some (by kernel_rfl))
 f277 := Tryz.func170.trans (congrArg some (by kernel_rfl))
 t0 := Tryz.underlying0
 a0 := Tryz.isAgg0
 z0 := Tryz.sizeOf0
 v0 := Tryz.zeroValue0
 t3 := Tryz.underlying3
 a3 := Tryz.isAgg3
 z3 := Tryz.sizeOf3
 v3 := Tryz.zeroValue3
 t4 := Tryz.underlying4
 a4 := Tryz.isAgg4
 z4 := Tryz.sizeOf4
 v4 := Tryz.zeroValue4
 t5 := Tryz.underlying5
 a5 := Tryz.isAgg5
 z5 := Tryz.sizeOf5
 v5 := Tryz.zeroValue5
 t9 := Tryz.underlying9
 a9 := Tryz.isAgg9
 z9 := Tryz.sizeOf9
 v9 := Tryz.zeroValue9
 t20 := Tryz.underlying20
 a20 := Tryz.isAgg20
 z20 := Tryz.sizeOf20
 v20 := Tryz.zeroValue20
 t37 := Tryz.underlying37
 a37 := Tryz.isAgg37
 z37 := Tryz.sizeOf37
 v37 := Tryz.zeroValue37
 t46 := Tryz.underlying86
 a46 := Tryz.isAgg86
 z46 := Tryz.sizeOf86
 v46 := Tryz.zeroValue86
 t51 := Tryz.underlying127
 a51 := Tryz.isAgg127
 z51 := Tryz.sizeOf127
 v51 := Tryz.zeroValue127
 t53 := Tryz.underlying130
 a53 := Tryz.isAgg130
 z53 := Tryz.sizeOf130
 v53 := Tryz.zeroValue130
 t70 := Tryz.underlying88
 a70 := Tryz.isAgg88
 z70 := Tryz.sizeOf88
 v70 := Tryz.zeroValue88
 t72 := Tryz.underlying90
 a72 := Tryz.isAgg90
 z72 := Tryz.sizeOf90
 v72 := Tryz.zeroValue90
 t75 := Tryz.underlying92
 a75 := Tryz.isAgg92
 z75 := Tryz.sizeOf92
 v75 := Tryz.zeroValue92
 t76 := Tryz.underlying93
 a76 := Tryz.isAgg93
 z76 := Tryz.sizeOf93
 v76 := Tryz.zeroValue93
 t109 := Tryz.underlying113
 a109 := Tryz.isAgg113
 z109 := Tryz.sizeOf113
 v109 := Tryz.zeroValue113
 t127 := Tryz.underlying117
 a127 := Tryz.isAgg117
 z127 := Tryz.sizeOf117
 v127 := Tryz.zeroValue117
 t146 := Tryz.underlying128
 a146 := Tryz.isAgg128
 z146 := Tryz.sizeOf128
 v146 := Tryz.zeroValue128
 t148 := Tryz.underlying131
 a148 := Tryz.isAgg131
 z148 := Tryz.sizeOf131
 v148 := Tryz.zeroValue131
 t164 := Tryz.underlying133
 a164 := Tryz.isAgg133
 z164 := Tryz.sizeOf133
 v164 := Tryz.zeroValue133 }
theorem Tryz.Builder_Extra_105 : Builder.Extra Tryz.prog Tryz.lays105_ren := {
 sizeBuilder := by kernel_rfl
 liesBuilder := by kernel_rfl
 t5 := Tryz.underlying5
 a5 := Tryz.isAgg5
 z5 := Tryz.sizeOf5
 v5 := Tryz.zeroValue5
 infoByte := by kernel_rfl
 cellsByte := by kernel_rfl
 sizeByte := by kernel_rfl
 neB5 := by decide }
open Go.RowKit Go.Lib in
theorem Tryz.strings_Repeat (s : ByteArray) (c : Nat) (w : World) (hc : c ≤ 9223372036854775807) (hlen : s.size * c ≤ 140737488355328) :
  Calls Tryz.prog 89 #[.string s, .int .i64 c] w fun e w' => e = .returned (.string ⟨(Lib.repeatL s.data.toList c).toArray⟩) ∧ Below w.heap.size w w' := Any.strings_Repeat Tryz.lays105 Tryz.Builder_Extra_105 s c w hc hlen
end Go.Proofs
