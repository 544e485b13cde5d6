import Derived.Test.YthbmjamgidfneaaGreatDoorYAa
import Derived.Shelf.Strings.Builder1
import Derived.Shelf.Strings.Builder2
import Derived.Shelf.Strings.OnBuilder
import Derived.Shelf.Small.Strs
import Derived.Shelf.Strings.BuilderF
import Derived.Shelf.Utf8.RuneCount
import Derived.Shelf.Strings.Builder2Cap
import Derived.Shelf.Strings.Search1
import Derived.Shelf.Strings.Search2
import Derived.Shelf.Strings.Search3
import Derived.Shelf.Strings.Cut
import Derived.Shelf.Strings.Count
import Derived.Shelf.LaysM
import Derived.Shelf.Strings.Shaped
import Derived.Shelf.Strings.Prefix
import Derived.Shelf.Strings.Split
import Derived.Shelf.Strings.Replace
import Derived.Shelf.Strings.SplitShaped
import Derived.Shelf.Unicode.Decode
import Derived.Shelf.Strings.RuneCount
import Derived.Shelf.Bits.Mul64
import Derived.Shelf.Strings.Repeat
import Derived.Shelf.Unicode.DecodeSlow
import Derived.Shelf.Unicode.DecodeAny
import Derived.Test.YthbmjamgidfneaaGreatDoorProg
import Derived.Test.YthbmjamgidfneaaGreatDoorYAb
import Derived.Lib.TrimUEq
import Derived.Deep.Cut
set_option maxRecDepth 100000
set_option maxHeartbeats 6400000
namespace Go.Proofs
open Go.Shelf
def Tryz.lays156_ren : Go.Shelf.Ren := ⟨fun | 156 => 91 | 165 => 93 | 166 => 95 | 169 => 97 | 240 => 129 | 241 => 130 | 276 => 169 | 277 => 170 | n => n, fun | 31 => 84 | 9 => 9 | 3 => 3 | 4 => 4 | 0 => 0 | 20 => 20 | 72 => 90 | 76 => 93 | 70 => 88 | 37 => 37 | 75 => 92 | 127 => 117 | 164 => 133 | 5 => 5 | 80 => 96 | n => n, fun | n => n⟩
theorem Tryz.lays156 : Go.Proofs.Lays.n156 Tryz.prog Tryz.lays156_ren := {
 mixed := by kernel_rfl
 f156 := Tryz.func91.trans (congrArg some (by kernel_rfl))
 f165 := Tryz.func93.trans (congrArg some (by kernel_rfl))
 f166 := Tryz.func95.trans (congrArg some (by kernel_rfl))
 f169 := Tryz.func97.trans (congrArg some (by kernel_rfl))
 f240 := Tryz.func129.trans (congrArg some (by kernel_rfl))
 f241 := Tryz.func130.trans (congrArg some (by kernel_rfl))
 f276 := Tryz.func169.trans (congrArg some (by kernel_rfl))
 f277 := Tryz.func170.trans (congrArg some (by kernel_rfl))
 t0 := Tryz.underlying0
 a0 := Tryz.isAgg0
 z0 := Tryz.sizeOf0
 v0 := Tryz.zeroValue0
 t3 := Tryz.underlying3
 a3 := Tryz.isAgg3
 z3 := Tryz.sizeOf3
 v3 := Tryz.zeroValue3
 t4 := Tryz.underlying4
 a4 := Tryz.isAgg4
 z4 := Tryz.sizeOf4
 v4 := Tryz.zeroValue4
 t9 := Tryz.underlying9
 a9 := Tryz.isAgg9
 z9 := Tryz.sizeOf9
 v9 := Tryz.zeroValue9
 t20 := Tryz.underlying20
 a20 := Tryz.isAgg20
 z20 := Tryz.sizeOf20
 v20 := Tryz.zeroValue20
 t31 := Tryz.underlying84
 a31 := Tryz.isAgg84
 z31 := Tryz.sizeOf84
 v31 := Tryz.zeroValue84
 t37 := Tryz.underlying37
 a37 := Tryz.isAgg37
 z37 := Tryz.sizeOf37
 v37 := Tryz.zeroValue37
 t70 := Tryz.underlying88
 a70 := Tryz.isAgg88
 z70 := Tryz.sizeOf88
 v70 := Tryz.zeroValue88
 t72 := Tryz.underlying90
 a72 := Tryz.isAgg90
 z72 := Tryz.sizeOf90
 v72 := Tryz.zeroValue90
 t75 := Tryz.underlying92
 a75 := Tryz.isAgg92
 z75 := Tryz.sizeOf92
 v75 := Tryz.zeroValue92
 t76 := Tryz.underlying93
 a76 := Tryz.isAgg93
 z76 := Tryz.sizeOf93
 v76 := Tryz.zeroValue93
 t127 := Tryz.underlying117
 a127 := Tryz.isAgg117
 z127 := Tryz.sizeOf117
 v127 := Tryz.zeroValue117
 t164 := Tryz.underlying133
 a164 := Tryz.isAgg133
 z164 := Tryz.sizeOf133
 v164 := Tryz.zeroValue133 }
theorem Tryz.Builder_Extra_156 : Builder.Extra Tryz.prog Tryz.lays156_ren := {
 sizeBuilder := by kernel_rfl
 liesBuilder := by kernel_rfl
 t5 := Tryz.underlying5
 a5 := Tryz.isAgg5
 z5 := Tryz.sizeOf5
 v5 := Tryz.zeroValue5
 infoByte := by kernel_rfl
 cellsByte := by kernel_rfl
 sizeByte := by kernel_rfl
 neB5 := by decide }
open Go.RowKit in
theorem Tryz.strings_Join_none (a : Option Addr) (c : Nat) (sep : ByteArray) (w : World) :
 Calls Tryz.prog 91 #[.slice a 0 c, .string sep] w fun e w' => e = .returned (.string ⟨#[]⟩) ∧ w' = w := Any.strings_Join_none Tryz.lays156 Tryz.Builder_Extra_156 a c sep w
open Go.RowKit in
theorem Tryz.strings_Join (bk o c : Nat) (xs : List ByteArray) (sep : ByteArray) (w : World) (hcells : ∀ (j : Nat) x, xs[j]? = some x → w.cell? ⟨bk, o + j, none⟩ = some (.string x)) (hbk : bk < w.heap.size) (hN : xs.length ≤ 140737488355328) (hcap : xs.length ≤ c) (hlen : (Lib.join (xs.map (·.data.toList)) sep.data.toList).length ≤ 140737488355328) :
 Calls Tryz.prog 91 #[.slice (some ⟨bk, o, none⟩) xs.length c, .string sep] w fun e w' => e = .returned (.string ⟨(Lib.join (xs.map (·.data.toList)) sep.data.toList).toArray⟩) ∧ Below w.heap.size w w' := Any.strings_Join Tryz.lays156 Tryz.Builder_Extra_156 bk o c xs sep w hcells hbk hN hcap hlen
def Tryz.lays144_ren : Go.Shelf.Ren := ⟨fun | 144 => 164 | 143 => 94 | 219 => 131 | 217 => 171 | 225 => 172 | 224 => 173 | 267 => 174 | 266 => 189 | 314 => 190 | n => n, fun | 9 => 9 | 4 => 4 | 3 => 3 | 5 => 5 | 46 => 86 | 146 => 128 | 51 => 127 | n => n, fun | 1 => 2 | n => n⟩
theorem Tryz.lays144 : Go.Proofs.Lays.n144 Tryz.prog Tryz.lays144_ren := {
 mixed := by kernel_rfl
 f143 := Tryz.func94.trans (congrArg some (by kernel_rfl))
 f144 := Tryz.func164.trans (congrArg some (by kernel_rfl))
 f217 := Tryz.func171.trans (congrArg some (by kernel_rfl))
 f219 := Tryz.func131.trans (congrArg some (by kernel_rfl))
 f224 := Tryz.func173.trans (congrArg some (by kernel_rfl))
 f225 := Tryz.func172.trans (congrArg some (by kernel_rfl))
 f266 := Tryz.func189.trans (congrArg some (by kernel_rfl))
 f267 := Tryz.func174.trans (congrArg some (by kernel_rfl))
 f314 := Tryz.func190.trans (congrArg some (by kernel_rfl))
 t3 := Tryz.underlying3
 a3 := Tryz.isAgg3
 z3 := Tryz.sizeOf3
 v3 := Tryz.zeroValue3
 t4 := Tryz.underlying4
 a4 := Tryz.isAgg4
 z4 := Tryz.sizeOf4
 v4 := Tryz.zeroValue4
 t5 := Tryz.underlying5
 a5 := Tryz.isAgg5
 z5 := Tryz.sizeOf5
 v5 := Tryz.zeroValue5
 t9 := Tryz.underlying9
 a9 := Tryz.isAgg9
 z9 := Tryz.sizeOf9
 v9 := Tryz.zeroValue9
 t46 := Tryz.underlying86
 a46 := Tryz.isAgg86
 z46 := Tryz.sizeOf86
 v46 := Tryz.zeroValue86
 t51 := Tryz.underlying127
 a51 := Tryz.isAgg127
 z51 := Tryz.sizeOf127
 v51 := Tryz.zeroValue127
 t146 := Tryz.underlying128
 a146 := Tryz.isAgg128
 z146 := Tryz.sizeOf128
 v146 := Tryz.zeroValue128
 g1 := by kernel_rfl }
open Go.RowKit Go.Lib in
theorem Tryz.strings_Contains_one (s : ByteArray) (c : UInt8) (w : World) :
 Calls Tryz.prog 164 #[.string s, .string ⟨#[c]⟩] w fun e w' => e = .returned (.bool (decide (0 ≤ Lib.indexByte s.data.toList c))) ∧ w' = w := Any.strings_Contains_one Tryz.lays144 s c w
open Go.RowKit Go.Lib in
theorem Tryz.strings_Contains (s sub : ByteArray) (m : Int) (w : World) (hs : s.size < 4294967281) (hm : w.cell? ⟨2, 0, none⟩ = some (.int .i64 m)) :
 Calls Tryz.prog 164 #[.string s, .string sub] w fun e w' => e = .returned (.bool (Lib.contains s.data.toList sub.data.toList)) ∧ w' = w := Any.strings_Contains Tryz.lays144 s sub m w hs hm
def Tryz.lays145_ren : Go.Shelf.Ren := ⟨fun | 145 => 188 | 220 => 191 | 219 => 131 | 217 => 171 | 225 => 172 | 224 => 173 | 267 => 174 | 266 => 189 | 314 => 190 | n => n, fun | 9 => 9 | 4 => 4 | 59 => 140 | 3 => 3 | 5 => 5 | 46 => 86 | 146 => 128 | 51 => 127 | n => n, fun | 1 => 2 | n => n⟩
theorem Tryz.lays145 : Go.Proofs.Lays.n145 Tryz.prog Tryz.lays145_ren := {
 mixed := by kernel_rfl
 f145 := Tryz.func188.trans (congrArg some (by kernel_rfl))
 f217 := Tryz.func171.trans (congrArg some (by kernel_rfl))
 f219 := Tryz.func131.trans (congrArg some (by kernel_rfl))
 f220 := Tryz.func191.trans (congrArg some (by kernel_rfl))
 f224 := Tryz.func173.trans (congrArg some (by kernel_rfl))
 f225 := Tryz.func172.trans (congrArg some (by kernel_rfl))
 f266 := Tryz.func189.trans (congrArg some (by kernel_rfl))
 f267 := Tryz.func174.trans (congrArg some (by kernel_rfl))
 f314 := Tryz.func190.trans (congrArg some (by kernel_rfl))
 t3 := Tryz.underlying3
 a3 := Tryz.isAgg3
 z3 := Tryz.sizeOf3
 v3 := Tryz.zeroValue3
 t4 := Tryz.underlying4
 a4 := Tryz.isAgg4
 z4 := Tryz.sizeOf4
 v4 := Tryz.zeroValue4
 t5 := Tryz.underlying5
 a5 := Tryz.isAgg5
 z5 := Tryz.sizeOf5
 v5 := Tryz.zeroValue5
 t9 := Tryz.underlying9
 a9 := Tryz.isAgg9
 z9 := Tryz.sizeOf9
 v9 := Tryz.zeroValue9
 t46 := Tryz.underlying86
 a46 := Tryz.isAgg86
 z46 := Tryz.sizeOf86
 v46 := Tryz.zeroValue86
 t51 := Tryz.underlying127
 a51 := Tryz.isAgg127
 z51 := Tryz.sizeOf127
 v51 := Tryz.zeroValue127
 t59 := Tryz.underlying140
 a59 := Tryz.isAgg140
 z59 := Tryz.sizeOf140
 v59 := Tryz.zeroValue140
 t146 := Tryz.underlying128
 a146 := Tryz.isAgg128
 z146 := Tryz.sizeOf128
 v146 := Tryz.zeroValue128
 g1 := by kernel_rfl }
open Go.RowKit Go.Lib in
theorem Tryz.strings_Cut (s sep : ByteArray) (m : Int) (w : World) (hs : s.size < 4294967281) (hm : w.cell? ⟨2, 0, none⟩ = some (.int .i64 m)) :
 Calls Tryz.prog 188 #[.string s, .string sep] w fun e w' => e = .returned (.tuple #[.string ⟨(Lib.cut s.data.toList sep.data.toList).1.toArray⟩, .string ⟨(Lib.cut s.data.toList sep.data.toList).2.1.toArray⟩, .bool (Lib.cut s.data.toList sep.data.toList).2.2]) ∧ ∃ n, w' = w.drewN n := Any.strings_Cut Tryz.lays145 s sep m w hs hm
def Tryz.lays101_ren : Go.Shelf.Ren := ⟨fun | 101 => 87 | 208 => 123 | 206 => 161 | n => n, fun | 9 => 9 | 4 => 4 | 3 => 3 | n => n, fun | n => n⟩
theorem Tryz.lays101 : Go.Proofs.Lays.n101 Tryz.prog Tryz.lays101_ren := {
 mixed := by kernel_rfl
 f101 := Tryz.func87.trans (congrArg some (by kernel_rfl))
 f206 := Tryz.func161.trans (congrArg some (by kernel_rfl))
 f208 := Tryz.func123.trans (congrArg some (by kernel_rfl))
 t3 := Tryz.underlying3
 a3 := Tryz.isAgg3
 z3 := Tryz.sizeOf3
 v3 := Tryz.zeroValue3
 t4 := Tryz.underlying4
 a4 := Tryz.isAgg4
 z4 := Tryz.sizeOf4
 v4 := Tryz.zeroValue4
 t9 := Tryz.underlying9
 a9 := Tryz.isAgg9
 z9 := Tryz.sizeOf9
 v9 := Tryz.zeroValue9 }
open Go.RowKit Go.Lib in
theorem Tryz.strings_TrimPrefix (s p : ByteArray) (w : World) :
 Calls Tryz.prog 87 #[.string s, .string p] w fun e w' => e = .returned (.string ⟨(Lib.trimPrefix s.data.toList p.data.toList).toArray⟩) ∧ w' = w := Any.strings_TrimPrefix Tryz.lays101 s p w
def Tryz.lays102_ren : Go.Shelf.Ren := ⟨fun | 102 => 88 | 209 => 124 | 207 => 166 | n => n, fun | 9 => 9 | 4 => 4 | 3 => 3 | n => n, fun | n => n⟩
theorem Tryz.lays102 : Go.Proofs.Lays.n102 Tryz.prog Tryz.lays102_ren := {
 mixed := by kernel_rfl
 f102 := Tryz.func88.trans (congrArg some (by kernel_rfl))
 f207 := Tryz.func166.trans (congrArg some (by kernel_rfl))
 f209 := Tryz.func124.trans (congrArg some (by kernel_rfl))
 t3 := Tryz.underlying3
 a3 := Tryz.isAgg3
 z3 := Tryz.sizeOf3
 v3 := Tryz.zeroValue3
 t4 := Tryz.underlying4
 a4 := Tryz.isAgg4
 z4 := Tryz.sizeOf4
 v4 := Tryz.zeroValue4
 t9 := Tryz.underlying9
 a9 := Tryz.isAgg9
 z9 := Tryz.sizeOf9
 v9 := Tryz.zeroValue9 }
open Go.RowKit Go.Lib in
theorem Tryz.strings_TrimSuffix (s p : ByteArray) (w : World) (hs : s.size ≤ 9223372036854775807) :
 Calls Tryz.prog 88 #[.string s, .string p] w fun e w' => e = .returned (.string ⟨(Lib.trimSuffix s.data.toList p.data.toList).toArray⟩) ∧ w' = w := Any.strings_TrimSuffix Tryz.lays102 s p w hs
def Tryz.lays154_ren : Go.Shelf.Ren := ⟨fun | 154 => 59 | 138 => 92 | 165 => 93 | 143 => 94 | 166 => 95 | 197 => 96 | 169 => 97 | 195 => 127 | 218 => 128 | 240 => 129 | 241 => 130 | 219 => 131 | 260 => 132 | 276 => 169 | 277 => 170 | 217 => 171 | 225 => 172 | 224 => 173 | 267 => 174 | 266 => 189 | 314 => 190 | n => n, fun | 9 => 9 | 3 => 3 | 4 => 4 | 72 => 90 | 0 => 0 | 76 => 93 | 105 => 60 | 21 => 21 | 5 => 5 | 70 => 88 | 20 => 20 | 37 => 37 | 75 => 92 | 127 => 117 | 164 => 133 | 46 => 86 | 119 => 109 | 139 => 112 | 138 => 111 | 146 => 128 | 51 => 127 | 80 => 96 | n => n, fun | 1 => 2 | 3 => 0 | 4 => 1 | n => n⟩
theorem Tryz.lays154 : Go.Proofs.Lays.n154 Tryz.prog Tryz.lays154_ren := {
 mixed := by kernel_rfl
 f138 := Tryz.func92.trans (congrArg some (by kernel_rfl))
 f143 := Tryz.func94.trans (congrArg some (by kernel_rfl))
 f154 := Tryz.func59.trans (congrArg some (by kernel_rfl))
 f165 := Tryz.func93.trans (congrArg some (by kernel_rfl))
 f166 := Tryz.func95.trans (congrArg some (by kernel_rfl))
 f169 := Tryz.func97.trans (congrArg some (by kernel_rfl))
 f195 := Tryz.func127.trans (congrArg some (by kernel_rfl))
 f197 := Tryz.func96.trans (congrArg some (by kernel_rfl))
 f217 := Tryz.func171.trans (congrArg some (by kernel_rfl))
 f218 := Tryz.func128.trans (congrArg some (by kernel_rfl))
 f219 := Tryz.func131.trans (congrArg some (by kernel_rfl))
 f224 := Tryz.func173.trans (congrArg some (by kernel_rfl))
 f225 := Tryz.func172.trans (congrArg some (by kernel_rfl))
 f240 := Tryz.func129.trans (congrArg some (by kernel_rfl))
 f241 := Tryz.func130.trans (congrArg some (by kernel_rfl))
 f260 := Tryz.func132.trans (congrArg some (by kernel_rfl))
 f266 := Tryz.func189.trans (congrArg some (by kernel_rfl))
 f267 := Tryz.func174.trans (congrArg some (by kernel_rfl))
 f276 := Tryz.func169.trans (congrArg some (by kernel_rfl))
 f277 := Tryz.func170.trans (congrArg some (by kernel_rfl))
 f314 := Tryz.func190.trans (congrArg some (by kernel_rfl))
 t0 := Tryz.underlying0
 a0 := Tryz.isAgg0
 z0 := Tryz.sizeOf0
 v0 := Tryz.zeroValue0
 t3 := Tryz.underlying3
 a3 := Tryz.isAgg3
 z3 := Tryz.sizeOf3
 v3 := Tryz.zeroValue3
 t4 := Tryz.underlying4
 a4 := Tryz.isAgg4
 z4 := Tryz.sizeOf4
 v4 := Tryz.zeroValue4
 t5 := Tryz.underlying5
 a5 := Tryz.isAgg5
 z5 := Tryz.sizeOf5
 v5 := Tryz.zeroValue5
 t9 := Tryz.underlying9
 a9 := Tryz.isAgg9
 z9 := Tryz.sizeOf9
 v9 := Tryz.zeroValue9
 t20 := Tryz.underlying20
 a20 := Tryz.isAgg20
 z20 := Tryz.sizeOf20
 v20 := Tryz.zeroValue20
 t21 := Tryz.underlying21
 a21 := Tryz.isAgg21
 z21 := Tryz.sizeOf21
 v21 := Tryz.zeroValue21
 t37 := Tryz.underlying37
 a37 := Tryz.isAgg37
 z37 := Tryz.sizeOf37
 v37 := Tryz.zeroValue37
 t46 := Tryz.underlying86
 a46 := Tryz.isAgg86
 z46 := Tryz.sizeOf86
 v46 := Tryz.zeroValue86
 t51 := Tryz.underlying127
 a51 := Tryz.isAgg127
 z51 := Tryz.sizeOf127
 v51 := Tryz.zeroValue127
 t70 := Tryz.underlying88
 a70 := Tryz.isAgg88
 z70 := Tryz.sizeOf88
 v70 := Tryz.zeroValue88
 t72 := Tryz.underlying90
 a72 := Tryz.isAgg90
 z72 := Tryz.sizeOf90
 v72 := Tryz.zeroValue90
 t75 := Tryz.underlying92
 a75 := Tryz.isAgg92
 z75 := Tryz.sizeOf92
 v75 := Tryz.zeroValue92
 t76 := Tryz.underlying93
 a76 := Tryz.isAgg93
 z76 := Tryz.sizeOf93
 v76 := Tryz.zeroValue93
 t105 := Tryz.underlying60
 a105 := Tryz.isAgg60
 z105 := Tryz.sizeOf60
 v105 := Tryz.zeroValue60
 t119 := Tryz.underlying109
 a119 := Tryz.isAgg109
 z119 := Tryz.sizeOf109
 t127 := Tryz.underlying117
 a127 := Tryz.isAgg117
 z127 := Tryz.sizeOf117
 v127 := Tryz.zeroValue117
 t138 := Tryz.underlying111
 a138 := Tryz.isAgg111
 z138 := Tryz.sizeOf111
 v138 := Tryz.zeroValue111
 t139 := Tryz.underlying112
 a139 := Tryz.isAgg112
 z139 := Tryz.sizeOf112
 v139 := Tryz.zeroValue112
 t146 := Tryz.underlying128
 a146 := Tryz.isAgg128
 z146 := Tryz.sizeOf128
 v146 := Tryz.zeroValue128
 t164 := Tryz.underlying133
 a164 := Tryz.isAgg133
 z164 := Tryz.sizeOf133
 v164 := Tryz.zeroValue133
 g1 := by kernel_rfl
 g3 := by kernel_rfl
 g4 := by kernel_rfl }
theorem Tryz.Builder_Extra_154 : Builder.Extra Tryz.prog Tryz.lays154_ren := {
 sizeBuilder := by kernel_rfl
 liesBuilder := by kernel_rfl
 t5 := Tryz.underlying5
 a5 := Tryz.isAgg5
 z5 := Tryz.sizeOf5
 v5 := Tryz.zeroValue5
 infoByte := by kernel_rfl
 cellsByte := by kernel_rfl
 sizeByte := by kernel_rfl
 neB5 := by decide }
open Go.RowKit Go.Lib in
theorem Tryz.strings_Replace (s old new : ByteArray) (n : Int) (m : Int) (w : World) (hs : s.size < 4294967281) (hm : w.cell? ⟨2, 0, none⟩ = some (.int .i64 m)) (h1 : 1 ≤ old.size) (hlen : s.size + Lib.countB s old * new.size ≤ 140737488355328) :
 Calls Tryz.prog 59 #[.string s, .string old, .string new, .int .i64 n] w fun e w' =>
  e = .returned (.string ⟨(Lib.replace s.data.toList old.data.toList new.data.toList n).toArray⟩) ∧ Below w.heap.size w w' := Any.strings_Replace Tryz.lays154 Tryz.Builder_Extra_154 s old new n m w hs hm h1 hlen
def Tryz.lays105_ren : Go.Shelf.Ren := ⟨fun | 105 => 89 | 212 => 125 | 99 => 111 | 165 => 93 | 166 => 95 | 170 => 126 | 169 => 97 | 263 => 167 | 264 => 168 | 206 => 161 | 240 => 129 | 241 => 130 | 276 => 169 | 277 => 170 | n => n, fun | 9 => 9 | 3 => 3 | 4 => 4 | 20 => 20 | 0 => 0 | 46 => 86 | 109 => 113 | 5 => 5 | 72 => 90 | 76 => 93 | 51 => 127 | 146 => 128 | 53 => 130 | 148 => 131 | 70 => 88 | 37 => 37 | 75 => 92 | 127 => 117 | 164 => 133 | 80 => 96 | n => n, fun | n => n⟩
theorem Tryz.lays105 : Go.Proofs.Lays.n105 Tryz.prog Tryz.lays105_ren := {
 mixed := by kernel_rfl
 f99 := Tryz.func111.trans (congrArg some (by kernel_rfl))
 f105 := Tryz.func89.trans (congrArg some (by kernel_rfl))
 f165 := Tryz.func93.trans (congrArg some (by kernel_rfl))
 f166 := Tryz.func95.trans (congrArg some (by kernel_rfl))
 f169 := Tryz.func97.trans (congrArg some (by kernel_rfl))
 f170 := Tryz.func126.trans (congrArg some (by kernel_rfl))
 f206 := Tryz.func161.trans (congrArg some (by kernel_rfl))
 f212 := Tryz.func125.trans (congrArg some (by kernel_rfl))
 f240 := Tryz.func129.trans (congrArg some (by kernel_rfl))
 f241 := Tryz.func130.trans (congrArg some (by kernel_rfl))
 f263 := Tryz.func167.trans (congrArg some (by kernel_rfl))
 f264 := Tryz.func168.trans (congrArg some (by kernel_rfl))
 f276 := Tryz.func169.trans (congrArg some (by kernel_rfl))
 f277 := Tryz.func170.trans (congrArg some (by kernel_rfl))
 t0 := Tryz.underlying0
 a0 := Tryz.isAgg0
 z0 := Tryz.sizeOf0
 v0 := Tryz.zeroValue0
 t3 := Tryz.underlying3
 a3 := Tryz.isAgg3
 z3 := Tryz.sizeOf3
 v3 := Tryz.zeroValue3
 t4 := Tryz.underlying4
 a4 := Tryz.isAgg4
 z4 := Tryz.sizeOf4
 v4 := Tryz.zeroValue4
 t5 := Tryz.underlying5
 a5 := Tryz.isAgg5
 z5 := Tryz.sizeOf5
 v5 := Tryz.zeroValue5
 t9 := Tryz.underlying9
 a9 := Tryz.isAgg9
 z9 := Tryz.sizeOf9
 v9 := Tryz.zeroValue9
 t20 := Tryz.underlying20
 a20 := Tryz.isAgg20
 z20 := Tryz.sizeOf20
 v20 := Tryz.zeroValue20
 t37 := Tryz.underlying37
 a37 := Tryz.isAgg37
 z37 := Tryz.sizeOf37
 v37 := Tryz.zeroValue37
 t46 := Tryz.underlying86
 a46 := Tryz.isAgg86
 z46 := Tryz.sizeOf86
 v46 := Tryz.zeroValue86
 t51 := Tryz.underlying127
 a51 := Tryz.isAgg127
 z51 := Tryz.sizeOf127
 v51 := Tryz.zeroValue127
 t53 := Tryz.underlying130
 a53 := Tryz.isAgg130
 z53 := Tryz.sizeOf130
 v53 := Tryz.zeroValue130
 t70 := Tryz.underlying88
 a70 := Tryz.isAgg88
 z70 := Tryz.sizeOf88
 v70 := Tryz.zeroValue88
 t72 := Tryz.underlying90
 a72 := Tryz.isAgg90
 z72 := Tryz.sizeOf90
 v72 := Tryz.zeroValue90
 t75 := Tryz.underlying92
 a75 := Tryz.isAgg92
 z75 := Tryz.sizeOf92
 v75 := Tryz.zeroValue92
 t76 := Tryz.underlying93
 a76 := Tryz.isAgg93
 z76 := Tryz.sizeOf93
 v76 := Tryz.zeroValue93
 t109 := Tryz.underlying113
 a109 := Tryz.isAgg113
 z109 := Tryz.sizeOf113
 v109 := Tryz.zeroValue113
 t127 := Tryz.underlying117
 a127 := Tryz.isAgg117
 z127 := Tryz.sizeOf117
 v127 := Tryz.zeroValue117
 t146 := Tryz.underlying128
 a146 := Tryz.isAgg128
 z146 := Tryz.sizeOf128
 v146 := Tryz.zeroValue128
 t148 := Tryz.underlying131
 a148 := Tryz.isAgg131
 z148 := Tryz.sizeOf131
 v148 := Tryz.zeroValue131
 t164 := Tryz.underlying133
 a164 := Tryz.isAgg133
 z164 := Tryz.sizeOf133
 v164 := Tryz.zeroValue133 }
theorem Tryz.Builder_Extra_105 : Builder.Extra Tryz.prog Tryz.lays105_ren := {
 sizeBuilder := by kernel_rfl
 liesBuilder := by kernel_rfl
 t5 := Tryz.underlying5
 a5 := Tryz.isAgg5
 z5 := Tryz.sizeOf5
 v5 := Tryz.zeroValue5
 infoByte := by kernel_rfl
 cellsByte := by kernel_rfl
 sizeByte := by kernel_rfl
 neB5 := by decide }
open Go.RowKit Go.Lib in
theorem Tryz.strings_Repeat (s : ByteArray) (c : Nat) (w : World) (hc : c ≤ 9223372036854775807) (hlen : s.size * c ≤ 140737488355328) :
 Calls Tryz.prog 89 #[.string s, .int .i64 c] w fun e w' => e = .returned (.string ⟨(Lib.repeatL s.data.toList c).toArray⟩) ∧ Below w.heap.size w w' := Any.strings_Repeat Tryz.lays105 Tryz.Builder_Extra_105 s c w hc hlen
end Go.Proofs
namespace Go.Proofs.YthbmjamgidfneaaGreatDoor
open Go.RowKit Go.Lib Go.BigFrame
def TellV (D : Nd → Prop) (p : Nd → List UInt8) (w : World) (v : Value) : Prop :=
 ∃ fn first caps, v = .func (.func fn) first caps ∧ (∀ args w, (callFunc fn args).run Tryz.prog w = .ok (.enter fn args) w) ∧
  ∀ (t : Nd), D t → ∀ (W : World) (x : Value), Ext none' w W → NdV none' W t x → Calls Tryz.prog fn (first ++ #[x] ++ caps) W (StrPost (p t) W)
theorem TellV.ext {D : Nd → Prop} {p : Nd → List UInt8} {w w' : World} {v : Value} (h : TellV D p w v) (x : Ext none' w w') : TellV D p w' v := by
 obtain ⟨fn, first, caps, rfl, hfn, h⟩ := h
 exact ⟨fn, first, caps, rfl, hfn, fun t ht W y X hy => h t ht W y (x.trans X) hy⟩
theorem TellV.top {D : Nd → Prop} {p : Nd → List UInt8} {w : World} {fn : Nat} (hfn : ∀ args w, (callFunc fn args).run Tryz.prog w = .ok (.enter fn args) w) (h : ∀ (t : Nd), D t → ∀ (W : World) (x : Value), NdV none' W t x → Calls Tryz.prog fn #[x] W (StrPost (p t) W)) : TellV D p w (.func (.func fn) #[] #[]) :=
 ⟨fn, _, _, rfl, hfn, fun t ht W x _ hx => h t ht W x hx⟩
theorem join_any (l : List (List UInt8)) (sep : List UInt8) (v : Value) (w : World) (hv : IsStrs none' w v l) (hn : l.length ≤ 100000000000) (hl : (Lib.join l sep).length ≤ 140737488355328) : Calls Tryz.prog 91 #[v, .string ⟨sep.toArray⟩] w (StrPost (Lib.join l sep) w) := by
 obtain ⟨a, cap, rfl, hcap, hnone, h⟩ := hv
 by_cases hne : l = []
 · subst hne
   exact (Tryz.strings_Join_none a cap ⟨sep.toArray⟩ w).mono fun e w' ⟨he, hw⟩ => ⟨he, hw ▸ Ext.refl _ _⟩
 · obtain ⟨b, off, rfl, _, hb, h⟩ := h hne
   have hm : (l.map fun s => (⟨s.toArray⟩ : ByteArray)).map (·.data.toList) = l := by
    rw [List.map_map]
    conv => rhs; rw [← List.map_id l]
    exact List.map_congr_left fun s _ => rfl
   have C := Tryz.strings_Join b off cap (l.map fun s => ⟨s.toArray⟩) ⟨sep.toArray⟩ w (fun j x hj => by
    have hjl : j < l.length := by have := (List.getElem?_eq_some_iff.1 hj).1; simpa using this
    obtain ⟨cs, h1, rfl⟩ := h j hjl
    have := h1 0 _ rfl
    rw [Nat.add_zero, Nat.mul_one] at this
    rw [this]
    rw [List.getElem?_map, List.getElem?_eq_getElem hjl] at hj
    injection hj with hj
    rw [← hj]) hb (by rw [List.length_map]; omega) (by rw [List.length_map]; exact hcap) (by rw [hm]; exact hl)
   rw [List.length_map, hm] at C
   exact C.mono fun e w' ⟨he, hw⟩ => ⟨he, Ext.of_below hw⟩
structure PtRel (base : Nat) (w wr : World) (v : Value) (done : List (List UInt8)) : Prop where
 row : wr.ownsRow base 9 1 v done.length (strVals done)
 x : Ext none' w wr
theorem strVals_snoc (l : List (List UInt8)) (s : List UInt8) : strVals (l ++ [s]) = strVals l ++ [.string ⟨s.toArray⟩] := by simp [strVals]
theorem PtRel.done {base : Nat} {w wr : World} {v : Value} {l : List (List UInt8)} (h : PtRel base w wr v l) : IsStrs none' wr v l := (str_row (A := none') h.row).sl isStr_good fun _ _ h => h
theorem between_any (sep : List UInt8) (l : List (List UInt8)) (v : Value) (w : World) (hv : IsStrs none' w v l) (hn : l.length ≤ 1000) (hl : sep.length * l.length + Lib.lens l ≤ 140737488355328) : Calls Tryz.prog 46 #[.string ⟨sep.toArray⟩, v] w (StrPost (betw sep l) w) := by
 have HV := hid hv
 have CJ := hid fun W u (hu : IsStrs none' W u (l.filter fun p => !p.isEmpty)) => join_any _ sep u W hu (by have := List.length_filter_le (fun p : List UInt8 => !p.isEmpty) l; omega) (by
  have h1 := join_take (l.filter fun p => !p.isEmpty) sep
  have h2 := lens_filter (fun p => !p.isEmpty) l
  have h3 := Nat.mul_le_mul_left sep.length (List.length_filter_le (fun p => !p.isEmpty) l)
  omega)
 obtain ⟨a, cap, rfl, hc, hnn, _⟩ := hv
 obtain ⟨r, hr⟩ : ∃ r, r = betw sep l := ⟨_, rfl⟩
 rw [← hr]
 have HR := hid (show Lib.join (l.filter fun p => !p.isEmpty) sep = r from hr.symm)
 rw [HR.out] at CJ
 obtain ⟨i0, hi0, hz0, hz1, hz2⟩ := info_parts infoStr
 have I0 := hid hi0
 have I1 := hid hz0
 have I2 := hid hz1
 have I3 := hid hz2
 clear hi0 hz0 hz1 hz2 hnn hr hl
 go_enter Tryz.func46, Tryz.ntmps46
 go_wp2_with fail
 go_loopw [5, 7, 10] (fun o _ z wr => ∃ (i : Nat), z = .int .i64 (i : Nat) ∧ i ≤ l.length ∧ Hid (PtRel w.heap.size w wr o ((l.take i).filter fun p => !p.isEmpty))) (fun _ _ z _ => l.length - (RowKit.intOf z).toNat)
 case atStart => exact ⟨0, rfl, by omega, hid ⟨World.ownsRow_nil _ _ _ _, Ext.refl _ _⟩⟩
 case round =>
  obtain ⟨i, rfl, hle, R⟩ := hrel
  by_cases hi : i < l.length
  · obtain ⟨b, off, rfl, hcell⟩ := IsStrs.cell (HV.out.ext isStr_good R.out.x fun _ _ h => h.elim) i hi
    obtain ⟨s, hs⟩ : ∃ s, l[i] = s := ⟨_, rfl⟩
    rw [hs] at hcell
    have htk : l.take (i + 1) = l.take i ++ [s] := by rw [List.take_add_one, List.getElem?_eq_getElem hi, hs]; rfl
    have HTK := hid htk
    have hsh := own_slice R.out.row
    obtain ⟨a1, cap1, e1⟩ := hsh
    have hdl : ((l.take i).filter fun p => !p.isEmpty).length ≤ 1000 := by
     have := List.length_filter_le (fun p : List UInt8 => !p.isEmpty) (l.take i)
     rw [List.length_take] at this
     omega
    obtain ⟨d, hd⟩ : ∃ d, ((l.take i).filter fun p => !p.isEmpty) = d := ⟨_, rfl⟩
    rw [hd] at R e1 hdl
    have HD := hid hd
    clear htk hs hd
    by_cases hemp : s = []
    · have q : (s != []) = false := by simp [hemp]
      have N : Hid (PtRel w.heap.size w wr u5 ((l.take (i + 1)).filter fun p => !p.isEmpty)) := hid (by
       rw [HTK.out, List.filter_append, HD.out, hemp]
       simpa using R.out)
      subst hemp
      clear R
      go_wp2_with fail
      go_roundw
      case rel => exact ⟨i + 1, by go_num, by omega, N⟩
      case measure => simp [RowKit.intOf]; omega
    · have q : (s != []) = true := by simpa using hemp
      have qi : s.isEmpty = false := by simpa using hemp
      have X1 : Hid (Ext none' wr (wr.alloc (.cells #[.string ⟨s.toArray⟩] 9))) := hid ((Ext.refl _ _).alloc _)
      have O2 := hid (ownsRow_ext R.out.row X1.out fun _ _ h => h)
      have S2 := hid (Src.one (P := Tryz.prog) Tryz.underlying84 wr (.string ⟨s.toArray⟩) 9 rfl)
      have HSZ := hid (Nat.le_trans R.out.x.size X1.out.size)
      have HX := hid R.out.x
      have HQ := hid qi
      subst e1
      clear hemp R
      go_wp2_with (at_builtin; refine wpList_app _ rfl (.tmp 16) (.tmp 18) 84 84 rfl w.heap.size 9 i0 _ 1 16 Tryz.underlying84 I0.out I1.out I2.out I3.out rfl _ d.length (strVals d) rfl O2.out _ 1 _ rfl S2.out ?_ ?_ ?_ ?_)
      · unfold maxLen; omega
      · omega
      · exact HSZ.out
      intro v3 w3 own3 grow3 blk3 _
      have N : Hid (PtRel w.heap.size w w3 v3 ((l.take (i + 1)).filter fun p => !p.isEmpty)) := hid (by
       rw [HTK.out, List.filter_append, HD.out]
       have e : [s].filter (fun p => !p.isEmpty) = [s] := by simp [HQ.out]
       rw [e]
       exact ⟨by rw [strVals_snoc, List.length_append]; exact own3, (HX.out.trans X1.out).grown grow3 (fun g hg => .inr (O2.out.lt g hg).1)⟩)
      clear own3 grow3 blk3
      go_wp2_with fail
      go_roundw
      case rel => exact ⟨i + 1, by go_num, by omega, N⟩
      case measure => simp [RowKit.intOf]; omega
  · obtain rfl : i = l.length := by omega
    rw [List.take_length] at R
    have hsh := own_slice R.out.row
    obtain ⟨a1, cap1, e1⟩ := hsh
    have CC := hid (CJ.out _ _ R.out.done)
    have HX := hid R.out.x
    subst e1
    clear R
    go_wp2_with fail
    refine CC.out.mono ?_
    rintro e w1 ⟨rfl, X1⟩
    have X1 := hid (HX.out.trans X1)
    go_wp2_with fail
    go_ret
    exact ⟨rfl, X1.out⟩
theorem each_any (D : Nd → Prop) (p : Nd → List UInt8) (sep : List UInt8) (l : List Nd) (v u : Value) (w : World) (hv : IsSl 4 IsNd none' w v l) (hu : TellV D p w u) (hD : ∀ (i : Nat) (h : i < l.length), D l[i]) (hn : l.length ≤ bigD) (hl : sep.length * l.length + Lib.lens (l.map p) ≤ 140737488355328) :
 Calls Tryz.prog 47 #[v, .string ⟨sep.toArray⟩, u] w (StrPost (Lib.join (l.map p) sep) w) := by
 have HV := hid hv
 unfold bigD at hn
 have CJ := hid fun W u (hu : IsStrs none' W u (l.map p)) => join_any _ sep u W hu (by rw [List.length_map]; omega) (by
  have h1 := join_take (l.map p) sep
  rw [List.length_map] at h1
  omega)
 obtain ⟨fn, first, caps, rfl, hfn, hst⟩ := hu
 have HST := hid hst
 have HDD := hid hD
 obtain ⟨a, cap, rfl, hc, hnn, _⟩ := hv
 obtain ⟨r, hr⟩ : ∃ r, r = Lib.join (l.map p) sep := ⟨_, rfl⟩
 rw [← hr] at CJ ⊢
 obtain ⟨i0, hi0, hz0, hz1, hz2⟩ := info_parts infoStr
 have I0 := hid hi0
 have I1 := hid hz0
 have I2 := hid hz1
 have I3 := hid hz2
 clear hi0 hz0 hz1 hz2 hnn hr hl hst hD
 go_enter Tryz.func47, Tryz.ntmps47
 go_wp2_with fail
 go_loopw [7, 9, 12] (fun o _ z wr => ∃ (i : Nat), z = .int .i64 (i : Nat) ∧ i ≤ l.length ∧ Hid (PtRel w.heap.size w wr o ((l.take i).map p))) (fun _ _ z _ => l.length - (RowKit.intOf z).toNat)
 case atStart => exact ⟨0, rfl, by omega, hid ⟨World.ownsRow_nil _ _ _ _, Ext.refl _ _⟩⟩
 case round =>
  obtain ⟨i, rfl, hle, R⟩ := hrel
  by_cases hi : i < l.length
  · obtain ⟨b, off, cs, rfl, _, hbw, hcc, hty⟩ := (HV.out.ext isNd_good R.out.x fun _ _ h => h.elim).at i hi
    obtain ⟨y, rfl, hy⟩ := hty.parts
    have HY := hid hy
    have c0 := hcc 0 _ rfl
    have c1 := hcc 1 _ rfl
    have c2 := hcc 2 _ rfl
    have c3 := hcc 3 _ rfl
    simp only [Nat.add_zero] at c0
    obtain ⟨a3, cap3, rfl, _⟩ := hy
    have CT := hid fun W (X : Ext none' wr W) => HST.out l[i] (HDD.out i hi) W (.agg #[.int .i64 l[i].kind, .string ⟨l[i].text.toArray⟩, .slice a3 l[i].kids.length cap3, .int .i64 l[i].pos]) (R.out.x.trans X) ⟨_, rfl, HY.out.ext isNd_good X fun _ _ h => h⟩
    have htk : (l.take (i + 1)).map p = (l.take i).map p ++ [p l[i]] := by rw [List.take_add_one, List.getElem?_eq_getElem hi, List.map_append]; rfl
    obtain ⟨s, hs⟩ : ∃ s, p l[i] = s := ⟨_, rfl⟩
    rw [hs] at htk CT
    obtain ⟨t, ht⟩ : ∃ t, l[i] = t := ⟨_, rfl⟩
    rw [ht] at c0 c1 c2 c3 CT
    have HTK := hid htk
    have hsh := own_slice R.out.row
    obtain ⟨a1, cap1, e1⟩ := hsh
    obtain ⟨d, hd⟩ : ∃ d, ((l.take i).map p) = d := ⟨_, rfl⟩
    have hdl : d.length = i := by rw [← hd, List.length_map, List.length_take]; omega
    rw [hd] at R e1
    rw [hdl] at e1
    have HD := hid hd
    have HDL := hid hdl
    subst e1
    clear htk hs hd ht hcc hty HY hdl
    go_wp2_with fail
    refine (CT.out _ ((Ext.refl _ _).alloc _)).mono ?_
    rintro e w2 ⟨rfl, X2⟩
    have X2 := hid (((Ext.refl none' wr).alloc _).trans X2)
    have X1 : Hid (Ext none' wr (w2.alloc (.cells #[.string ⟨s.toArray⟩] 9))) := hid (X2.out.alloc _)
    have O2 := hid (ownsRow_ext R.out.row X1.out fun _ _ h => h)
    rw [HDL.out] at O2
    have S2 := hid (Src.one (P := Tryz.prog) Tryz.underlying84 w2 (.string ⟨s.toArray⟩) 9 rfl)
    have HSZ := hid (Nat.le_trans R.out.x.size X1.out.size)
    have HX := hid R.out.x
    clear R
    go_wp2_with (at_builtin; refine wpList_app _ rfl (.tmp 16) (.tmp 20) 84 84 rfl w.heap.size 9 i0 _ 1 16 Tryz.underlying84 I0.out I1.out I2.out I3.out rfl _ i (strVals d) rfl O2.out _ 1 _ rfl S2.out ?_ ?_ ?_ ?_)
    · unfold maxLen; omega
    · omega
    · exact HSZ.out
    intro v3 w3 own3 grow3 blk3 _
    have N : Hid (PtRel w.heap.size w w3 v3 ((l.take (i + 1)).map p)) := hid (by
     rw [HTK.out, HD.out]
     exact ⟨by rw [strVals_snoc, List.length_append, HDL.out]; exact own3, (HX.out.trans X1.out).grown grow3 (fun g hg => .inr (O2.out.lt g hg).1)⟩)
    clear own3 grow3 blk3
    go_wp2_with fail
    go_roundw
    case rel => exact ⟨i + 1, by go_num, by omega, N⟩
    case measure => simp [RowKit.intOf]; omega
  · obtain rfl : i = l.length := by omega
    rw [List.take_length] at R
    have hsh := own_slice R.out.row
    obtain ⟨a1, cap1, e1⟩ := hsh
    have CC := hid (CJ.out _ _ R.out.done)
    have HX := hid R.out.x
    rw [List.length_map] at e1
    subst e1
    clear R
    go_wp2_with fail
    refine CC.out.mono ?_
    rintro e w1 ⟨rfl, X1⟩
    have X1 := hid (HX.out.trans X1)
    go_wp2_with fail
    go_ret
    exact ⟨rfl, X1.out⟩
theorem optional_any (D : Nd → Prop) (p : Nd → List UInt8) (t : Nd) (v u : Value) (w : World) (hv : NdV none' w t v) (hu : TellV D p w u) (hD : t.kind ≠ 0 → D t) : Calls Tryz.prog 48 #[v, u] w (StrPost (optT p t) w) := by
 have HV := hid hv
 obtain ⟨x, rfl, hx⟩ := hv
 obtain ⟨a1, cap1, rfl, _⟩ := hx
 obtain ⟨fn, first, caps, rfl, hfn, hst⟩ := hu
 obtain ⟨r, hr⟩ : ∃ r, r = optT p t := ⟨_, rfl⟩
 rw [← hr]
 unfold optT at hr
 by_cases hk : t.kind = 0
 · rw [if_pos hk] at hr
   have HR := hid hr
   obtain ⟨tk, htk⟩ : ∃ tk, t.kind = tk := ⟨_, rfl⟩
   rw [htk] at hk HV ⊢
   subst hk
   clear hr htk hst
   go_enter Tryz.func48, Tryz.ntmps48
   go_wp2_with fail
   go_ret
   exact ⟨by rw [HR.out]; rfl, (Ext.refl _ _).alloc _⟩
 · rw [if_neg hk] at hr
   have q : (t.kind == 0) = false := by simpa using hk
   have CT := hid fun W (X : Ext none' w W) => hst t (hD hk) W _ X (HV.out.ext X fun _ _ h => h)
   rw [← hr] at CT
   clear hr hk hst hD
   go_enter Tryz.func48, Tryz.ntmps48
   go_wp2_with fail
   refine (CT.out _ ((Ext.refl _ _).alloc _)).mono ?_
   rintro e w1 ⟨rfl, X1⟩
   have X1 := hid (((Ext.refl none' w).alloc _).trans X1)
   go_wp2_with fail
   go_ret
   exact ⟨rfl, X1.out⟩
end Go.Proofs.YthbmjamgidfneaaGreatDoor
namespace Go.Proofs.YthbmjamgidfneaaGreatDoor
open Go.Lib
def bnd : Nat → List UInt8 → Nat → Int → Int → List (Nat × Int × Int)
 | 0, _, i, l, c => [(i, l, c)]
 | f + 1, s, i, l, c =>
  if s = [] then [(i, l, c)]
  else (i, l, c) :: (if (decodeL s).1 = 10 then bnd f (s.drop (decodeL s).2) (i + (decodeL s).2) (l + 1) 1
   else bnd f (s.drop (decodeL s).2) (i + (decodeL s).2) l (c + 1))
def rest (s : List UInt8) (i : Nat) (l c : Int) : List (Nat × Int × Int) := bnd s.length s i l c
def letterB (c : Nat) : Bool := c == 95 || (decide (97 ≤ c) && decide (c ≤ 122)) || (decide (65 ≤ c) && decide (c ≤ 90))
def figB (c : Nat) : Bool := decide (48 ≤ c) && decide (c ≤ 57)
def idB (c : UInt8) : Bool := letterB c.toNat || figB c.toNat
def words1 : List (List UInt8) := [[98, 114, 101, 97, 107], [99, 111, 110, 116, 105, 110, 117, 101], [101, 108, 115, 101], [102, 111, 114], [102, 117, 110, 99], [105, 102], [105, 109, 112, 111, 114, 116], [105, 110, 116, 101, 114, 102, 97, 99, 101], [112, 97, 99, 107, 97, 103, 101], [114, 97, 110, 103, 101], [114, 101, 116, 117, 114, 110], [115, 116, 114, 117, 99, 116], [116, 121, 112, 101], [118, 97, 114]]
def words2 : List (List UInt8) := [[99, 97, 115, 101], [99, 104, 97, 110], [99, 111, 110, 115, 116], [100, 101, 102, 97, 117, 108, 116], [100, 101, 102, 101, 114], [102, 97, 108, 108, 116, 104, 114, 111, 117, 103, 104], [103, 111], [103, 111, 116, 111], [109, 97, 112], [115, 101, 108, 101, 99, 116], [115, 119, 105, 116, 99, 104]]
def wordK (s : List UInt8) : Nat := if s ∈ words1 then 1 else if s ∈ words2 then 2 else 0
def nameB (s : List UInt8) : Bool := match s with
 | [] => false
 | c :: _ => !figB c.toNat && wordK s == 0 && s.all idB
structure Tok where
 kind : Nat
 text : List UInt8
 pos : Nat
 deriving DecidableEq
inductive NoteR where
 | none
 | bad
 | len (n : Nat)
end Go.Proofs.YthbmjamgidfneaaGreatDoor
namespace Go.Proofs.YthbmjamgidfneaaGreatDoor
open Go.RowKit Go.Lib
def RetBool (b : Bool) (w : World) (e : Ending) (w' : World) : Prop := e = .returned (.bool b) ∧ w = w'
theorem letter_any (c : Nat) (w : World) : Calls Tryz.prog 113 #[.int .i32 c] w (RetBool (letterB c) w) := by
 obtain ⟨b, hb⟩ : ∃ b, b = letterB c := ⟨_, rfl⟩
 rw [← hb]
 have HB := hid hb
 clear hb
 go_enter Tryz.func113, Tryz.ntmps113
 go_wp2
 all_goals go_ret
 all_goals refine ⟨?_, rfl⟩
 all_goals congr 2
 all_goals rw [HB.out]; simp [letterB]
 all_goals first | omega | (rw [Bool.eq_iff_iff]; simp; omega)
theorem figure_any (c : Nat) (w : World) : Calls Tryz.prog 116 #[.int .i32 c] w (RetBool (figB c) w) := by
 obtain ⟨b, hb⟩ : ∃ b, b = figB c := ⟨_, rfl⟩
 rw [← hb]
 have HB := hid hb
 clear hb
 go_enter Tryz.func116, Tryz.ntmps116
 go_wp2
 all_goals go_ret
 all_goals refine ⟨?_, rfl⟩
 all_goals congr 2
 all_goals rw [HB.out]; simp [figB]
 all_goals first | omega | (rw [Bool.eq_iff_iff]; simp; omega)
theorem word_none (s : List UInt8) (w : World) (h1 : s ∉ words1) (h2 : s ∉ words2) : Calls Tryz.prog 118 #[.string ⟨s.toArray⟩] w fun e w' => e = .returned (.int .i64 0) ∧ w = w' := by
 simp only [words1, words2, List.mem_cons, List.mem_nil_iff, or_false, not_or] at h1 h2
 obtain ⟨a0, a1, a2, a3, a4, a5, a6, a7, a8, a9, a10, a11, a12, a13⟩ := h1
 obtain ⟨b0, b1, b2, b3, b4, b5, b6, b7, b8, b9, b10⟩ := h2
 have c0 : (s == [98, 114, 101, 97, 107]) = false := by simpa using a0
 have c1 : (s == [99, 111, 110, 116, 105, 110, 117, 101]) = false := by simpa using a1
 have c2 : (s == [101, 108, 115, 101]) = false := by simpa using a2
 have c3 : (s == [102, 111, 114]) = false := by simpa using a3
 have c4 : (s == [102, 117, 110, 99]) = false := by simpa using a4
 have c5 : (s == [105, 102]) = false := by simpa using a5
 have c6 : (s == [105, 109, 112, 111, 114, 116]) = false := by simpa using a6
 have c7 : (s == [105, 110, 116, 101, 114, 102, 97, 99, 101]) = false := by simpa using a7
 have c8 : (s == [112, 97, 99, 107, 97, 103, 101]) = false := by simpa using a8
 have c9 : (s == [114, 97, 110, 103, 101]) = false := by simpa using a9
 have c10 : (s == [114, 101, 116, 117, 114, 110]) = false := by simpa using a10
 have c11 : (s == [115, 116, 114, 117, 99, 116]) = false := by simpa using a11
 have c12 : (s == [116, 121, 112, 101]) = false := by simpa using a12
 have c13 : (s == [118, 97, 114]) = false := by simpa using a13
 have d0 : (s == [99, 97, 115, 101]) = false := by simpa using b0
 have d1 : (s == [99, 104, 97, 110]) = false := by simpa using b1
 have d2 : (s == [99, 111, 110, 115, 116]) = false := by simpa using b2
 have d3 : (s == [100, 101, 102, 97, 117, 108, 116]) = false := by simpa using b3
 have d4 : (s == [100, 101, 102, 101, 114]) = false := by simpa using b4
 have d5 : (s == [102, 97, 108, 108, 116, 104, 114, 111, 117, 103, 104]) = false := by simpa using b5
 have d6 : (s == [103, 111]) = false := by simpa using b6
 have d7 : (s == [103, 111, 116, 111]) = false := by simpa using b7
 have d8 : (s == [109, 97, 112]) = false := by simpa using b8
 have d9 : (s == [115, 101, 108, 101, 99, 116]) = false := by simpa using b9
 have d10 : (s == [115, 119, 105, 116, 99, 104]) = false := by simpa using b10
 clear a0 a1 a2 a3 a4 a5 a6 a7 a8 a9 a10 a11 a12 a13 b0 b1 b2 b3 b4 b5 b6 b7 b8 b9 b10
 go_enter Tryz.func118, Tryz.ntmps118
 go_wp2
 go_ret
 exact ⟨rfl, rfl⟩
theorem word_one (s : List UInt8) (w : World) (h1 : s ∈ words1) : Calls Tryz.prog 118 #[.string ⟨s.toArray⟩] w fun e w' => e = .returned (.int .i64 1) ∧ w = w' := by
 simp only [words1, List.mem_cons, List.mem_nil_iff, or_false] at h1
 rcases h1 with rfl | rfl | rfl | rfl | rfl | rfl | rfl | rfl | rfl | rfl | rfl | rfl | rfl | rfl
 all_goals
  go_enter Tryz.func118, Tryz.ntmps118
  go_wp2
  go_ret
  exact ⟨rfl, rfl⟩
theorem word_two (s : List UInt8) (w : World) (h1 : s ∈ words2) : Calls Tryz.prog 118 #[.string ⟨s.toArray⟩] w fun e w' => e = .returned (.int .i64 2) ∧ w = w' := by
 simp only [words2, List.mem_cons, List.mem_nil_iff, or_false] at h1
 rcases h1 with rfl | rfl | rfl | rfl | rfl | rfl | rfl | rfl | rfl | rfl | rfl
 all_goals
  go_enter Tryz.func118, Tryz.ntmps118
  go_wp2
  go_ret
  exact ⟨rfl, rfl⟩
def RetNat (z : Nat) (w : World) (e : Ending) (w' : World) : Prop := e = .returned (.int .i64 z) ∧ w = w'
theorem word_any (s : List UInt8) (w : World) : Calls Tryz.prog 118 #[.string ⟨s.toArray⟩] w (RetNat (wordK s) w) := by
 unfold wordK
 split
 · exact word_one s w (by assumption)
 · split
   · exact word_two s w (by assumption)
   · exact word_none s w (by assumption) (by assumption)
def strV (s : List UInt8) : Value := .string ⟨s.toArray⟩
def Texts (w : World) (b : Nat) (ts : List (List UInt8)) : Prop := ∀ j (h : j < ts.length), w.cell? ⟨b, j, none⟩ = some (.string ⟨(ts[j]).toArray⟩)
theorem texts_of {w : World} {b : Nat} {ts : List (List UInt8)} {cs : Array Value} {t : TypeId} {fz : Nat × Nat} (h : w.heap[b]? = some (.cells cs t fz)) (e : cs = (ts.map strV).toArray) : Texts w b ts := fun j hj => by
 rw [cell_at h, e]
 simp [strV, hj]
end Go.Proofs.YthbmjamgidfneaaGreatDoor
namespace Go.Proofs.YthbmjamgidfneaaGreatDoor
open Go.RowKit Go.Lib Go.BigFrame
theorem decodeN_low (n b0 b1 b2 b3 : Nat) (h : b0 < 128) : decodeN n b0 b1 b2 b3 = (b0, 1) := by unfold decodeN; rw [if_pos h]
theorem decodeN_ge (n b0 b1 b2 b3 : Nat) (h : 128 ≤ b0) : 128 ≤ (decodeN n b0 b1 b2 b3).1 := by
 unfold decodeN
 repeat' split
 all_goals simp only
 all_goals omega
theorem idB_high {c : UInt8} (h : 128 ≤ c.toNat) : idB c = false := by
 unfold idB letterB figB
 simp
 omega
theorem id_head (c : UInt8) (t : List UInt8) : (letterB (decodeL (c :: t)).1 || figB (decodeL (c :: t)).1) = idB c ∧ (idB c = true → (decodeL (c :: t)).2 = 1) := by
 rw [decodeL_N]
 simp only [List.getD_cons_zero]
 by_cases h : c.toNat < 128
 · rw [decodeN_low _ _ _ _ _ h]; exact ⟨rfl, fun _ => rfl⟩
 · have h1 := decodeN_ge (c :: t).length c.toNat ((c :: t).getD 1 0).toNat ((c :: t).getD 2 0).toNat ((c :: t).getD 3 0).toNat (by omega)
   rw [idB_high (by omega)]
   refine ⟨?_, fun h => by cases h⟩
   generalize (decodeN (c :: t).length c.toNat ((c :: t).getD 1 0).toNat ((c :: t).getD 2 0).toNat ((c :: t).getD 3 0).toNat).1 = b at h1 ⊢
   unfold letterB figB
   simp
   omega
theorem decode_dropL (s : List UInt8) (pos : Nat) : Utf8.decode ⟨s.toArray⟩ pos = decodeL (s.drop pos) := (decodeL_drop ⟨s.toArray⟩ pos).symm
def BoolPost (b : Bool) (w : World) (e : Ending) (w' : World) : Prop := e = .returned (.bool b) ∧ Ext none' w w'
theorem let_high {b : Nat} (h : 128 ≤ b) : letterB b = false ∧ figB b = false := by
 unfold letterB figB
 constructor <;> simp <;> omega
theorem let_head (c : UInt8) (t : List UInt8) : letterB (decodeL (c :: t)).1 = letterB c.toNat ∧ figB (decodeL (c :: t)).1 = figB c.toNat := by
 rw [decodeL_N]
 simp only [List.getD_cons_zero]
 by_cases h : c.toNat < 128
 · rw [decodeN_low _ _ _ _ _ h]; exact ⟨rfl, rfl⟩
 · have h1 := decodeN_ge (c :: t).length c.toNat ((c :: t).getD 1 0).toNat ((c :: t).getD 2 0).toNat ((c :: t).getD 3 0).toNat (by omega)
   have h2 := let_high h1
   have h3 := let_high (b := c.toNat) (by omega)
   exact ⟨by rw [h2.1, h3.1], by rw [h2.2, h3.2]⟩
theorem let_fig0 {c : Nat} (h : letterB c = true) : figB c = false := by
 unfold letterB at h; unfold figB
 simp at h ⊢
 omega
structure NmRel (b : Nat) (s : List UInt8) (w wr : World) (pos : Nat) : Prop where
 le : pos ≤ s.length
 hit : wr.heap[b]? = some (.stringIter ⟨s.toArray⟩ pos)
 hx : Ext none' w wr
 hall : ∀ c ∈ s.take pos, idB c = true
 hd : 0 < pos → ∀ c t, s = c :: t → figB c.toNat = false
theorem nameB_no {s : List UInt8} {pos : Nat} (h : pos < s.length) (hn : idB s[pos] = false) : nameB s = false := by
 cases s with
 | nil => simp at h
 | cons c t =>
  unfold nameB
  have : (c :: t).all idB = false := by
   rw [List.all_eq_false]
   exact ⟨_, List.getElem_mem h, by rw [hn]; simp⟩
  rw [this]; simp
theorem nameB_fig {c : UInt8} {t : List UInt8} (h : figB c.toNat = true) : nameB (c :: t) = false := by
 show (!figB c.toNat && wordK (c :: t) == 0 && (c :: t).all idB) = false
 rw [h]; simp
theorem nameB_end {s : List UInt8} (hne : s ≠ []) (hall : ∀ c ∈ s, idB c = true) (hd : ∀ c t, s = c :: t → figB c.toNat = false) : nameB s = (wordK s == 0) := by
 cases s with
 | nil => exact absurd rfl hne
 | cons c t =>
  show (!figB c.toNat && wordK (c :: t) == 0 && (c :: t).all idB) = _
  rw [hd c t rfl]
  have : (c :: t).all idB = true := List.all_eq_true.2 hall
  rw [this]; simp
theorem name_any (s : List UInt8) (w : World) (hs : s.length ≤ 1000000) : Calls Tryz.prog 133 #[.string ⟨s.toArray⟩] w (BoolPost (nameB s) w) := by
 obtain ⟨p, hp⟩ : ∃ p, p = nameB s := ⟨_, rfl⟩
 rw [← hp]
 have HP := hid hp
 clear hp
 go_enter Tryz.func133, Tryz.ntmps133
 go_wp2_with fail
 go_loopw [] (fun wr => ∃ pos, NmRel w.heap.size s w wr pos) (fun wr => s.length - wr.iterPos w.heap.size)
 case atStart =>
  refine ⟨0, ⟨by omega, ?_, ?_, by simp, by omega⟩⟩
  · exact heap_alloc_at rfl _
  · exact (Ext.refl _ _).alloc _
 case round =>
  obtain ⟨pos, R⟩ := hrel
  have hle := R.le
  by_cases hp : pos < s.length
  · obtain ⟨d, hd⟩ : ∃ d, Utf8.decode ⟨s.toArray⟩ pos = d := ⟨_, rfl⟩
    have hnx : ∀ ty, (Instr.next (.pointer (some ⟨w.heap.size, 0, none⟩)) true ty).run Tryz.prog wr = .ok (.tuple #[.bool true, .int .i64 pos, .int .i32 d.1]) (wr.iterAt w.heap.size ⟨s.toArray⟩ (pos + d.2)) :=
     fun ty => by rw [← hd]; exact run_next_any_at wr w.heap.size ⟨s.toArray⟩ pos ty R.hit (by rw [bsize]; exact hp)
    have Hd := hid ((decode_dropL s pos).symm.trans hd)
    clear hd
    have hdr : s.drop pos = s[pos] :: s.drop (pos + 1) := List.drop_eq_getElem_cons hp
    have hlh := let_head s[pos] (s.drop (pos + 1))
    have hid' := id_head s[pos] (s.drop (pos + 1))
    rw [← hdr, Hd.out] at hlh hid'
    have X1 : Ext none' w (wr.iterAt w.heap.size ⟨s.toArray⟩ (pos + d.2)) := R.hx.iterAt (.inr (Nat.le_refl _)) _ _
    have hit2 : (wr.iterAt w.heap.size ⟨s.toArray⟩ (pos + d.2)).heap[w.heap.size]? = some (.stringIter ⟨s.toArray⟩ (pos + d.2)) := iterAt_heap _ _ _ _ _ R.hit
    have hit := hid (iterPos_of R.hit)
    obtain ⟨d1, d2⟩ := d
    simp only at hlh hid' hnx X1 hit2 Hd
    have NX : Hid (idB s[pos] = true → (0 < pos ∨ figB s[pos].toNat = false) → (∃ ps, NmRel w.heap.size s w (wr.iterAt w.heap.size ⟨s.toArray⟩ (pos + d2)) ps) ∧ s.length - (wr.iterAt w.heap.size ⟨s.toArray⟩ (pos + d2)).iterPos w.heap.size < s.length - wr.iterPos w.heap.size) := hid fun hi h0 => by
     have e2 := hid'.2 hi
     subst e2
     refine ⟨⟨pos + 1, ⟨by omega, hit2, X1, ?_, ?_⟩⟩, by rw [iterPos_of hit2, hit.out]; omega⟩
     · intro c hc
       rw [List.take_add_one, List.getElem?_eq_getElem hp] at hc
       simp only [Option.toList_some, List.mem_append, List.mem_singleton] at hc
       rcases hc with hc | rfl
       · exact R.hall c hc
       · exact hi
     · intro _ c t hst
       rcases h0 with h0 | h0
       · exact R.hd h0 c t hst
       · by_cases hz : 0 < pos
         · exact R.hd hz c t hst
         · have : pos = 0 := by omega
           subst this
           subst hst
           exact h0
    have NO : Hid (idB s[pos] = false → p = false) := hid fun hn => by rw [HP.out]; exact nameB_no hp hn
    have NF : Hid (pos = 0 → figB s[pos].toNat = true → p = false) := hid fun hz hf => by
     subst hz
     rw [HP.out]
     cases s with
     | nil => simp at hp
     | cons c t => exact nameB_fig hf
    have LW := hid (letter_any d1 (wr.iterAt w.heap.size ⟨s.toArray⟩ (pos + d2)))
    have FW := hid (figure_any d1 (wr.iterAt w.heap.size ⟨s.toArray⟩ (pos + d2)))
    have HX1 := hid X1
    have hidb : idB s[pos] = (letterB s[pos].toNat || figB s[pos].toNat) := rfl
    obtain ⟨lb, hlb⟩ : ∃ b, letterB s[pos].toNat = b := ⟨_, rfl⟩
    obtain ⟨fb, hfb⟩ : ∃ b, figB s[pos].toNat = b := ⟨_, rfl⟩
    have hlf : lb = true → fb = false := fun h => by rw [← hfb]; exact let_fig0 (hlb.trans h)
    rw [hlh.1, hlb] at LW
    rw [hlh.2, hfb] at FW
    rw [hlb, hfb] at hidb
    rw [hidb, hfb] at NX
    rw [hidb] at NO
    rw [hfb] at NF
    clear hlh hid' hlb hfb hidb X1 hit2 hdr R
    cases lb with
    | true =>
     have hf0 := hlf rfl
     subst hf0
     have N := hid (NX.out rfl (.inr rfl))
     clear NX NO NF hlf FW
     go_wp2_with (go_at_call 113; refine LW.out.mono ?_; rintro e w1 ⟨rfl, rfl⟩)
     exact N.out
    | false =>
     clear hlf
     by_cases hz : pos = 0
     · have hp0 : Hid (p = false) := hid (by
        cases fb
        · exact NO.out rfl
        · exact NF.out hz rfl)
       have e0 : ((pos : Int) == 0) = true := by simp [hz]
       clear NX NO NF hz
       go_wp2_with (go_at_call 113; refine LW.out.mono ?_; rintro e w1 ⟨rfl, rfl⟩)
       go_ret
       exact ⟨by rw [hp0.out]; rfl, HX1.out⟩
     · have e0 : ((pos : Int) == 0) = false := by simp [hz]
       have hz' : 0 < pos := by omega
       cases fb with
       | true =>
        have N := hid (NX.out rfl (.inl hz'))
        clear NX NO NF hz hz'
        go_wp2_with (first | (go_at_call 113; refine LW.out.mono ?_; rintro e w1 ⟨rfl, rfl⟩) | (go_at_call 116; refine FW.out.mono ?_; rintro e w1 ⟨rfl, rfl⟩))
        exact N.out
       | false =>
        have hp0 := hid (NO.out rfl)
        clear NX NO NF hz hz'
        go_wp2_with (first | (go_at_call 113; refine LW.out.mono ?_; rintro e w1 ⟨rfl, rfl⟩) | (go_at_call 116; refine FW.out.mono ?_; rintro e w1 ⟨rfl, rfl⟩))
        go_ret
        exact ⟨by rw [hp0.out]; rfl, HX1.out⟩
  · have hnx : ∀ ty, (Instr.next (.pointer (some ⟨w.heap.size, 0, none⟩)) true ty).run Tryz.prog wr = _ := fun ty => run_next_end_at wr w.heap.size ⟨s.toArray⟩ pos ty R.hit (by rw [bsize]; exact hp)
    have RR := hid R
    clear R
    by_cases hs0 : s = []
    · have hp0 : Hid (p = false) := hid (by rw [HP.out, hs0]; rfl)
      subst hs0
      go_wp2_with fail
      go_ret
      exact ⟨by rw [hp0.out]; rfl, RR.out.hx⟩
    · have hpl : pos = s.length := by omega
      have hpe : Hid (p = (wordK s == 0)) := hid (by
       rw [HP.out]
       exact nameB_end hs0 (fun c hc => RR.out.hall c (by rw [hpl, List.take_length]; exact hc)) (RR.out.hd (by have := List.length_pos_iff.2 hs0; omega)))
      have hsb : (s == []) = false := by simpa using hs0
      have WW := hid (word_any s wr)
      obtain ⟨k, hk⟩ : ∃ k, wordK s = k := ⟨_, rfl⟩
      rw [hk] at WW hpe
      clear hk hpl
      go_wp2_with (go_at_call 118; refine WW.out.mono ?_; rintro e w1 ⟨rfl, rfl⟩)
      go_ret
      refine ⟨?_, RR.out.hx⟩
      rw [hpe.out]
      congr 2
      simp
      rw [Bool.eq_iff_iff, beq_iff_eq, beq_iff_eq]
      omega
def nmB (s : List UInt8) : Bool := decide (s.length ≤ 100) && nameB s
theorem tname_any (s : List UInt8) (w : World) : Calls Tryz.prog 99 #[.string ⟨s.toArray⟩] w (BoolP (nmB s) w) := by
 obtain ⟨r, hr⟩ : ∃ r, r = nmB s := ⟨_, rfl⟩
 rw [← hr]
 unfold nmB at hr
 by_cases hs : s.length ≤ 100
 · have q : decide (s.length ≤ 100) = true := decide_eq_true hs
   rw [q] at hr
   have HR := hid hr
   have CN := hid fun W => name_any s W (by omega)
   obtain ⟨b, hb⟩ : ∃ b, nameB s = b := ⟨_, rfl⟩
   rw [hb] at CN HR
   have hz : (s.length : Int) ≤ 100 := by omega
   clear hr hb
   go_enter Tryz.func99, Tryz.ntmps99
   go_wp2_with fail
   refine (CN.out _).mono ?_
   rintro e w1 ⟨rfl, X1⟩
   have X1 := hid X1
   go_wp2_with fail
   go_ret
   exact ⟨by rw [HR.out]; cases b <;> rfl, X1.out⟩
 · have q : decide (s.length ≤ 100) = false := decide_eq_false hs
   rw [q] at hr
   have HR := hid hr
   have hz : ¬ (s.length : Int) ≤ 100 := by omega
   clear hr
   go_enter Tryz.func99, Tryz.ntmps99
   go_wp2_with fail
   go_ret
   exact ⟨by rw [HR.out]; rfl, Ext.refl _ _⟩
theorem tname_so (w : World) : SoV nmB w (.func (.func 99) #[] #[]) :=
 ⟨_, _, rfl, Go.Proofs.enters_of Tryz.func99 (by kernel_rfl) rfl, fun s W _ _ => tname_any s W⟩
theorem noT_so (w : World) : SoV noT w (.func (.func 145) #[] #[]) := by
 refine ⟨_, _, rfl, Go.Proofs.enters_of Tryz.func145 (by kernel_rfl) rfl, fun s W _ _ => ?_⟩
 show Calls Tryz.prog 145 #[_] W (BoolP (s == []) W)
 obtain ⟨q, hq⟩ : ∃ q, (s == []) = q := ⟨_, rfl⟩
 rw [hq]
 go_enter Tryz.func145, Tryz.ntmps145
 go_wp2_with fail
 go_ret
 exact ⟨rfl, Ext.refl _ _⟩
abbrev TyH (f : Nat) (ty : Nd → Bool) : Prop := ∀ (t : Nd), t.size ≤ f → ∀ (v : Value) (w : World), NdV none' w t v → Calls Tryz.prog 102 #[v] w (BoolP (ty t) w)
theorem type_ask {f : Nat} {ty : Nd → Bool} (H : TyH f ty) (w : World) : AskV f ty w (.func (.func 102) #[] #[]) :=
 ⟨_, _, rfl, Go.Proofs.enters_of Tryz.func102 (by kernel_rfl) rfl, fun t ht W x _ hx => H t ht x W hx⟩
theorem ofB_named (so : List UInt8 → Bool) (k : Int) (hk : k ≠ 37) (ps : List (Nd → Bool)) (t : Nd) : ofB k ps (namedP so t) = namB so k ps t := by
 unfold ofB namedP namB
 cases so t.text
 · have : ((37 : Int) == k) = false := by simpa using Ne.symm hk
   simp [Nd.kind, this]
 · simp [Nd.kind, Nd.text, Nd.kids]
theorem named_kids {so : List UInt8 → Bool} {t : Nd} {f : Nat} (h : t.size ≤ f) (i : Nat) (hi : i < (namedP so t).kids.length) : (namedP so t).kids[i].size ≤ f := by
 have hm := List.getElem_mem hi
 have : ∀ x ∈ (namedP so t).kids, x.size ≤ f := fun x hx => by
  unfold namedP at hx
  split at hx
  · have := Nd.size_kid (t := t) hx; omega
  · cases hx
 exact this _ hm
theorem named_len (so : List UInt8 → Bool) (t : Nd) (h : t.size ≤ bigD) : (namedP so t).kids.length ≤ bigD := by
 unfold namedP
 split
 · have := t.kids_len; show t.kids.length ≤ bigD; omega
 · exact Nat.zero_le _
theorem sig1_ask (f : Nat) (hf : f ≤ bigD) (ty : Nd → Bool) (H : TyH f ty) (so : List UInt8 → Bool) (w : World) (u : Value) (B : Nat) (hb : w.heap[B]? = some (.cells #[u] 53 (0, 0))) (hu : SoV so w u) :
 AskV f (namB so 8 [ty]) w (.func (.func 183) #[] #[.pointer (some ⟨B, 0, none⟩)]) := by
 refine ⟨_, _, rfl, Go.Proofs.enters_of Tryz.func183 (by kernel_rfl) rfl, fun t ht W x X hx => ?_⟩
 show Calls Tryz.prog 183 #[_, _] _ (BoolP (namB so 8 [ty] t) W)
 rw [← ofB_named so 8 (by omega) [ty] t]
 have CN := hid fun W' (X' : Ext none' W W') => named_any so t x u W' (by have := t.size_text; omega) (hx.ext X' fun _ _ h => h) (hu.ext (X.trans X'))
 have CO := hid fun W' v' u' (hv' : NdV none' W' (namedP so t) v') (hu' : AsksV f [ty] W' u') => of_any f 8 [ty] (namedP so t) v' u' W' (named_len so t (by omega)) (by simp) (fun i hi => named_kids ht i hi) hv' hu'
 obtain ⟨q, hq⟩ : ∃ q, ofB 8 [ty] (namedP so t) = q := ⟨_, rfl⟩
 obtain ⟨r, hr⟩ : ∃ r, namedP so t = r := ⟨_, rfl⟩
 rw [hq] at CO ⊢
 rw [hr] at CN CO
 have TA := hid fun W => type_ask H W
 obtain ⟨y, rfl, hy⟩ := hx
 obtain ⟨a1, cap1, rfl, _⟩ := hy
 obtain ⟨fn, caps, rfl, _⟩ := hu
 have c0 := cell_at (heap_alloc_keep (X.heap hb fun h => h) (.cells #[.int .i64 t.kind, .string ⟨t.text.toArray⟩, .slice a1 t.kids.length cap1, .int .i64 t.pos] 24)) 0
 simp only [List.getElem?_toArray, List.getElem?_cons_zero] at c0
 clear hq hr hb X H ht
 go_enter Tryz.func183, Tryz.ntmps183
 go_wp2_with fail
 refine (CN.out _ ((Ext.refl _ _).alloc _)).mono ?_
 rintro e w1 ⟨v', rfl, hv', X1⟩
 have HV' := hid hv'
 obtain ⟨y', rfl, hy'⟩ := hv'
 obtain ⟨a5, cap5, rfl, _⟩ := hy'
 have X1 := hid (((Ext.refl none' W).alloc _).trans X1)
 go_wp2_with fail
 have Y := (Ext.refl none' w1).alloc (.cells #[.func (.func 102) #[] #[]] 41)
 refine (CO.out _ _ _ (HV'.out.ext Y fun _ _ h => h) (AsksV.lit1 (heap_alloc_at rfl _) (TA.out _))).mono ?_
 rintro e w2 ⟨rfl, X2⟩
 have X2 := hid (X1.out.trans (Y.trans X2))
 clear Y
 go_wp2_with fail
 go_ret
 exact ⟨rfl, X2.out⟩
theorem sig2_ask (f : Nat) (hf : f ≤ bigD) (p : Nd → Bool) (w : World) (u : Value) (B : Nat) (hb : w.heap[B]? = some (.cells #[u] 41 (0, 0))) (hu : AskV f p w u) :
 AskV f (listB p) w (.func (.func 184) #[] #[.pointer (some ⟨B, 0, none⟩)]) := by
 refine ⟨_, _, rfl, Go.Proofs.enters_of Tryz.func184 (by kernel_rfl) rfl, fun t ht W x X hx => ?_⟩
 show Calls Tryz.prog 184 #[_, _] _ (BoolP (listB p t) W)
 have CL := hid fun W' (X' : Ext none' W W') => list_any f p t x u W' (by have := t.kids_len; omega) (fun i hi => by have := Nd.size_kid (t := t) (List.getElem_mem hi); omega) (hx.ext X' fun _ _ h => h) (hu.ext (X.trans X'))
 obtain ⟨q, hq⟩ : ∃ q, listB p t = q := ⟨_, rfl⟩
 rw [hq] at CL ⊢
 obtain ⟨y, rfl, hy⟩ := hx
 obtain ⟨a1, cap1, rfl, _⟩ := hy
 obtain ⟨fn, caps, rfl, _⟩ := hu
 have c0 := cell_at (heap_alloc_keep (X.heap hb fun h => h) (.cells #[.int .i64 t.kind, .string ⟨t.text.toArray⟩, .slice a1 t.kids.length cap1, .int .i64 t.pos] 24)) 0
 simp only [List.getElem?_toArray, List.getElem?_cons_zero] at c0
 clear hq hb X ht
 go_enter Tryz.func184, Tryz.ntmps184
 go_wp2_with fail
 refine (CL.out _ ((Ext.refl _ _).alloc _)).mono ?_
 rintro e w1 ⟨rfl, X1⟩
 have X1 := hid (((Ext.refl none' W).alloc _).trans X1)
 go_wp2_with fail
 go_ret
 exact ⟨rfl, X1.out⟩
theorem sig_any (f : Nat) (hf : f + 1 ≤ bigD) (ty : Nd → Bool) (H : TyH f ty) (so : List UInt8 → Bool) (t : Nd) (ht : t.size ≤ f + 1) (v u : Value) (w : World) (hv : NdV none' w t v) (hu : SoV so w u) :
 Calls Tryz.prog 144 #[v, u] w (BoolP (sigB ty so t) w) := by
 have hf0 : f ≤ bigD := by omega
 have CO := hid fun W v' u' (hv' : NdV none' W t v') (hu' : AsksV f [listB (namB so 8 [ty]), fun r => emptyB r || ty r] W u') => of_any f 12 _ t v' u' W (by have := t.kids_len; omega) (by simp) (fun i hi => by have := Nd.size_kid (t := t) (List.getElem_mem hi); omega) hv' hu'
 have CR := hid fun W => or_any f emptyB ty W _ _ (empty_ask f W) (type_ask H W)
 have HV := hid hv
 have HU := hid hu
 obtain ⟨x, rfl, hx⟩ := hv
 obtain ⟨a1, cap1, rfl, _⟩ := hx
 obtain ⟨fn, caps, rfl, _⟩ := hu
 have S1 := hid fun W (X : Ext none' w W) B hb => sig1_ask f hf0 ty H so W (.func (.func fn) #[] caps) B hb (HU.out.ext X)
 obtain ⟨q, hq⟩ : ∃ q, sigB ty so t = q := ⟨_, rfl⟩
 rw [hq]
 unfold sigB at hq
 rw [hq] at CO
 have hf1 := hid hf0
 have rs := fun (W : World) (a : Addr) (fn : Fn) (fi ca : Array Value) (m : Mode) => run_store Tryz.prog W a (.func fn fi ca) m rfl
 clear hq H hf hf0 ht
 go_enter Tryz.func144, Tryz.ntmps144
 go_upto_region 2 with (fail)
 obtain ⟨B, hB⟩ : ∃ B, B = w.heap.size := ⟨_, rfl⟩
 rw [← hB]
 obtain ⟨W1, hW1⟩ : ∃ W1, W1 = (((w.alloc (.cells #[.int .i64 t.kind, .string ⟨t.text.toArray⟩, .slice a1 t.kids.length cap1, .int .i64 t.pos] 24)).alloc (.cells #[.func (.func fn) #[] caps] 53)).alloc (.cells #[.func (.func 183) #[] #[.pointer (some ⟨B + 1, 0, none⟩)]] 41)) := ⟨_, rfl⟩
 rw [← hW1]
 have X1 := hid (show Ext none' w W1 by rw [hW1]; exact (((Ext.refl _ _).alloc _).alloc _).alloc _)
 have g0 : W1.heap[B]? = some (.cells #[.int .i64 t.kind, .string ⟨t.text.toArray⟩, .slice a1 t.kids.length cap1, .int .i64 t.pos] 24 (0, 0)) := by rw [hW1]; exact heap_alloc_keep (heap_alloc_keep (heap_alloc_at hB _) _) _
 have g1 := hid (show W1.heap[B + 1]? = some (.cells #[.func (.func fn) #[] caps] 53 (0, 0)) by rw [hW1]; exact heap_alloc_keep (heap_alloc_at (by rw [hB]; simp) _) _)
 have g2 := hid (show W1.heap[B + 1 + 1]? = some (.cells #[.func (.func 183) #[] #[.pointer (some ⟨B + 1, 0, none⟩)]] 41 (0, 0)) by rw [hW1]; exact heap_alloc_at (by rw [hB]; simp) _)
 obtain ⟨y0, y1, y2, y3⟩ := cell4L fun t' : LaterF none' W1 => t'.x.heap g0 fun h => h
 clear hW1 hB g0 rs
 refine region_q none' W1 (.qs [0, 1] (.one 2 true (.one 3 true (.one 4 false (.one 5 false .fin))))) (by kernel_rfl) (by kernel_rfl) (fun dst v c a w h => by cases dst <;> exact h) ?_
 refine ⟨In.of (Ext.refl _ _).drew, ?_⟩
 change wpQuiet _ _ (fun w' => ∃ t : LaterF none' W1, w' = t.w) _ _ _
 simp only [sel, List.getElem?_cons_succ, List.getElem?_cons_zero]
 repeat (go_big_quiet_step (fail))
 refine wpQuiet_nil ?_
 simp only [wpTreeQ, stepT, sel, List.getElem?_cons_succ, List.getElem?_cons_zero]
 have D1 := hid (Ext.refl none' W1).drew
 clear y0 y1 y2 y3
 go_wp2_with fail
 refine (CR.out _).mono ?_
 rintro e w2 ⟨u2, rfl, hu2, X2⟩
 have X2 := hid (D1.out.trans X2)
 have HU2 := hid hu2
 obtain ⟨fn2, caps2, rfl, _⟩ := hu2
 go_wp2_with fail
 refine ⟨In.of X2.out, ?_⟩
 go_wp2_with fail
 have Y := hid ((Ext.refl none' w2).alloc (.cells #[.func (.func 184) #[] #[.pointer (some ⟨B + 1 + 1, 0, none⟩)], .func (.func fn2) #[] caps2] 41))
 refine ⟨In.of (X2.out.trans Y.out), ?_⟩
 go_wp2_with fail
 have XA := X2.out.trans Y.out
 have XB := X1.out.trans XA
 have K1 := S1.out _ XB (B + 1) (XA.heap g1.out fun h => h)
 have K2 := sig2_ask f hf1.out _ _ _ (B + 1 + 1) (XA.heap g2.out fun h => h) K1
 refine (CO.out _ _ _ (HV.out.ext XB fun _ _ h => h) (AsksV.lit2 (heap_alloc_at rfl _) K2 (HU2.out.ext Y.out))).mono ?_
 rintro e w3 ⟨rfl, X3⟩
 have X3 := hid (XB.trans X3)
 clear XA XB K1 K2
 go_wp2_with fail
 go_ret
 exact ⟨rfl, X3.out⟩
end Go.Proofs.YthbmjamgidfneaaGreatDoor
