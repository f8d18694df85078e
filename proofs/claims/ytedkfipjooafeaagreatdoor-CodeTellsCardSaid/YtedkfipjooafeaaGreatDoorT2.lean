/-
  DERIVED: THE SHELF's CONTRACTS AT THIS DUMP, IN PLAIN WORDS (tools/lay-plain.mjs out of 'TryzShelf.lean', which tools/lay-shelf.mjs wrote): THE SAME DECLARATIONS UNDER THE SAME NAMES: 'import', 'namespace', 'open', 'def', 'theorem' AND NOTHING ELSE: no command of the shelf's: FOR A HAND-IN. Each laying: the table of numbers ('.._ren') and one theorem, a field a fact of the dump's own or the kernel's comparison; each contract: ONE APPLICATION. Contracts of numbers as bytes. Contracts of the builder of texts. Rows that a call makes itself: born, and grown; the package variables that the library reads. A scope with a label ahead of which is a little, and to which is jumped back: the pass proved once. Contracts of what tells whether a program may be.
-/
import Derived.Shelf.Strings.Builder1
import Derived.Shelf.Strings.Builder2
import Derived.Shelf.Strings.OnBuilder
import Derived.Shelf.Strconv.Atoi
import Derived.Shelf.Strconv.Itoa0
import Derived.Shelf.Strconv.Itoa1
import Derived.Shelf.LaysM
import Derived.Shelf.Strconv.Itoa2
import Derived.Shelf.Strconv.Itoa3
import Derived.Shelf.Strconv.AtoiErrFast
import Derived.Shelf.Strconv.ParseIntEmpty
import Derived.Shelf.Strconv.AtoiFail
import Derived.Shelf.Strconv.Clone
import Derived.Shelf.Strconv.SyntaxError
import Derived.Shelf.LaysC
import Derived.Shelf.Strconv.ToError
import Derived.Shelf.Strconv.Lower
import Derived.Shelf.Strconv.ParseUint10
import Derived.Shelf.Strconv.ParseUint10Empty
import Derived.Shelf.Strconv.ParseUint10Any
import Derived.Shelf.Strconv.ParseInt10
import Derived.Shelf.Strconv.AtoiLong
import Derived.Shelf.Strconv.AtoiInnerAll
import Derived.Shelf.Strconv.RangeError
import Derived.Shelf.Strconv.ToErrorRange
import Derived.Shelf.Strconv.AtoiAll
import Derived.Shelf.Strconv.ErrVarAll
import Derived.Shelf.Strconv.ParseUintEmpty
import Derived.Shelf.Strconv.ParseUint10b64
import Derived.Shelf.Strconv.ParseUint10b32
import Derived.Shelf.Strconv.ParseUint10b16
import Derived.Shelf.Strconv.ParseUint10b8
import Derived.Shelf.Strconv.ParseUint10At
import Derived.Shelf.Strconv.ParseInt10At64
import Derived.Shelf.Strconv.ParseInt10At32
import Derived.Shelf.Strconv.ParseInt10At16
import Derived.Shelf.Strconv.ParseInt10At8
import Derived.Shelf.Strconv.ParseInt10All
import Derived.Shelf.Strings.Search1
import Derived.Shelf.Strings.Search2
import Derived.Shelf.Strings.Search3
import Derived.Shelf.Strings.Cut
import Derived.Shelf.Strings.Count
import Derived.Shelf.Strings.Shaped
import Derived.Shelf.Strings.Split
import Derived.Shelf.Strings.SplitShaped
import Derived.Shelf.Unicode.DecodeSlow
import Derived.Test.YtedkfipjooafeaaGreatDoorProg
import Derived.WalkMore
import Derived.ScopeJumps
import Derived.OwnWalk
import Derived.Maps.AppendAt
import Derived.IntWalk
import Derived.Laws.BytesString
import Derived.Laws.Rows
import Derived.Shelf.Strings.BuilderK
import Derived.Deep.AppendLies
import Derived.Lib.AppendIntMem
import Derived.WalkKit
import Derived.LoopTactic
import Derived.BigFrame
import Derived.Test.YtedkfipjooafeaaGreatDoorT1
set_option linter.unusedSimpArgs false
set_option linter.unusedVariables false
namespace Go.Proofs
open Go.Shelf
def Tryz.lays156_ren : Go.Shelf.Ren := ⟨fun | 156 => 90 | 165 => 103 | 166 => 40 | 169 => 43 | 240 => 71 | 241 => 116 | 276 => 88 | 277 => 127 | n => n, fun | 31 => 45 | 9 => 9 | 3 => 3 | 4 => 4 | 0 => 0 | 20 => 20 | 72 => 69 | 76 => 72 | 70 => 66 | 37 => 67 | 75 => 71 | 127 => 106 | 164 => 123 | 5 => 5 | 80 => 76 | n => n, fun | n => n⟩
theorem Tryz.lays156 : Go.Proofs.Lays.n156 Tryz.prog Tryz.lays156_ren := {
  mixed := by kernel_rfl
  f156 := Tryz.func90.trans (congrArg some (by kernel_rfl))
  f165 := Tryz.func103.trans (congrArg some (by kernel_rfl))
  f166 := Tryz.func40.trans (congrArg some (by kernel_rfl))
  f169 := Tryz.func43.trans (congrArg some (by kernel_rfl))
  f240 := Tryz.func71.trans (congrArg some (by kernel_rfl))
  f241 := Tryz.func116.trans (congrArg some (by kernel_rfl))
  f276 := Tryz.func88.trans (congrArg some (by kernel_rfl))
  f277 := Tryz.func127.trans (congrArg some (by kernel_rfl))
  t0 := Tryz.underlying0
  a0 := Tryz.isAgg0
  z0 := Tryz.sizeOf0
  v0 := Tryz.zeroValue0
  t3 := Tryz.underlying3
  a3 := Tryz.isAgg3
  z3 := Tryz.sizeOf3
  v3 := Tryz.zeroValue3
  t4 := Tryz.underlying4
  a4 := Tryz.isAgg4
  z4 := Tryz.sizeOf4
  v4 := Tryz.zeroValue4
  t9 := Tryz.underlying9
  a9 := Tryz.isAgg9
  z9 := Tryz.sizeOf9
  v9 := Tryz.zeroValue9
  t20 := Tryz.underlying20
  a20 := Tryz.isAgg20
  z20 := Tryz.sizeOf20
  v20 := Tryz.zeroValue20
  t31 := Tryz.underlying45
  a31 := Tryz.isAgg45
  z31 := Tryz.sizeOf45
  v31 := Tryz.zeroValue45
  t37 := Tryz.underlying67
  a37 := Tryz.isAgg67
  z37 := Tryz.sizeOf67
  v37 := Tryz.zeroValue67
  t70 := Tryz.underlying66
  a70 := Tryz.isAgg66
  z70 := Tryz.sizeOf66
  v70 := Tryz.zeroValue66
  t72 := Tryz.underlying69
  a72 := Tryz.isAgg69
  z72 := Tryz.sizeOf69
  v72 := Tryz.zeroValue69
  t75 := Tryz.underlying71
  a75 := Tryz.isAgg71
  z75 := Tryz.sizeOf71
  v75 := Tryz.zeroValue71
  t76 := Tryz.underlying72
  a76 := Tryz.isAgg72
  z76 := Tryz.sizeOf72
  v76 := Tryz.zeroValue72
  t127 := Tryz.underlying106
  a127 := Tryz.isAgg106
  z127 := Tryz.sizeOf106
  v127 := Tryz.zeroValue106
  t164 := Tryz.underlying123
  a164 := Tryz.isAgg123
  z164 := Tryz.sizeOf123
  v164 := Tryz.zeroValue123 }
theorem Tryz.Builder_Extra_156 : Builder.Extra Tryz.prog Tryz.lays156_ren := {
  sizeBuilder := by kernel_rfl
  liesBuilder := by kernel_rfl
  t5 := Tryz.underlying5
  a5 := Tryz.isAgg5
  z5 := Tryz.sizeOf5
  v5 := Tryz.zeroValue5
  infoByte := by kernel_rfl
  cellsByte := by kernel_rfl
  sizeByte := by kernel_rfl
  neB5 := by decide }
open Go.RowKit in
theorem Tryz.strings_Join (bk o c : Nat) (xs : List ByteArray) (sep : ByteArray) (w : World) (hcells : ∀ (j : Nat) x, xs[j]? = some x → w.cell? ⟨bk, o + j, none⟩ = some (.string x)) (hbk : bk < w.heap.size) (hN : xs.length ≤ 140737488355328) (hcap : xs.length ≤ c) (hlen : (Lib.join (xs.map (·.data.toList)) sep.data.toList).length ≤ 140737488355328) :
    Calls Tryz.prog 90 #[.slice (some ⟨bk, o, none⟩) xs.length c, .string sep] w fun e w' => e = .returned (.string ⟨(Lib.join (xs.map (·.data.toList)) sep.data.toList).toArray⟩) ∧ Below w.heap.size w w' := Any.strings_Join Tryz.lays156 Tryz.Builder_Extra_156 bk o c xs sep w hcells hbk hN hcap hlen
def Tryz.laysM171_ren : Go.Shelf.Ren := ⟨fun | 171 => 89 | 243 => 102 | 246 => 115 | 283 => 123 | 284 => 124 | 285 => 125 | 286 => 126 | 129 => 132 | 317 => 131 | 318 => 133 | 319 => 134 | 320 => 135 | 337 => 136 | 338 => 137 | n => n, fun | 3 => 3 | 9 => 9 | 2 => 2 | 4 => 4 | 171 => 154 | 0 => 0 | 53 => 147 | 37 => 67 | 5 => 5 | 173 => 157 | 212 => 165 | 51 => 127 | 20 => 20 | 213 => 166 | 46 => 107 | 232 => 173 | 233 => 174 | n => n, fun | 17 => 3 | 18 => 6 | 19 => 7 | n => n⟩
theorem Tryz.laysM171 : Go.Proofs.LaysM.n171 Tryz.prog Tryz.laysM171_ren := {
  mixed := by kernel_rfl
  f129 := Tryz.func132.trans (congrArg some (by kernel_rfl))
  f171 := Tryz.func89.trans (congrArg some (by kernel_rfl))
  f243 := Tryz.func102.trans (congrArg some (by kernel_rfl))
  f246 := Tryz.func115.trans (congrArg some (by kernel_rfl))
  f283 := Tryz.func123.trans (congrArg some (by kernel_rfl))
  f284 := Tryz.func124.trans (congrArg some (by kernel_rfl))
  f285 := Tryz.func125.trans (congrArg some (by kernel_rfl))
  f286 := Tryz.func126.trans (congrArg some (by kernel_rfl))
  f317 := Tryz.func131.trans (congrArg some (by kernel_rfl))
  f318 := Tryz.func133.trans (congrArg some (by kernel_rfl))
  f319 := Tryz.func134.trans (congrArg some (by kernel_rfl))
  f320 := Tryz.func135.trans (congrArg some (by kernel_rfl))
  f337 := Tryz.func136.trans (congrArg some (by kernel_rfl))
  f338 := Tryz.func137.trans (congrArg some (by kernel_rfl))
  t0 := Tryz.underlying0
  a0 := Tryz.isAgg0
  z0 := Tryz.sizeOf0
  v0 := Tryz.zeroValue0
  t2 := Tryz.underlying2
  a2 := Tryz.isAgg2
  z2 := Tryz.sizeOf2
  v2 := Tryz.zeroValue2
  t3 := Tryz.underlying3
  a3 := Tryz.isAgg3
  z3 := Tryz.sizeOf3
  v3 := Tryz.zeroValue3
  t4 := Tryz.underlying4
  a4 := Tryz.isAgg4
  z4 := Tryz.sizeOf4
  v4 := Tryz.zeroValue4
  t5 := Tryz.underlying5
  a5 := Tryz.isAgg5
  z5 := Tryz.sizeOf5
  v5 := Tryz.zeroValue5
  t9 := Tryz.underlying9
  a9 := Tryz.isAgg9
  z9 := Tryz.sizeOf9
  v9 := Tryz.zeroValue9
  t20 := Tryz.underlying20
  a20 := Tryz.isAgg20
  z20 := Tryz.sizeOf20
  v20 := Tryz.zeroValue20
  t37 := Tryz.underlying67
  a37 := Tryz.isAgg67
  z37 := Tryz.sizeOf67
  v37 := Tryz.zeroValue67
  t46 := Tryz.underlying107
  a46 := Tryz.isAgg107
  z46 := Tryz.sizeOf107
  v46 := Tryz.zeroValue107
  t51 := Tryz.underlying127
  a51 := Tryz.isAgg127
  z51 := Tryz.sizeOf127
  v51 := Tryz.zeroValue127
  t53 := Tryz.underlying147
  a53 := Tryz.isAgg147
  z53 := Tryz.sizeOf147
  v53 := Tryz.zeroValue147
  t171 := Tryz.underlying154
  a171 := Tryz.isAgg154
  z171 := Tryz.sizeOf154
  v171 := Tryz.zeroValue154
  t173 := Tryz.underlying157
  a173 := Tryz.isAgg157
  z173 := Tryz.sizeOf157
  v173 := Tryz.zeroValue157
  t212 := Tryz.underlying165
  a212 := Tryz.isAgg165
  z212 := Tryz.sizeOf165
  v212 := Tryz.zeroValue165
  t213 := Tryz.underlying166
  a213 := Tryz.isAgg166
  z213 := Tryz.sizeOf166
  t232 := Tryz.underlying173
  a232 := Tryz.isAgg173
  z232 := Tryz.sizeOf173
  v232 := Tryz.zeroValue173
  t233 := Tryz.underlying174
  a233 := Tryz.isAgg174
  z233 := Tryz.sizeOf174
  v233 := Tryz.zeroValue174
  g17 := by kernel_rfl
  g18 := by kernel_rfl
  g19 := by kernel_rfl
  i0 := by kernel_rfl
  i2 := by kernel_rfl
  i3 := by kernel_rfl
  i4 := by kernel_rfl
  i5 := by kernel_rfl
  i9 := by kernel_rfl
  i20 := by kernel_rfl
  i37 := by kernel_rfl
  i46 := by kernel_rfl
  i51 := by kernel_rfl
  i53 := by kernel_rfl
  i171 := by kernel_rfl
  i173 := by kernel_rfl
  i212 := by kernel_rfl
  i232 := by kernel_rfl
  i233 := by kernel_rfl
  m17 := by kernel_rfl
  m18 := by kernel_rfl
  m19 := by kernel_rfl }
open Go.RowKit Go.Sort Go.Lib in
theorem Tryz.strconv_Itoa (n : Int) (h0 : -9223372036854775808 ≤ n) (h1 : n ≤ 9223372036854775807) (w : World) (htab : Lib.TabIs Tryz.prog w "internal/strconv.uint64pow10" .u64 Lib.pow10Tab) :
    Calls Tryz.prog 89 #[.int .i64 n] w fun e w' => e = .returned (.string ⟨(Lib.itoa n).toArray⟩) ∧ ∃ k os, w' = grow (w.drewN k) os := Any.strconv_Itoa Tryz.laysM171 n h0 h1 w htab
def Tryz.laysC172_ren : Go.Shelf.Ren := ⟨fun | 172 => 81 | 244 => 100 | 245 => 101 | 247 => 110 | 279 => 111 | 280 => 112 | 281 => 113 | 282 => 114 | 287 => 120 | 316 => 121 | 171 => 89 | 205 => 122 | 321 => 129 | 322 => 130 | 243 => 102 | 246 => 115 | 283 => 123 | 284 => 124 | 285 => 125 | 286 => 126 | 129 => 132 | 317 => 131 | 318 => 133 | 319 => 134 | 320 => 135 | 337 => 136 | 338 => 137 | n => n, fun | 9 => 9 | 3 => 3 | 75 => 71 | 76 => 72 | 4 => 4 | 5 => 5 | 167 => 138 | 37 => 67 | 0 => 0 | 85 => 139 | 2 => 2 | 168 => 141 | 53 => 147 | 175 => 148 | 46 => 107 | 210 => 152 | 127 => 106 | 145 => 163 | 143 => 161 | 21 => 21 | 171 => 154 | 173 => 157 | 212 => 165 | 51 => 127 | 20 => 20 | 213 => 166 | 232 => 173 | 233 => 174 | 80 => 76 | n => n, fun | 15 => 1 | 16 => 2 | 17 => 3 | 18 => 6 | 19 => 7 | n => n⟩
theorem Tryz.laysC172 : Go.Proofs.LaysC.n172 Tryz.prog Tryz.laysC172_ren := {
  mixed := by kernel_rfl
  f129 := Tryz.func132.trans (congrArg some (by kernel_rfl))
  f171 := Tryz.func89.trans (congrArg some (by kernel_rfl))
  f172 := Tryz.func81.trans (congrArg some (by kernel_rfl))
  f205 := Tryz.func122.trans (congrArg some (by kernel_rfl))
  f243 := Tryz.func102.trans (congrArg some (by kernel_rfl))
  f244 := Tryz.func100.trans (congrArg some (by kernel_rfl))
  f245 := Tryz.func101.trans (congrArg some (by kernel_rfl))
  f246 := Tryz.func115.trans (congrArg some (by kernel_rfl))
  f247 := Tryz.func110.trans (congrArg some (by kernel_rfl))
  f279 := Tryz.func111.trans (congrArg some (by kernel_rfl))
  f280 := Tryz.func112.trans (congrArg some (by kernel_rfl))
  f281 := Tryz.func113.trans (congrArg some (by kernel_rfl))
  f282 := Tryz.func114.trans (congrArg some (by kernel_rfl))
  f283 := Tryz.func123.trans (congrArg some (by kernel_rfl))
  f284 := Tryz.func124.trans (congrArg some (by kernel_rfl))
  f285 := Tryz.func125.trans (congrArg some (by kernel_rfl))
  f286 := Tryz.func126.trans (congrArg some (by kernel_rfl))
  f287 := Tryz.func120.trans (congrArg some (by kernel_rfl))
  f316 := Tryz.func121.trans (congrArg some (by kernel_rfl))
  f317 := Tryz.func131.trans (congrArg some (by kernel_rfl))
  f318 := Tryz.func133.trans (congrArg some (by kernel_rfl))
  f319 := Tryz.func134.trans (congrArg some (by kernel_rfl))
  f320 := Tryz.func135.trans (congrArg some (by kernel_rfl))
  f321 := Tryz.func129.trans (congrArg some (by kernel_rfl))
  f322 := Tryz.func130.trans (congrArg some (by kernel_rfl))
  f337 := Tryz.func136.trans (congrArg some (by kernel_rfl))
  f338 := Tryz.func137.trans (congrArg some (by kernel_rfl))
  t0 := Tryz.underlying0
  a0 := Tryz.isAgg0
  z0 := Tryz.sizeOf0
  v0 := Tryz.zeroValue0
  t2 := Tryz.underlying2
  a2 := Tryz.isAgg2
  z2 := Tryz.sizeOf2
  v2 := Tryz.zeroValue2
  t3 := Tryz.underlying3
  a3 := Tryz.isAgg3
  z3 := Tryz.sizeOf3
  v3 := Tryz.zeroValue3
  t4 := Tryz.underlying4
  a4 := Tryz.isAgg4
  z4 := Tryz.sizeOf4
  v4 := Tryz.zeroValue4
  t5 := Tryz.underlying5
  a5 := Tryz.isAgg5
  z5 := Tryz.sizeOf5
  v5 := Tryz.zeroValue5
  t9 := Tryz.underlying9
  a9 := Tryz.isAgg9
  z9 := Tryz.sizeOf9
  v9 := Tryz.zeroValue9
  t20 := Tryz.underlying20
  a20 := Tryz.isAgg20
  z20 := Tryz.sizeOf20
  v20 := Tryz.zeroValue20
  t21 := Tryz.underlying21
  a21 := Tryz.isAgg21
  z21 := Tryz.sizeOf21
  v21 := Tryz.zeroValue21
  t37 := Tryz.underlying67
  a37 := Tryz.isAgg67
  z37 := Tryz.sizeOf67
  v37 := Tryz.zeroValue67
  t46 := Tryz.underlying107
  a46 := Tryz.isAgg107
  z46 := Tryz.sizeOf107
  v46 := Tryz.zeroValue107
  t51 := Tryz.underlying127
  a51 := Tryz.isAgg127
  z51 := Tryz.sizeOf127
  v51 := Tryz.zeroValue127
  t53 := Tryz.underlying147
  a53 := Tryz.isAgg147
  z53 := Tryz.sizeOf147
  v53 := Tryz.zeroValue147
  t75 := Tryz.underlying71
  a75 := Tryz.isAgg71
  z75 := Tryz.sizeOf71
  v75 := Tryz.zeroValue71
  t76 := Tryz.underlying72
  a76 := Tryz.isAgg72
  z76 := Tryz.sizeOf72
  v76 := Tryz.zeroValue72
  t85 := Tryz.underlying139
  a85 := Tryz.isAgg139
  z85 := Tryz.sizeOf139
  v85 := Tryz.zeroValue139
  t127 := Tryz.underlying106
  a127 := Tryz.isAgg106
  z127 := Tryz.sizeOf106
  v127 := Tryz.zeroValue106
  t143 := Tryz.underlying161
  a143 := Tryz.isAgg161
  z143 := Tryz.sizeOf161
  v143 := Tryz.zeroValue161
  t145 := Tryz.underlying163
  a145 := Tryz.isAgg163
  z145 := Tryz.sizeOf163
  v145 := Tryz.zeroValue163
  t167 := Tryz.underlying138
  a167 := Tryz.isAgg138
  z167 := Tryz.sizeOf138
  v167 := Tryz.zeroValue138
  t168 := Tryz.underlying141
  a168 := Tryz.isAgg141
  z168 := Tryz.sizeOf141
  v168 := Tryz.zeroValue141
  t171 := Tryz.underlying154
  a171 := Tryz.isAgg154
  z171 := Tryz.sizeOf154
  v171 := Tryz.zeroValue154
  t173 := Tryz.underlying157
  a173 := Tryz.isAgg157
  z173 := Tryz.sizeOf157
  v173 := Tryz.zeroValue157
  t175 := Tryz.underlying148
  a175 := Tryz.isAgg148
  z175 := Tryz.sizeOf148
  v175 := Tryz.zeroValue148
  t210 := Tryz.underlying152
  a210 := Tryz.isAgg152
  z210 := Tryz.sizeOf152
  v210 := Tryz.zeroValue152
  t212 := Tryz.underlying165
  a212 := Tryz.isAgg165
  z212 := Tryz.sizeOf165
  v212 := Tryz.zeroValue165
  t213 := Tryz.underlying166
  a213 := Tryz.isAgg166
  z213 := Tryz.sizeOf166
  t232 := Tryz.underlying173
  a232 := Tryz.isAgg173
  z232 := Tryz.sizeOf173
  v232 := Tryz.zeroValue173
  t233 := Tryz.underlying174
  a233 := Tryz.isAgg174
  z233 := Tryz.sizeOf174
  v233 := Tryz.zeroValue174
  g15 := by kernel_rfl
  g16 := by kernel_rfl
  g17 := by kernel_rfl
  g18 := by kernel_rfl
  g19 := by kernel_rfl
  t80 := Tryz.underlying76
  a80 := Tryz.isAgg76
  z80 := Tryz.sizeOf76
  v80 := Tryz.zeroValue76
  i0 := by kernel_rfl
  i2 := by kernel_rfl
  i3 := by kernel_rfl
  i4 := by kernel_rfl
  i5 := by kernel_rfl
  i9 := by kernel_rfl
  i20 := by kernel_rfl
  i21 := by kernel_rfl
  i37 := by kernel_rfl
  i46 := by kernel_rfl
  i51 := by kernel_rfl
  i53 := by kernel_rfl
  i75 := by kernel_rfl
  i76 := by kernel_rfl
  i80 := by kernel_rfl
  i85 := by kernel_rfl
  i127 := by kernel_rfl
  i143 := by kernel_rfl
  i145 := by kernel_rfl
  i167 := by kernel_rfl
  i168 := by kernel_rfl
  i171 := by kernel_rfl
  i173 := by kernel_rfl
  i175 := by kernel_rfl
  i210 := by kernel_rfl
  i212 := by kernel_rfl
  i232 := by kernel_rfl
  i233 := by kernel_rfl
  m15 := by kernel_rfl
  m16 := by kernel_rfl
  m17 := by kernel_rfl
  m18 := by kernel_rfl
  m19 := by kernel_rfl
  c0 := by kernel_rfl
  c2 := by kernel_rfl
  c3 := by kernel_rfl
  c4 := by kernel_rfl
  c5 := by kernel_rfl
  c9 := by kernel_rfl
  c20 := by kernel_rfl
  c21 := by kernel_rfl
  c37 := by kernel_rfl
  c46 := by kernel_rfl
  c51 := by kernel_rfl
  c53 := by kernel_rfl
  c75 := by kernel_rfl
  c76 := by kernel_rfl
  c80 := by kernel_rfl
  c85 := by kernel_rfl
  c127 := by kernel_rfl
  c143 := by kernel_rfl
  c145 := by kernel_rfl
  c167 := by kernel_rfl
  c168 := by kernel_rfl
  c171 := by kernel_rfl
  c173 := by kernel_rfl
  c175 := by kernel_rfl
  c210 := by kernel_rfl
  c212 := by kernel_rfl
  c213 := by kernel_rfl
  c232 := by kernel_rfl
  c233 := by kernel_rfl }
open Go.RowKit in
theorem Tryz.strconv_Atoi_ok (s : ByteArray) (hmax : s.size ≤ 9223372036854775806) (v : Int) (h : Lib.atoiAll s.data.toList = .ok v) (w : World) :
    Calls Tryz.prog 81 #[.string s] w fun e w' => e = .returned (.tuple #[.int .i64 v, .nilIface]) ∧ (w' = w ∨ ∃ t, w' = Lib.bytesWorld w 5 t) := Any.strconv_Atoi_ok Tryz.laysC172 s hmax v h w
open Go.RowKit in
theorem Tryz.strconv_Atoi_syntax (s : ByteArray) (hlim : s.size ≤ 281474976710656) (h : Lib.atoiAll s.data.toList = .«syntax») (ev : Value) (w : World) (hv : w.cell? ⟨1, 0, none⟩ = some ev) (hev : ev = .nilIface ∨ ∃ te pe, ev = .iface te pe) :
    Calls Tryz.prog 81 #[.string s] w fun e w' => ∃ N, e = .returned (.tuple #[.int .i64 (0), .iface 141 (.pointer (some ⟨N, 0, none⟩))]) ∧ w.heap.size ≤ N ∧ w'.heap[N]? = some (.cells #[.string ⟨#[65, 116, 111, 105]⟩, .string s, ev] 152 (0, 0)) ∧ Below w.heap.size w w' := Any.strconv_Atoi_syntax Tryz.laysC172 s hlim h ev w hv hev
open Go.RowKit in
theorem Tryz.strconv_Atoi_range (s : ByteArray) (hlim : s.size ≤ 281474976710656) (h : Lib.atoiAll s.data.toList = .range) (ev : Value) (w : World) (hv : w.cell? ⟨2, 0, none⟩ = some ev) (hev : ev = .nilIface ∨ ∃ te pe, ev = .iface te pe) :
    Calls Tryz.prog 81 #[.string s] w fun e w' => ∃ N, e = .returned (.tuple #[.int .i64 (Lib.atoiSat s.data.toList), .iface 141 (.pointer (some ⟨N, 0, none⟩))]) ∧ w.heap.size ≤ N ∧ w'.heap[N]? = some (.cells #[.string ⟨#[65, 116, 111, 105]⟩, .string s, ev] 152 (0, 0)) ∧ Below w.heap.size w w' := Any.strconv_Atoi_range Tryz.laysC172 s hlim h ev w hv hev
def Tryz.lays145_ren : Go.Shelf.Ren := ⟨fun | 145 => 25 | 220 => 57 | 219 => 79 | 217 => 95 | 225 => 96 | 224 => 97 | 267 => 98 | 266 => 105 | 314 => 106 | n => n, fun | 9 => 9 | 4 => 4 | 59 => 42 | 3 => 3 | 5 => 5 | 46 => 107 | 146 => 135 | 51 => 127 | n => n, fun | 1 => 0 | n => n⟩
theorem Tryz.lays145 : Go.Proofs.Lays.n145 Tryz.prog Tryz.lays145_ren := {
  mixed := by kernel_rfl
  f145 := Tryz.func25.trans (congrArg some (by kernel_rfl))
  f217 := Tryz.func95.trans (congrArg some (by kernel_rfl))
  f219 := Tryz.func79.trans (congrArg some (by kernel_rfl))
  f220 := Tryz.func57.trans (congrArg some (by kernel_rfl))
  f224 := Tryz.func97.trans (congrArg some (by kernel_rfl))
  f225 := Tryz.func96.trans (congrArg some (by kernel_rfl))
  f266 := Tryz.func105.trans (congrArg some (by kernel_rfl))
  f267 := Tryz.func98.trans (congrArg some (by kernel_rfl))
  f314 := Tryz.func106.trans (congrArg some (by kernel_rfl))
  t3 := Tryz.underlying3
  a3 := Tryz.isAgg3
  z3 := Tryz.sizeOf3
  v3 := Tryz.zeroValue3
  t4 := Tryz.underlying4
  a4 := Tryz.isAgg4
  z4 := Tryz.sizeOf4
  v4 := Tryz.zeroValue4
  t5 := Tryz.underlying5
  a5 := Tryz.isAgg5
  z5 := Tryz.sizeOf5
  v5 := Tryz.zeroValue5
  t9 := Tryz.underlying9
  a9 := Tryz.isAgg9
  z9 := Tryz.sizeOf9
  v9 := Tryz.zeroValue9
  t46 := Tryz.underlying107
  a46 := Tryz.isAgg107
  z46 := Tryz.sizeOf107
  v46 := Tryz.zeroValue107
  t51 := Tryz.underlying127
  a51 := Tryz.isAgg127
  z51 := Tryz.sizeOf127
  v51 := Tryz.zeroValue127
  t59 := Tryz.underlying42
  a59 := Tryz.isAgg42
  z59 := Tryz.sizeOf42
  v59 := Tryz.zeroValue42
  t146 := Tryz.underlying135
  a146 := Tryz.isAgg135
  z146 := Tryz.sizeOf135
  v146 := Tryz.zeroValue135
  g1 := by kernel_rfl }
open Go.RowKit Go.Lib in
theorem Tryz.strings_Cut (s sep : ByteArray) (m : Int) (w : World) (hs : s.size < 4294967281) (hm : w.cell? ⟨0, 0, none⟩ = some (.int .i64 m)) :
    Calls Tryz.prog 25 #[.string s, .string sep] w fun e w' => e = .returned (.tuple #[.string ⟨(Lib.cut s.data.toList sep.data.toList).1.toArray⟩, .string ⟨(Lib.cut s.data.toList sep.data.toList).2.1.toArray⟩, .bool (Lib.cut s.data.toList sep.data.toList).2.2]) ∧ ∃ n, w' = w.drewN n := Any.strings_Cut Tryz.lays145 s sep m w hs hm
def Tryz.lays146_ren : Go.Shelf.Ren := ⟨fun | 146 => 80 | 221 => 99 | 268 => 107 | 138 => 108 | 143 => 109 | 195 => 117 | 197 => 118 | 218 => 119 | 219 => 79 | 260 => 128 | 217 => 95 | 225 => 96 | 224 => 97 | 267 => 98 | 266 => 105 | 314 => 106 | n => n, fun | 9 => 9 | 31 => 45 | 3 => 3 | 4 => 4 | 0 => 0 | 105 => 145 | 21 => 21 | 5 => 5 | 46 => 107 | 119 => 168 | 139 => 171 | 138 => 170 | 146 => 135 | 51 => 127 | n => n, fun | 1 => 0 | 3 => 4 | 4 => 5 | n => n⟩
theorem Tryz.lays146 : Go.Proofs.Lays.n146 Tryz.prog Tryz.lays146_ren := {
  mixed := by kernel_rfl
  f138 := Tryz.func108.trans (congrArg some (by kernel_rfl))
  f143 := Tryz.func109.trans (congrArg some (by kernel_rfl))
  f146 := Tryz.func80.trans (congrArg some (by kernel_rfl))
  f195 := Tryz.func117.trans (congrArg some (by kernel_rfl))
  f197 := Tryz.func118.trans (congrArg some (by kernel_rfl))
  f217 := Tryz.func95.trans (congrArg some (by kernel_rfl))
  f218 := Tryz.func119.trans (congrArg some (by kernel_rfl))
  f219 := Tryz.func79.trans (congrArg some (by kernel_rfl))
  f221 := Tryz.func99.trans (congrArg some (by kernel_rfl))
  f224 := Tryz.func97.trans (congrArg some (by kernel_rfl))
  f225 := Tryz.func96.trans (congrArg some (by kernel_rfl))
  f260 := Tryz.func128.trans (congrArg some (by kernel_rfl))
  f266 := Tryz.func105.trans (congrArg some (by kernel_rfl))
  f267 := Tryz.func98.trans (congrArg some (by kernel_rfl))
  f268 := Tryz.func107.trans (congrArg some (by kernel_rfl))
  f314 := Tryz.func106.trans (congrArg some (by kernel_rfl))
  t0 := Tryz.underlying0
  a0 := Tryz.isAgg0
  z0 := Tryz.sizeOf0
  v0 := Tryz.zeroValue0
  t3 := Tryz.underlying3
  a3 := Tryz.isAgg3
  z3 := Tryz.sizeOf3
  v3 := Tryz.zeroValue3
  t4 := Tryz.underlying4
  a4 := Tryz.isAgg4
  z4 := Tryz.sizeOf4
  v4 := Tryz.zeroValue4
  t5 := Tryz.underlying5
  a5 := Tryz.isAgg5
  z5 := Tryz.sizeOf5
  v5 := Tryz.zeroValue5
  t9 := Tryz.underlying9
  a9 := Tryz.isAgg9
  z9 := Tryz.sizeOf9
  v9 := Tryz.zeroValue9
  t21 := Tryz.underlying21
  a21 := Tryz.isAgg21
  z21 := Tryz.sizeOf21
  v21 := Tryz.zeroValue21
  t31 := Tryz.underlying45
  a31 := Tryz.isAgg45
  z31 := Tryz.sizeOf45
  v31 := Tryz.zeroValue45
  t46 := Tryz.underlying107
  a46 := Tryz.isAgg107
  z46 := Tryz.sizeOf107
  v46 := Tryz.zeroValue107
  t51 := Tryz.underlying127
  a51 := Tryz.isAgg127
  z51 := Tryz.sizeOf127
  v51 := Tryz.zeroValue127
  t105 := Tryz.underlying145
  a105 := Tryz.isAgg145
  z105 := Tryz.sizeOf145
  v105 := Tryz.zeroValue145
  t119 := Tryz.underlying168
  a119 := Tryz.isAgg168
  z119 := Tryz.sizeOf168
  t138 := Tryz.underlying170
  a138 := Tryz.isAgg170
  z138 := Tryz.sizeOf170
  v138 := Tryz.zeroValue170
  t139 := Tryz.underlying171
  a139 := Tryz.isAgg171
  z139 := Tryz.sizeOf171
  v139 := Tryz.zeroValue171
  t146 := Tryz.underlying135
  a146 := Tryz.isAgg135
  z146 := Tryz.sizeOf135
  v146 := Tryz.zeroValue135
  g1 := by kernel_rfl
  g3 := by kernel_rfl
  g4 := by kernel_rfl }
open Go.RowKit Go.Lib in
theorem Tryz.strings_Split (s sep : ByteArray) (m : Int) (w : World) (hs : s.size < 4294967281) (hm : w.cell? ⟨0, 0, none⟩ = some (.int .i64 m)) (h1 : 1 ≤ sep.size) :
    Calls Tryz.prog 80 #[.string s, .string sep] w fun e w' =>
      e = .returned (.slice (some ⟨w.heap.size, 0, none⟩) (Lib.countB s sep + 1) (Lib.countB s sep + 1)) ∧ w' = w.alloc (.cells ((Lib.splitB sep 0 (Lib.countB s sep) s).map Value.string).toArray 9) := Any.strings_Split Tryz.lays146 (by kernel_rfl) s sep m w hs hm h1
end Go.Proofs
set_option linter.unusedSimpArgs false
set_option linter.unusedVariables false
namespace Go.Proofs.YtedkfipjooafeaaGreatDoor.Wire
open Go Go.RowKit Go.Proofs.YtedkfipjooafeaaGreatDoor Go.Proofs.YtedkfipjooafeaaGreatDoor.Op

def putN (n : Nat) : List Int := if n ≤ 127 then [(n : Int)] else bits .or .u8 ((n : Int) % 256) 128 :: putN (n / 128)
decreasing_by omega
def bytes (l : List Int) : List UInt8 := l.map fun x => UInt8.ofNat x.toNat
theorem putN_small {n : Nat} (h : n ≤ 127) : putN n = [(n : Int)] := by rw [putN, if_pos h]
theorem putN_big {n : Nat} (h : ¬ n ≤ 127) : putN n = bits .or .u8 ((n : Int) % 256) 128 :: putN (n / 128) := by rw [putN, if_neg h]

theorem u8row : (Tryz.prog.info? 5).map (fun i => (i.zero, i.size, i.bytes)) = some (some (.int .u8 0), 1, 1) := by kernel_rfl

theorem fold_push (ns : List Int) : ∀ (l : List UInt8), ns.foldl (fun (r : ByteArray) n => r.push (UInt8.ofNat n.toNat)) ⟨l.toArray⟩ = ⟨(l ++ bytes ns).toArray⟩ := by
  induction ns with
  | nil => intro l; simp [bytes]
  | cons n ns ih =>
    intro l
    rw [List.foldl_cons]
    have e : (⟨l.toArray⟩ : ByteArray).push (UInt8.ofNat n.toNat) = ⟨(l ++ [UInt8.ofNat n.toNat]).toArray⟩ := by
      show ByteArray.mk _ = _
      simp
    rw [e, ih]
    simp [bytes]
theorem conv_own {w : World} {base : Nat} {v : Value} {ns : List Int} {n : Nat} (h : w.ownsRow base 5 1 v n (ns.map (Value.int .u8))) :
    (convert 67 9 v).run Tryz.prog w = .ok (str (bytes ns)) w := by
  have hn : ns.length = n := by simpa using h.1
  rcases h.2 with ⟨rfl, hz⟩ | ⟨g, cap, cur, rfl, hh⟩
  · have : ns = [] := by
      exact List.eq_nil_of_length_eq_zero (by omega)
    subst this
    rw [run_convert_bytes_string w _ _ _ none 0 0 Tryz.underlying67 Tryz.underlying5 Tryz.underlying9]
    simp [Conv.bytesToString, bytes]
    rfl
  · rw [run_convert_bytes_string w _ _ _ (some ⟨g, 0, none⟩) n cap Tryz.underlying67 Tryz.underlying5 Tryz.underlying9]
    have hc := h.cells (g := g) rfl
    have := run_loadCells_list (P := Tryz.prog) w ⟨g, 0, none⟩ (ns.map (Value.int .u8)) (fun j u hu => hc j u hu)
    rw [List.length_map, hn] at this
    rw [run_bytesToString w ⟨g, 0, none⟩ n cap ns this]
    have e := fold_push ns []
    rw [List.nil_append] at e
    exact congrArg (fun s => Result.ok (Value.string s) w) e

theorem news_one (w : World) (u : Value) : ∀ (j : Nat) (x : Value), [u][j]? = some x → (w.alloc (.cells #[u] 5)).cell? ((⟨w.heap.size, 0, none⟩ : Addr).add j) = some x := by
  intro j x hj
  match j, hj with
  | 0, hj => simp at hj; subst hj; simp [Addr.add]
theorem one_news (n : Int) : ∀ u ∈ [Value.int .u8 n], u.oneCell' = true := by
  intro u hu
  simp at hu; subst hu; rfl

def PutRel (n0 n : Nat) (w0 w : World) (v : Value) (acc : List Int) : Prop :=
  n ≤ n0 ∧ (acc = [] ∨ 1 ≤ n) ∧ n * 128 ^ acc.length ≤ n0 ∧ w.ownsRow w0.heap.size 5 1 v acc.length (acc.map (Value.int .u8)) ∧ Below w0.heap.size w0 w ∧ acc ++ putN n = putN n0
def PutJ (n0 : Nat) (w0 : World) (a : Act) (w : World) : Prop :=
  ∃ (n : Nat) (v : Value) (acc : List Int) (u4 u5 u6 u7 u8 u9 u10 u11 u12 u13 u14 u15 u16 u17 u18 u19 u20 u21 u22 u23 u24 u25 : Value),
    a = { tmps := #[.int .i64 n, undef, str [], v, u4, u5, u6, u7, u8, u9, u10, u11, u12, u13, u14, u15, u16, u17, u18, u19, u20, u21, u22, u23, u24, u25], defers := [] } ∧ PutRel n0 n w0 w v acc
theorem len_bd {n0 n : Nat} {acc : List Int} (h0 : n0 ≤ 281474976710655) (h1 : acc = [] ∨ 1 ≤ n) (h2 : n * 128 ^ acc.length ≤ n0) : acc.length ≤ 6 := by
  rcases h1 with rfl | h1
  · simp
  · apply Classical.byContradiction
    intro hk
    have h3 : 128 ^ 7 ≤ 128 ^ acc.length := Nat.pow_le_pow_right (by decide) (by omega)
    have h4 : 1 * 128 ^ acc.length ≤ n * 128 ^ acc.length := Nat.mul_le_mul_right _ h1
    have h5 : (128 : Nat) ^ 7 = 562949953421312 := by decide
    omega
theorem rel_next {n0 n : Nat} {w0 w w1 : World} {v v' : Value} {acc : List Int} (hn : ¬ n ≤ 127) (h : PutRel n0 n w0 w v acc) (o : Obj)
    (hown : w1.ownsRow w0.heap.size 5 1 v' (acc.length + 1) (acc.map (Value.int .u8) ++ [.int .u8 (bits .or .u8 ((n : Int) % 256) 128)])) (hg : (w.alloc o).grownBy w1 v.ownBlock) :
    PutRel n0 (n / 128) w0 w1 v' (acc ++ [bits .or .u8 ((n : Int) % 256) 128]) := by
  obtain ⟨h1, h2, h3, h4, h5, h6⟩ := h
  refine ⟨by omega, .inr (by omega), ?_, ?_, ?_, ?_⟩
  · rw [List.length_append, List.length_singleton, Nat.pow_succ, Nat.mul_comm (128 ^ _) 128, ← Nat.mul_assoc]
    exact Nat.le_trans (Nat.mul_le_mul_right _ (by omega)) h3
  · rw [List.length_append, List.length_singleton, List.map_append]; exact hown
  · exact (h5.alloc h5.size o).grown hg (by have := h5.size; simp; omega) (fun k hk => (h4.lt k hk).1)
  · rw [List.append_assoc, ← h6, putN_big hn]; rfl
theorem rel_end {n0 n : Nat} {w0 w w1 : World} {v v' : Value} {acc : List Int} (hn : n ≤ 127) (h : PutRel n0 n w0 w v acc) (o : Obj)
    (hown : w1.ownsRow w0.heap.size 5 1 v' (acc.length + 1) (acc.map (Value.int .u8) ++ [.int .u8 (n : Int)])) (hg : (w.alloc o).grownBy w1 v.ownBlock) :
    acc ++ [(n : Int)] = putN n0 ∧ Below w0.heap.size w0 w1 := by
  obtain ⟨h1, h2, h3, h4, h5, h6⟩ := h
  refine ⟨by rw [← h6, putN_small hn], ?_⟩
  exact (h5.alloc h5.size o).grown hg (by have := h5.size; simp; omega) (fun k hk => (h4.lt k hk).1)
set_option maxRecDepth 100000 in
set_option maxHeartbeats 1000000 in
theorem Put_in (n0 : Nat) (h : (n0 : Int) ≤ 281474976710655) (w : World) :
    Calls Tryz.prog 47 #[.int .i64 n0] w fun e w' => e = .returned (str (bytes (putN n0))) ∧ Below w.heap.size w w' := by
  obtain ⟨i0, hi, hz0, hz1, hz2⟩ := info_parts u8row
  have h' : n0 ≤ 281474976710655 := by omega
  go_enter Tryz.func47, Tryz.ntmps47
  go_wp2
  refine wp_scope_jumps 0 (PutJ n0 w) (fun a' _ => (Go.RowKit.intOf (a'.tmps.getD 0 undef)).toNat) rfl ?_ ?_
  · have HR := Lib.hid (show PutRel n0 n0 w w (.slice none 0 0) [] from ⟨Nat.le_refl _, .inl rfl, by simp, World.ownsRow_nil _ _ _ _, Below.refl _ _, rfl⟩)
    have hl := len_bd h' HR.out.2.1 HR.out.2.2.1
    by_cases hb : (n0 : Int) ≤ 127
    · go_wp2
      go_step3
      go_wp2_with (first | (at_builtin; refine wpList_append_own _ rfl (.tmp 20) (.tmp 23) 67 rfl w.heap.size 5 i0 (.int .u8 0) 1 1 Tryz.underlying67 hi hz0 hz1 hz2 rfl (by decide) _ _ _ rfl (HR.out.2.2.2.1.alloc _) ⟨_, 0, none⟩ 1 1 [.int .u8 (n0 : Int)] rfl rfl (news_one _ _) (one_news _) (by unfold maxLen; omega) (by omega) (by have := HR.out.2.2.2.2.1.size; (first | (simp; done) | (simp; omega))) ?_; intro v' w1 hown' hgrow _))
      have hc := conv_own (ns := [] ++ [(n0 : Int)]) (by rw [List.map_append]; exact hown')
      have HF := Lib.hid (rel_end (by omega) HR.out _ hown' hgrow)
      clear hown' hgrow
      go_wp2
      rw [hc]
      go_wp2
      simp only [Exit.jump]
      go_ret
      exact ⟨by rw [← HF.out.1]; rfl, HF.out.2⟩
    · go_wp2
      go_step3
      go_wp2_with (first | (at_builtin; refine wpList_append_own _ rfl (.tmp 12) (.tmp 16) 67 rfl w.heap.size 5 i0 (.int .u8 0) 1 1 Tryz.underlying67 hi hz0 hz1 hz2 rfl (by decide) _ _ _ rfl (HR.out.2.2.2.1.alloc _) ⟨_, 0, none⟩ 1 1 [.int .u8 (bits .or .u8 ((n0 : Int) % 256) 128)] rfl rfl (news_one _ _) (one_news _) (by unfold maxLen; omega) (by omega) (by have := HR.out.2.2.2.2.1.size; (first | (simp; done) | (simp; omega))) ?_; intro v' w1 hown' hgrow _))
      have HF := Lib.hid (rel_next (by omega) HR.out _ hown' hgrow)
      clear hown' hgrow
      go_wp2
      go_step3
      have e1 : (n0 : Int) / 128 = ((n0 / 128 : Nat) : Int) := by omega
      rw [e1]
      first
        | exact ⟨rfl, _, _, _, _, _, _, _, _, _, _, _, _, _, _, _, _, _, _, _, _, _, _, _, _, _, rfl, HF.out⟩
        | exact ⟨rfl, ⟨_, _, _, _, _, _, _, _, _, _, _, _, _, _, _, _, _, _, _, _, _, _, _, _, _, rfl, HF.out⟩, by simp [Go.RowKit.intOf]; omega⟩
  
  · rintro a' w' ⟨n, v, acc, u4, u5, u6, u7, u8, u9, u10, u11, u12, u13, u14, u15, u16, u17, u18, u19, u20, u21, u22, u23, u24, u25, rfl, hrel⟩
    have HR := Lib.hid hrel
    have hle : (n : Int) ≤ n0 := by have := hrel.1; omega
    clear hrel
    have hl := len_bd h' HR.out.2.1 HR.out.2.2.1
    by_cases hb : (n : Int) ≤ 127
    · go_wp2_with (first | (at_builtin; refine wpList_append_own _ rfl (.tmp 20) (.tmp 23) 67 rfl w.heap.size 5 i0 (.int .u8 0) 1 1 Tryz.underlying67 hi hz0 hz1 hz2 rfl (by decide) _ _ _ rfl (HR.out.2.2.2.1.alloc _) ⟨_, 0, none⟩ 1 1 [.int .u8 (n : Int)] rfl rfl (news_one _ _) (one_news _) (by unfold maxLen; omega) (by omega) (by have := HR.out.2.2.2.2.1.size; (first | (simp; done) | (simp; omega))) ?_; intro v' w1 hown' hgrow _))
      have hc := conv_own (ns := acc ++ [(n : Int)]) (by rw [List.map_append]; exact hown')
      have HF := Lib.hid (rel_end (by omega) HR.out _ hown' hgrow)
      clear hown' hgrow
      go_wp2
      rw [hc]
      go_wp2
      simp only [Exit.jump]
      go_ret
      exact ⟨by rw [← HF.out.1]; rfl, HF.out.2⟩
    · go_wp2_with (first | (at_builtin; refine wpList_append_own _ rfl (.tmp 12) (.tmp 16) 67 rfl w.heap.size 5 i0 (.int .u8 0) 1 1 Tryz.underlying67 hi hz0 hz1 hz2 rfl (by decide) _ _ _ rfl (HR.out.2.2.2.1.alloc _) ⟨_, 0, none⟩ 1 1 [.int .u8 (bits .or .u8 ((n : Int) % 256) 128)] rfl rfl (news_one _ _) (one_news _) (by unfold maxLen; omega) (by omega) (by have := HR.out.2.2.2.2.1.size; (first | (simp; done) | (simp; omega))) ?_; intro v' w1 hown' hgrow _))
      have HF := Lib.hid (rel_next (by omega) HR.out _ hown' hgrow)
      clear hown' hgrow
      go_wp2
      go_step3
      have e1 : (n : Int) / 128 = ((n / 128 : Nat) : Int) := by omega
      rw [e1]
      first
        | exact ⟨rfl, _, _, _, _, _, _, _, _, _, _, _, _, _, _, _, _, _, _, _, _, _, _, _, _, _, rfl, HF.out⟩
        | exact ⟨rfl, ⟨_, _, _, _, _, _, _, _, _, _, _, _, _, _, _, _, _, _, _, _, _, _, _, _, _, rfl, HF.out⟩, by simp [Go.RowKit.intOf]; omega⟩
  
end Go.Proofs.YtedkfipjooafeaaGreatDoor.Wire
set_option linter.unusedSimpArgs false
set_option linter.unusedVariables false
namespace Go.Proofs
open Go Go.RowKit Go.Shelf

def Tryz.ren167 : Go.Shelf.Ren := ⟨fun | 167 => 48 | 156 => 90 | 165 => 103 | 166 => 40 | 169 => 43 | 240 => 71 | 241 => 116 | 276 => 88 | n => n, Tryz.lays156_ren.t, fun | n => n⟩
set_option maxRecDepth 100000 in
theorem Tryz.lays167' : Lays.n167 Tryz.prog Tryz.ren167 := {
  mixed := by kernel_rfl
  f167 := Tryz.func48.trans (congrArg some (by kernel_rfl))
  f240 := Tryz.func71.trans (congrArg some (by kernel_rfl))
  f276 := Tryz.func88.trans (congrArg some (by kernel_rfl))
  t0 := Tryz.lays156.t0
  a0 := Tryz.lays156.a0
  z0 := Tryz.lays156.z0
  v0 := Tryz.lays156.v0
  t4 := Tryz.lays156.t4
  a4 := Tryz.lays156.a4
  z4 := Tryz.lays156.z4
  v4 := Tryz.lays156.v4
  t5 := Tryz.Builder_Extra_156.t5
  a5 := Tryz.Builder_Extra_156.a5
  z5 := Tryz.Builder_Extra_156.z5
  v5 := Tryz.Builder_Extra_156.v5
  t9 := Tryz.lays156.t9
  a9 := Tryz.lays156.a9
  z9 := Tryz.lays156.z9
  v9 := Tryz.lays156.v9
  t20 := Tryz.lays156.t20
  a20 := Tryz.lays156.a20
  z20 := Tryz.lays156.z20
  v20 := Tryz.lays156.v20
  t37 := Tryz.lays156.t37
  a37 := Tryz.lays156.a37
  z37 := Tryz.lays156.z37
  v37 := Tryz.lays156.v37
  t70 := Tryz.lays156.t70
  a70 := Tryz.lays156.a70
  z70 := Tryz.lays156.z70
  v70 := Tryz.lays156.v70
  t72 := Tryz.lays156.t72
  a72 := Tryz.lays156.a72
  z72 := Tryz.lays156.z72
  v72 := Tryz.lays156.v72
  t75 := Tryz.lays156.t75
  a75 := Tryz.lays156.a75
  z75 := Tryz.lays156.z75
  v75 := Tryz.lays156.v75
  t164 := Tryz.lays156.t164
  a164 := Tryz.lays156.a164
  z164 := Tryz.lays156.z164
  v164 := Tryz.lays156.v164 }
theorem Tryz.Builder_Extra_167' : Builder.Extra Tryz.prog Tryz.ren167 := {
  sizeBuilder := by kernel_rfl
  liesBuilder := by kernel_rfl
  t5 := Tryz.Builder_Extra_156.t5
  a5 := Tryz.Builder_Extra_156.a5
  z5 := Tryz.Builder_Extra_156.z5
  v5 := Tryz.Builder_Extra_156.v5
  infoByte := by kernel_rfl
  cellsByte := by kernel_rfl
  sizeByte := by kernel_rfl
  neB5 := by decide }
namespace YtedkfipjooafeaaGreatDoor.Bld
open Go.Proofs.YtedkfipjooafeaaGreatDoor Go.Proofs.YtedkfipjooafeaaGreatDoor.Op

abbrev IsB (B b : Nat) (l : List UInt8) (w : World) : Prop := Lib.IsBuilderF 69 5 B b (Lib.byteCells l) w
abbrev Kept (b : Nat) (w w' : World) : Prop := Lib.OthersKept 5 (some b) w w'
theorem WriteString_calls (B b : Nat) (l s : List UInt8) (w : World) (h : IsB B b l w) (hlen : l.length + s.length ≤ 140737488355328) (hBw : B ≤ w.heap.size) :
    Calls Tryz.prog 40 #[.pointer (some ⟨b, 0, none⟩), str s] w fun e w' => e = .returned (.tuple #[.int .i64 s.length, .nilIface]) ∧ IsB B b (l ++ s) w' ∧ Below B w w' ∧ Kept b w w' := by
  refine (Any.Builder_WriteString_k { Tryz.lays156 with } Tryz.Builder_Extra_156 B b (Lib.byteCells l) ⟨s.toArray⟩ w h (by simpa [Lib.byteCells, ByteArray.size] using hlen) hBw).mono ?_
  rintro e w' ⟨rfl, h1, h2, h3⟩
  refine ⟨by simp [ByteArray.size], ?_, h2, h3⟩
  right
  have h1' : Lib.BuilderAtF 69 5 B b (.pointer (some ⟨b, 0, none⟩)) (Lib.byteCells l ++ Lib.strCells ⟨s.toArray⟩) w' := h1
  simpa [Lib.byteCells, Lib.strCells] using h1'
theorem WriteByte_calls (B b : Nat) (l : List UInt8) (c : UInt8) (w : World) (h : IsB B b l w) (hlen : l.length + 1 ≤ 140737488355328) (hBw : B ≤ w.heap.size) :
    Calls Tryz.prog 48 #[.pointer (some ⟨b, 0, none⟩), .int .u8 c.toNat] w fun e w' => e = .returned .nilIface ∧ IsB B b (l ++ [c]) w' ∧ Below B w w' ∧ Kept b w w' := by
  refine (Any.Builder_WriteByte_k Tryz.lays167' Tryz.Builder_Extra_167' B b (Lib.byteCells l) c.toNat w h (by simpa [Lib.byteCells] using hlen) hBw).mono ?_
  rintro e w' ⟨rfl, h1, h2, h3⟩
  refine ⟨rfl, ?_, h2, h3⟩
  right
  have h1' : Lib.BuilderAtF 69 5 B b (.pointer (some ⟨b, 0, none⟩)) (Lib.byteCells l ++ [.int .u8 c.toNat]) w' := h1
  simpa [Lib.byteCells] using h1'
theorem String_calls (B b : Nat) (l : List UInt8) (w : World) (h : IsB B b l w) (hBw : B ≤ w.heap.size) :
    Calls Tryz.prog 43 #[.pointer (some ⟨b, 0, none⟩)] w fun e w' => e = .returned (str l) ∧ Below B w w' :=
  (Any.Builder_String_any_k { Tryz.lays156 with } Tryz.Builder_Extra_156 B b l w h hBw).mono fun e w' h => ⟨h.1, h.2.2.1⟩
theorem IsB.new (w : World) (B : Nat) (h : B ≤ w.heap.size) : IsB B w.heap.size [] (w.alloc (.cells #[.pointer none, .slice none 0 0] 69)) := by
  left
  refine ⟨h, .slice none 0 0, ?_, ⟨by simp, .inl ⟨rfl, rfl⟩⟩, by simp [Value.ownBlock]⟩
  exact Has.new w _ _
theorem IsB.lt {B b : Nat} {l : List UInt8} {w : World} (h : IsB B b l w) : b < w.heap.size := by
  rcases h with ⟨_, v, hb, _⟩ | ⟨_, v, hb, _⟩ <;>
  · rcases Nat.lt_or_ge b w.heap.size with h' | h'
    · exact h'
    · rw [Array.getElem?_eq_none h'] at hb; cases hb
theorem rowF_keep {w w' : World} {B : Nat} {e : TypeId} {v : Value} {n : Nat} {xs : List Value} (h : w.ownsRowF B e 1 v n xs) (hb : Below w.heap.size w w') : w'.ownsRowF B e 1 v n xs := by
  obtain ⟨h1, h2⟩ := h
  refine ⟨h1, ?_⟩
  rcases h2 with h2 | ⟨g, cap, cur, fz, hv, hg, hh, h3⟩
  · exact .inl h2
  · have hlt : g < w.heap.size := by
      rcases Nat.lt_or_ge g w.heap.size with h' | h'
      · exact h'
      · rw [Array.getElem?_eq_none h'] at hh; cases hh
    exact .inr ⟨g, cap, cur, fz, hv, hg, (hb.block g hlt).trans hh, h3⟩
theorem IsB.keep {B b : Nat} {l : List UInt8} {w w' : World} (h : IsB B b l w) (hb : Below w.heap.size w w') : IsB B b l w' := by
  have hlt := h.lt
  rcases h with ⟨h1, v, h2, h3, h4⟩ | ⟨h1, v, h2, h3, h4⟩
  · exact .inl ⟨h1, v, (hb.block b hlt).trans h2, rowF_keep h3 hb, h4⟩
  · exact .inr ⟨h1, v, (hb.block b hlt).trans h2, rowF_keep h3 hb, h4⟩
theorem Kept.has {b g : Nat} {w w' : World} {cs : Array Value} {t : TypeId} (h : Kept b w w') (hh : Has w g cs t) (hg : g ≠ b) (ht : t ≠ 5) : Has w' g cs t :=
  h g _ hh (fun e => hg (Option.some.inj e)) (fun c fz e => by injection e with _ e; exact ht e)
end YtedkfipjooafeaaGreatDoor.Bld
end Go.Proofs
set_option linter.unusedSimpArgs false
set_option linter.unusedVariables false
namespace Go.Proofs.YtedkfipjooafeaaGreatDoor.Code
open Go Go.RowKit Go.Proofs.YtedkfipjooafeaaGreatDoor Go.Proofs.YtedkfipjooafeaaGreatDoor.Op

section
variable {P : Program} {w : World}
theorem wpList_app {ops : Array Oper} {rest : List Oper} {o : Oper} {a : Act} {Q : Exit → Act → World → Prop} (hgd : o.guard = none) (s x : Operand) (t : TypeId)
    (ho : o.op = .call { callee := .builtin .append, args := #[s, x], argTypes := #[t, t] })
    (base : Nat) (e : TypeId) (size bytes : Nat) (z : Value) (ht : P.underlying t = some (.slice e)) (hi : (P.info? e).map (fun i => (i.zero, i.size, i.bytes)) = some (some z, size, bytes)) (hzs : z.cells.size = size) (hsz : 0 < size)
    (v : Value) (n : Nat) (xs : List Value) (hs : a.eval s = v) (hown : w.ownsRow base e size v n xs)
    (ad : Addr) (m c : Nat) (news : List Value) (hx : a.eval x = .slice (some ad) m c) (hl : news.length = m * size) (hnews : ∀ (j : Nat) u, news[j]? = some u → w.cell? (ad.add j) = some u) (h1 : ∀ u ∈ news, u.oneCell' = true)
    (h63 : n + m ≤ maxLen) (hbytes : (n + m) * bytes ≤ 140737488355328) (hbase : base ≤ w.heap.size)
    (h : ∀ v' w', w'.ownsRow base e size v' (n + m) (xs ++ news) → w.grownBy w' v.ownBlock → (v'.ownBlock = v.ownBlock ∨ v'.ownBlock = some w.heap.size) → wpList P ops Q rest (a.put o.dst v') w') : wpList P ops Q (o :: rest) a w := by
  obtain ⟨i, hi1, hz, hsize, hby⟩ := info_parts hi
  refine wpList_plain hgd fun K hK => ?_
  obtain ⟨v', w', hrun, h2, h3, _, h5⟩ := run_append_own_at (P := P) w base t o.type e i z size bytes ht hi1 hz hsize hby hzs hsz v n xs hown ad m c news hl hnews h1 h63 hbytes hbase
  unfold Oper.wp execOp
  simp only [ho, resolve, invoke, builtin, Sem.run_bind, Sem.run_pure, Result.andThen_ok, List.map_toArray, List.map_cons, List.map_nil, hs, hx, hrun]
  exact hK _ _ (h v' w' h2 h3 h5)
theorem own_new (w : World) (base : Nat) (e : TypeId) (size : Nat) (xs : List Value) (n : Nat) (hn : xs.length = n * size) (hb : base ≤ w.heap.size) (hm : n ≤ maxLen) :
    (w.alloc (.cells xs.toArray e)).ownsRow base e size (.slice (some ⟨w.heap.size, 0, none⟩) n n) n xs := by
  refine ⟨hn, .inr ⟨w.heap.size, n, xs.toArray, rfl, hb, ?_, Nat.le_refl _, hm, by simpa using hn, ?_⟩⟩
  · have := Has.new w xs.toArray e
    exact this
  · show List.take (n * size) xs = xs
    rw [← hn]; exact List.take_length
theorem own_grow {w0 w w1 : World} {e : TypeId} {size n : Nat} {v : Value} {xs : List Value} (h : w.ownsRow w0.heap.size e size v n xs) (hb : Below w0.heap.size w0 w) (hg : w.grownBy w1 v.ownBlock) : Below w0.heap.size w0 w1 :=
  hb.grown hg hb.size (fun k hk => (h.lt k hk).1)
theorem own_below {w w1 : World} {base : Nat} {e : TypeId} {size n : Nat} {v : Value} {xs : List Value} (h : w.ownsRow base e size v n xs) (hb : Below w.heap.size w w1) : w1.ownsRow base e size v n xs := by
  obtain ⟨h1, h2⟩ := h
  refine ⟨h1, ?_⟩
  rcases h2 with h2 | ⟨g, cap, cur, hv, hg, hh, h3⟩
  · exact .inl h2
  · have hlt : g < w.heap.size := by
      rcases Nat.lt_or_ge g w.heap.size with h' | h'
      · exact h'
      · rw [Array.getElem?_eq_none h'] at hh; cases hh
    exact .inr ⟨g, cap, cur, hv, hg, (hb.block g hlt).trans hh, h3⟩
theorem news_at (w : World) (us : List Value) (e : TypeId) : ∀ (j : Nat) u, us[j]? = some u → (w.alloc (.cells us.toArray e)).cell? ((⟨w.heap.size, 0, none⟩ : Addr).add j) = some u := by
  intro j u hu
  have : (⟨w.heap.size, 0, none⟩ : Addr).add j = ⟨w.heap.size, j, none⟩ := by unfold Addr.add; by_cases e : j = 0 <;> simp [e]
  rw [this, (Has.new w us.toArray e).cell]
  simpa using hu
theorem one_str (s : List UInt8) : ∀ u ∈ [str s], u.oneCell' = true := by
  intro u hu
  simp at hu; subst hu; rfl
end

/-! ### What the library reads -/
structure Glob (w : World) : Prop where
  tab : Lib.TabIs Tryz.prog w "internal/strconv.uint64pow10" .u64 Lib.pow10Tab
  len : ∃ m, w.cell? ⟨0, 0, none⟩ = some (.int .i64 m)
  syn : ∃ ev, w.cell? ⟨1, 0, none⟩ = some ev ∧ (ev = .nilIface ∨ ∃ te pe, ev = .iface te pe)
  ran : ∃ ev, w.cell? ⟨2, 0, none⟩ = some ev ∧ (ev = .nilIface ∨ ∃ te pe, ev = .iface te pe)
theorem cell_lt {w : World} {p : Addr} {v : Value} (h : w.cell? p = some v) : p.block < w.heap.size := by
  rcases Nat.lt_or_ge p.block w.heap.size with h' | h'
  · exact h'
  · unfold World.cell? at h
    rw [Array.getElem?_eq_none h'] at h
    cases h
theorem Glob.below {w w' : World} (h : Glob w) (hb : Below w.heap.size w w') : Glob w' := by
  obtain ⟨h1, ⟨m, h2⟩, ⟨e3, h3, h3'⟩, ⟨e4, h4, h4'⟩⟩ := h
  exact ⟨Lib.tabBelow_of_tabIs h1 w' hb, ⟨m, (hb.cell (cell_lt h2)).trans h2⟩, ⟨e3, (hb.cell (cell_lt h3)).trans h3, h3'⟩, ⟨e4, (hb.cell (cell_lt h4)).trans h4, h4'⟩⟩
theorem grow_below (w : World) (k : Nat) (os : Array Obj) : Below w.heap.size w (Go.Sort.grow (w.drewN k) os) :=
  ⟨rfl, rfl, rfl, by simp [Go.Sort.grow], fun i hi => by
    show (w.heap ++ os)[i]? = _
    rw [Array.getElem?_append, if_pos hi]⟩
theorem Itoa_calls (n : Int) (h0 : -9223372036854775808 ≤ n) (h1 : n ≤ 9223372036854775807) (w : World) (ht : Glob w) :
    Calls Tryz.prog 89 #[.int .i64 n] w fun e w' => e = .returned (str (Lib.itoa n)) ∧ Below w.heap.size w w' :=
  (Tryz.strconv_Itoa n h0 h1 w ht.tab).mono fun e w' ⟨he, k, os, hw⟩ => by
    subst hw
    exact ⟨he, grow_below w k os⟩
theorem ba_append (a b : List UInt8) : (⟨a.toArray⟩ : ByteArray) ++ ⟨b.toArray⟩ = ⟨(a ++ b).toArray⟩ := by
  apply ByteArray.ext; simp [ByteArray.data_append]

theorem Join_own (w : World) (base : Nat) (v : Value) (ws : List (List UInt8)) (sep : List UInt8) (h : w.ownsRow base 9 1 v ws.length (ws.map str)) (h0 : ws ≠ []) (hl : (Lib.join ws sep).length ≤ 140737488355328) (hn : ws.length ≤ 1000000) :
    Calls Tryz.prog 90 #[v, str sep] w fun e w' => e = .returned (str (Lib.join ws sep)) ∧ Below w.heap.size w w' := by
  have hpos : 0 < ws.length := List.length_pos_iff.2 h0
  obtain ⟨g, cap, hv, hb, hlt⟩ := h.form hpos
  subst hv
  have hcap : ws.length ≤ cap := by
    rcases h.2 with ⟨hv, _⟩ | ⟨g', cap', cur, hv, _, _, hc, _⟩
    · cases hv
    · injection hv with _ _ e; omega
  have hc := h.cells (g := g) rfl
  have hm : (ws.map (fun l => (⟨l.toArray⟩ : ByteArray))).map (·.data.toList) = ws := by rw [List.map_map]; exact List.map_id _
  have := Tryz.strings_Join g 0 cap (ws.map fun l => ⟨l.toArray⟩) ⟨sep.toArray⟩ w (fun j x hx => by
    have hj := hc j (.string x) (by rw [List.getElem?_map] at hx ⊢; cases hw : ws[j]? with
      | none => rw [hw] at hx; cases hx
      | some y => rw [hw] at hx; simp only [Option.map_some, Option.some.injEq] at hx ⊢; rw [← hx])
    have e : (⟨g, 0, none⟩ : Addr).add j = ⟨g, 0 + j, none⟩ := by unfold Addr.add; by_cases e : j = 0 <;> simp [e]
    rw [← e]; exact hj) hlt (by simp; omega) (by simpa using hcap) (by rw [hm]; exact hl)
  rw [hm, List.length_map] at this
  exact this

/-! ### The slices of this program -/
theorem strRow : (Tryz.prog.info? 9).map (fun i => (i.zero, i.size, i.bytes)) = some (some (.string ByteArray.empty), 1, 16) := by kernel_rfl
theorem insRow : (Tryz.prog.info? 64).map (fun i => (i.zero, i.size, i.bytes)) = some (some (.agg #[.int .i64 0, .int .i64 0, .int .i64 0]), 3, 24) := by kernel_rfl
theorem fnRow : (Tryz.prog.info? 39).map (fun i => (i.zero, i.size, i.bytes)) = some (some (.agg #[.int .i64 0, .int .i64 0, .int .i64 0, .slice none 0 0]), 4, 48) := by kernel_rfl
end Go.Proofs.YtedkfipjooafeaaGreatDoor.Code
namespace Go.Proofs.YtedkfipjooafeaaGreatDoor
open Go Go.RowKit
section
variable {P : Program} {a : Act} {w : World} {Q : Exit → Act → World → Prop}
theorem jump_weak {l : Nat} {J J' : Act → World → Prop} (h : ∀ a w, J a w → J' a w) : ∀ e a w, Exit.jump l J Q e a w → Exit.jump l J' Q e a w := by
  intro e a w hq
  cases e with
  | goto l' => exact ⟨hq.1, h _ _ hq.2⟩
  | _ => exact hq
theorem wp_scope_goto2 {pre pre2 rest : Code} (l : Nat) (J : Act → World → Prop) (μ : Act → World → Nat) (hf : findLabel (pre.seq (pre2.seq ((Code.label l).seq rest))) l = some (Code.skip.seq rest))
    (first : pre.wp P (Exit.then (fun a w => pre2.wp P (Exit.then J (Exit.jump l J Q)) a w) (Exit.jump l J Q)) a w)
    (pass : ∀ a w, J a w → rest.wp P (Exit.jump l (fun a' w' => J a' w' ∧ μ a' w' < μ a w) Q) a w) : (Code.scope (pre.seq (pre2.seq ((Code.label l).seq rest)))).wp P Q a w := by
  refine wp_scope_jumps l J μ hf ?_ (fun a w h => wp_seq (wp_skip (pass a w h)))
  refine wp_seq (wp_mono first ?_)
  intro e a w h
  cases e with
  | normal =>
    refine wp_seq (wp_mono h ?_)
    intro e a w h
    cases e with
    | normal => exact wp_seq (wp_label (wp_mono (pass a w h) (jump_weak fun _ _ h => h.1)))
    | _ => exact h
  | _ => exact h
end
end Go.Proofs.YtedkfipjooafeaaGreatDoor
set_option linter.unusedSimpArgs false
set_option linter.unusedVariables false
namespace Go.Proofs.YtedkfipjooafeaaGreatDoor.Code
open Go Go.RowKit Go.Proofs.YtedkfipjooafeaaGreatDoor Go.Proofs.YtedkfipjooafeaaGreatDoor.Op

theorem in_calls (n lo hi : Int) (w : World) :
    Calls Tryz.prog 34 #[.int .i64 n, .int .i64 lo, .int .i64 hi] w fun e w' => e = .returned (.bool (inB n lo hi)) ∧ Below w.heap.size w w' := by
  by_cases h0 : lo ≤ n
  · by_cases h1 : n ≤ hi
    · have e : inB n lo hi = true := by unfold inB; exact decide_eq_true ⟨h0, h1⟩
      rw [e]
      clear e
      go_enter Tryz.func34, Tryz.ntmps34
      go_wp2
      go_ret
      exact ⟨rfl, by (repeat (first | (with_reducible assumption) | (with_reducible exact Below.refl _ _) | (with_reducible refine grow_alloc ?_ _) | (with_reducible refine grow_mix ?_ _) | (with_reducible refine grow_drew ?_) | (with_reducible refine grow_drewN ?_ _) | (with_reducible refine grow_set ?_ (by first | (simp; done) | (simp; omega) | omega) _)))⟩
    · have e : inB n lo hi = false := by unfold inB; exact decide_eq_false (by omega)
      rw [e]
      clear e
      go_enter Tryz.func34, Tryz.ntmps34
      go_wp2
      go_ret
      exact ⟨rfl, by (repeat (first | (with_reducible assumption) | (with_reducible exact Below.refl _ _) | (with_reducible refine grow_alloc ?_ _) | (with_reducible refine grow_mix ?_ _) | (with_reducible refine grow_drew ?_) | (with_reducible refine grow_drewN ?_ _) | (with_reducible refine grow_set ?_ (by first | (simp; done) | (simp; omega) | omega) _)))⟩
  · have e : inB n lo hi = false := by unfold inB; exact decide_eq_false (by omega)
    rw [e]
    clear e
    go_enter Tryz.func34, Tryz.ntmps34
    go_wp2
    go_ret
    exact ⟨rfl, by (repeat (first | (with_reducible assumption) | (with_reducible exact Below.refl _ _) | (with_reducible refine grow_alloc ?_ _) | (with_reducible refine grow_mix ?_ _) | (with_reducible refine grow_drew ?_) | (with_reducible refine grow_drewN ?_ _) | (with_reducible refine grow_set ?_ (by first | (simp; done) | (simp; omega) | omega) _)))⟩
theorem in_at (n lo hi : Int) (b : Bool) (h : inB n lo hi = b) (w : World) :
    Calls Tryz.prog 34 #[.int .i64 n, .int .i64 lo, .int .i64 hi] w fun e w' => e = .returned (.bool b) ∧ Below w.heap.size w w' := by
  subst h; exact in_calls n lo hi w
abbrev fnV (f : Fn) (v : Value) : Value := .agg #[.int .i64 f.ar, .int .i64 f.lo, .int .i64 f.sl, v]
set_option maxHeartbeats 1000000 in
theorem head_at (f : Fn) (A : Option Addr) (n c : Nat) (b1 b2 b3 : Bool) (h1 : inB f.ar 0 16 = b1) (h2 : inB f.lo 0 16 = b2) (h3 : inB f.sl 0 8 = b3) (w : World) :
    Calls Tryz.prog 33 #[fnV f (.slice A n c)] w fun e w' => e = .returned (.bool (b1 && (b2 && b3))) ∧ Below w.heap.size w w' := by
  have H1 := Lib.hid (fun w1 => in_at f.ar 0 16 b1 h1 w1)
  have H2 := Lib.hid (fun w1 => in_at f.lo 0 16 b2 h2 w1)
  have H3 := Lib.hid (fun w1 => in_at f.sl 0 8 b3 h3 w1)
  clear h1 h2 h3
  cases b1 <;> cases b2 <;> cases b3
  all_goals
    go_enter Tryz.func33, Tryz.ntmps33
    go_wp2_with (first | (go_at_call 34; (with_reducible refine (H1.out _).mono ?_); rintro e w' ⟨rfl, hb⟩; have hz := hb.size; (first | (obtain ⟨x1, rfl⟩ := to_mix2 hb) | (obtain ⟨x1, rfl⟩ := to_mix hb)); clear hb; (try simp only [World.size_alloc, World.size_setCell, World.size_drew] at hz); (try have q0 : w.heap.size < _ := Nat.lt_of_lt_of_le (by omega) hz); (try have q1 : w.heap.size + 1 < _ := Nat.lt_of_lt_of_le (by omega) hz); (try have q2 : w.heap.size + 1 + 1 < _ := Nat.lt_of_lt_of_le (by omega) hz); (try have q3 : w.heap.size + 1 + 1 + 1 < _ := Nat.lt_of_lt_of_le (by omega) hz)) | (go_at_call 34; (with_reducible refine (H2.out _).mono ?_); rintro e w' ⟨rfl, hb⟩; have hz := hb.size; (first | (obtain ⟨x1, rfl⟩ := to_mix2 hb) | (obtain ⟨x1, rfl⟩ := to_mix hb)); clear hb; (try simp only [World.size_alloc, World.size_setCell, World.size_drew] at hz); (try have q0 : w.heap.size < _ := Nat.lt_of_lt_of_le (by omega) hz); (try have q1 : w.heap.size + 1 < _ := Nat.lt_of_lt_of_le (by omega) hz); (try have q2 : w.heap.size + 1 + 1 < _ := Nat.lt_of_lt_of_le (by omega) hz); (try have q3 : w.heap.size + 1 + 1 + 1 < _ := Nat.lt_of_lt_of_le (by omega) hz)) | (go_at_call 34; (with_reducible refine (H3.out _).mono ?_); rintro e w' ⟨rfl, hb⟩; have hz := hb.size; (first | (obtain ⟨x1, rfl⟩ := to_mix2 hb) | (obtain ⟨x1, rfl⟩ := to_mix hb)); clear hb; (try simp only [World.size_alloc, World.size_setCell, World.size_drew] at hz); (try have q0 : w.heap.size < _ := Nat.lt_of_lt_of_le (by omega) hz); (try have q1 : w.heap.size + 1 < _ := Nat.lt_of_lt_of_le (by omega) hz); (try have q2 : w.heap.size + 1 + 1 < _ := Nat.lt_of_lt_of_le (by omega) hz); (try have q3 : w.heap.size + 1 + 1 + 1 < _ := Nat.lt_of_lt_of_le (by omega) hz)))
    go_ret
    exact ⟨rfl, by (repeat (first | (with_reducible assumption) | (with_reducible exact Below.refl _ _) | (with_reducible refine grow_alloc ?_ _) | (with_reducible refine grow_mix ?_ _) | (with_reducible refine grow_drew ?_) | (with_reducible refine grow_drewN ?_ _) | (with_reducible refine grow_set ?_ (by first | (simp; done) | (simp; omega) | omega) _)))⟩
theorem head_calls (f : Fn) (A : Option Addr) (n c : Nat) (w : World) :
    Calls Tryz.prog 33 #[fnV f (.slice A n c)] w fun e w' => e = .returned (.bool (headB f)) ∧ Below w.heap.size w w' := head_at f A n c _ _ _ rfl rfl rfl w

theorem not_may_calls (x : Ins) (w : World) :
    Calls Tryz.prog 36 #[insV x] w fun e w' => e = .returned (.bool (!mayI x)) ∧ Below w.heap.size w w' := by
  go_enter Tryz.func36, Tryz.ntmps36
  go_wp2_with (first | (go_at_call 37; refine (May_calls x _).mono ?_; rintro e w' ⟨rfl, hb⟩; have hz := hb.size; (first | (obtain ⟨x1, rfl⟩ := to_mix2 hb) | (obtain ⟨x1, rfl⟩ := to_mix hb)); clear hb; (try simp only [World.size_alloc, World.size_setCell, World.size_drew] at hz); (try have q0 : w.heap.size < _ := Nat.lt_of_lt_of_le (by omega) hz); (try have q1 : w.heap.size + 1 < _ := Nat.lt_of_lt_of_le (by omega) hz); (try have q2 : w.heap.size + 1 + 1 < _ := Nat.lt_of_lt_of_le (by omega) hz); (try have q3 : w.heap.size + 1 + 1 + 1 < _ := Nat.lt_of_lt_of_le (by omega) hz)))
  go_ret
  exact ⟨rfl, by (repeat (first | (with_reducible assumption) | (with_reducible exact Below.refl _ _) | (with_reducible refine grow_alloc ?_ _) | (with_reducible refine grow_mix ?_ _) | (with_reducible refine grow_drew ?_) | (with_reducible refine grow_drewN ?_ _) | (with_reducible refine grow_set ?_ (by first | (simp; done) | (simp; omega) | omega) _)))⟩

set_option maxHeartbeats 1000000 in
theorem indexMay_calls (l : List Ins) (v : Value) (w : World) (h : CodeAt w w.heap.size v l) (hl : l.length ≤ 9223372036854775000) :
    Calls Tryz.prog 67 #[v, .func (.func 36) #[] #[]] w fun e w' => (∃ n : Int, e = .returned (.int .i64 n) ∧ (0 ≤ n ↔ l.all mayI = false)) ∧ Below w.heap.size w w' := by
  obtain ⟨A, c, rfl⟩ := h.form
  have HC := Lib.hid h
  clear h
  go_enter Tryz.func67, Tryz.ntmps67
  go_wp2
  go_loopw [8] (fun i wr => ∃ k : Nat, k ≤ l.length ∧ i = .int .i64 k ∧ Below w.heap.size w wr ∧ Hid ((l.take k).all mayI = true)) (fun i _ => l.length - (intOf i).toNat)
  case atStart => exact ⟨0, Nat.zero_le _, rfl, Below.refl _ _, Lib.hid (by simp)⟩
  case round =>
    obtain ⟨k, hk, rfl, hb, HA⟩ := hrel
    by_cases hlt : k < l.length
    · obtain ⟨a, c', e, hab, c0, c1, c2⟩ := (HC.out.below hb).at_ hlt
      injection e with e1 e2 e3
      subst e1 e3
      have hx : l[k]? = some l[k] := List.getElem?_eq_getElem hlt
      by_cases hm : mayI l[k] = true
      · have HN := Lib.hid (show (l.take (k + 1)).all mayI = true by rw [List.take_add_one, hx, List.all_append, HA.out]; simp [hm])
        have HM : ∀ W, Calls Tryz.prog 36 #[insV l[k]] W fun e w' => e = .returned (.bool false) ∧ Below W.heap.size W w' := fun W => by
          have := not_may_calls l[k] W; rw [hm] at this; exact this
        have HM := Lib.hid HM
        clear hm hx
        go_wp2_with (first | (go_at_call 36; refine (HM.out _).mono ?_; rintro e w' ⟨rfl, hb⟩; have hz := hb.size; (first | (obtain ⟨x1, rfl⟩ := to_mix2 hb) | (obtain ⟨x1, rfl⟩ := to_mix hb)); clear hb; (try simp only [World.size_alloc, World.size_setCell, World.size_drew] at hz); (try have q0 : w.heap.size < _ := Nat.lt_of_lt_of_le (by omega) hz); (try have q1 : w.heap.size + 1 < _ := Nat.lt_of_lt_of_le (by omega) hz); (try have q2 : w.heap.size + 1 + 1 < _ := Nat.lt_of_lt_of_le (by omega) hz); (try have q3 : w.heap.size + 1 + 1 + 1 < _ := Nat.lt_of_lt_of_le (by omega) hz)))
        go_roundw
        case rel => exact ⟨k + 1, by omega, by go_num, by (repeat (first | (with_reducible assumption) | (with_reducible exact Below.refl _ _) | (with_reducible refine grow_alloc ?_ _) | (with_reducible refine grow_mix ?_ _) | (with_reducible refine grow_drew ?_) | (with_reducible refine grow_drewN ?_ _) | (with_reducible refine grow_set ?_ (by first | (simp; done) | (simp; omega) | omega) _))), HN⟩
        case measure => simp [intOf]; omega
      · have HN := Lib.hid (show l.all mayI = false by
          rw [Bool.eq_false_iff]
          intro hh
          exact hm (List.all_eq_true.1 hh _ (List.getElem_mem hlt)))
        have HM : ∀ W, Calls Tryz.prog 36 #[insV l[k]] W fun e w' => e = .returned (.bool true) ∧ Below W.heap.size W w' := fun W => by
          have := not_may_calls l[k] W
          rw [Bool.not_eq_true] at hm
          rw [hm] at this; exact this
        have HM := Lib.hid HM
        clear hm hx
        go_wp2_with (first | (go_at_call 36; refine (HM.out _).mono ?_; rintro e w' ⟨rfl, hb⟩; have hz := hb.size; (first | (obtain ⟨x1, rfl⟩ := to_mix2 hb) | (obtain ⟨x1, rfl⟩ := to_mix hb)); clear hb; (try simp only [World.size_alloc, World.size_setCell, World.size_drew] at hz); (try have q0 : w.heap.size < _ := Nat.lt_of_lt_of_le (by omega) hz); (try have q1 : w.heap.size + 1 < _ := Nat.lt_of_lt_of_le (by omega) hz); (try have q2 : w.heap.size + 1 + 1 < _ := Nat.lt_of_lt_of_le (by omega) hz); (try have q3 : w.heap.size + 1 + 1 + 1 < _ := Nat.lt_of_lt_of_le (by omega) hz)))
        go_ret
        exact ⟨⟨k, rfl, by simp [HN.out]⟩, by (repeat (first | (with_reducible assumption) | (with_reducible exact Below.refl _ _) | (with_reducible refine grow_alloc ?_ _) | (with_reducible refine grow_mix ?_ _) | (with_reducible refine grow_drew ?_) | (with_reducible refine grow_drewN ?_ _) | (with_reducible refine grow_set ?_ (by first | (simp; done) | (simp; omega) | omega) _)))⟩
    · have hk' : k = l.length := by omega
      subst hk'
      have HN := Lib.hid (show l.all mayI = true by have := HA.out; rwa [List.take_length] at this)
      go_wp2
      go_ret
      exact ⟨⟨-1, rfl, by simp [HN.out]⟩, by (repeat (first | (with_reducible assumption) | (with_reducible exact Below.refl _ _) | (with_reducible refine grow_alloc ?_ _) | (with_reducible refine grow_mix ?_ _) | (with_reducible refine grow_drew ?_) | (with_reducible refine grow_drewN ?_ _) | (with_reducible refine grow_set ?_ (by first | (simp; done) | (simp; omega) | omega) _)))⟩
theorem containsMay_calls (l : List Ins) (v : Value) (w : World) (h : CodeAt w w.heap.size v l) (hl : l.length ≤ 9223372036854775000) (b : Bool) (hb : (!l.all mayI) = b) :
    Calls Tryz.prog 35 #[v, .func (.func 36) #[] #[]] w fun e w' => e = .returned (.bool b) ∧ Below w.heap.size w w' := by
  obtain ⟨A, c, rfl⟩ := h.form
  have HC := Lib.hid h
  have HB := Lib.hid hb
  clear h hb
  go_enter Tryz.func35, Tryz.ntmps35
  go_wp2_with (first | (go_at_call 67; refine (indexMay_calls l _ _ HC.out hl).mono ?_; rintro e w1 ⟨⟨n, rfl, hn⟩, hb1⟩; have HN := Lib.hid hn; clear hn))
  go_ret
  refine ⟨?_, by (repeat (first | (with_reducible assumption) | (with_reducible exact Below.refl _ _) | (with_reducible refine grow_alloc ?_ _) | (with_reducible refine grow_mix ?_ _) | (with_reducible refine grow_drew ?_) | (with_reducible refine grow_drewN ?_ _) | (with_reducible refine grow_set ?_ (by first | (simp; done) | (simp; omega) | omega) _)))⟩
  have hn := HN.out
  have hb := HB.out
  subst hb
  by_cases h0 : 0 ≤ n
  · rw [hn.1 h0]
    simp [h0]
  · have : l.all mayI = true := by
      cases hh : l.all mayI
      · exact absurd (hn.2 hh) h0
      · rfl
    rw [this]
    simp
    omega

theorem may_true {f : Fn} (h1 : headB f = true) (h2 : inB f.code.length 1 200 = true) (h3 : (!f.code.all mayI) = false) : mayF f = true := by
  unfold mayF; rw [h1, h2]; simpa using h3
theorem may_no {f : Fn} {b1 b2 b3 : Bool} (h1 : headB f = b1) (h2 : inB f.code.length 1 200 = b2) (h3 : (!f.code.all mayI) = b3) (h : (b1 && (b2 && !b3)) = false) : mayF f = false := by
  unfold mayF; rw [h1, h2]
  subst h3
  simpa using h
theorem may_next {p : Pg} {k : Nat} {f : Fn} (hx : p[k]? = some f) (h : (p.take k).all mayF = true) (hf : mayF f = true) : (p.take (k + 1)).all mayF = true := by
  rw [List.take_add_one, hx, List.all_append, h]; simp [hf]
theorem may_false {p : Pg} {k : Nat} {f : Fn} (hx : p[k]? = some f) (hf : mayF f = false) : mayP p = false := by
  have hm := List.mem_of_getElem? hx
  have : p.all mayF = false := by
    rw [Bool.eq_false_iff]
    intro hh
    have := List.all_eq_true.1 hh _ hm
    rw [hf] at this; cases this
  unfold mayP; rw [this]; rfl

set_option maxHeartbeats 4000000 in
theorem May_calls (p : Pg) (v : Value) (w : World) (h : ProgAt w w.heap.size v p) (hl : p.length ≤ 9223372036854775000) (hc : ∀ f ∈ p, f.code.length ≤ 9223372036854775000) :
    Calls Tryz.prog 15 #[v] w fun e w' => e = .returned (.bool (mayP p)) ∧ Below w.heap.size w w' := by
  obtain ⟨A, c, rfl⟩ := h.form
  have HC := Lib.hid h
  have HL := Lib.hid hc
  clear h hc
  go_enter Tryz.func15, Tryz.ntmps15
  go_wp2
  go_loopw [7] (fun i wr => ∃ k : Nat, k ≤ p.length ∧ i = .int .i64 k ∧ Below w.heap.size w wr ∧ Hid ((p.take k).all mayF = true)) (fun i _ => p.length - (intOf i).toNat)
  case atStart => exact ⟨0, Nat.zero_le _, rfl, Below.refl _ _, Lib.hid (by simp)⟩
  case round =>
    obtain ⟨k, hk, rfl, hb, HA⟩ := hrel
    by_cases hlt : k < p.length
    · obtain ⟨a, c', u, e, hab, c0, c1, c2, c3, hcd⟩ := HC.out.at2 hb hlt
      injection e with e1 e2 e3
      subst e1 e3
      obtain ⟨A', c', rfl⟩ := hcd.form
      have HCD := Lib.hid hcd.stays
      clear hcd
      have hlc := HL.out p[k] (List.getElem_mem hlt)
      have hx : p[k]? = some p[k] := List.getElem?_eq_getElem hlt
      obtain ⟨f, hf⟩ : ∃ f, p[k] = f := ⟨_, rfl⟩
      rw [hf] at c0 c1 c2 c3 HCD hlc hx
      obtain ⟨b1, hb1⟩ : ∃ b, headB f = b := ⟨_, rfl⟩
      obtain ⟨b2, hb2⟩ : ∃ b, inB f.code.length 1 200 = b := ⟨_, rfl⟩
      obtain ⟨b3, hb3⟩ : ∃ b, (!f.code.all mayI) = b := ⟨_, rfl⟩
      have HF := Lib.hid (And.intro hf (And.intro hx (And.intro hb1 (And.intro hb2 hb3))))
      have H1 : ∀ W, Calls Tryz.prog 33 #[fnV f (.slice A' f.code.length c')] W fun e w' => e = .returned (.bool b1) ∧ Below W.heap.size W w' := fun W => by
        have := head_calls f A' f.code.length c' W; rw [hb1] at this; exact this
      have H1 := Lib.hid H1
      have H2 := Lib.hid (fun W => in_at f.code.length 1 200 b2 hb2 W)
      have H3 := Lib.hid (fun W (hW : Below w.heap.size w W) => containsMay_calls f.code _ W (HCD.out W hW) hlc b3 hb3)
      clear hf hx hb1 hb2 hb3
      cases b1 <;> cases b2 <;> cases b3
      all_goals
        go_wp2_with (first | (go_at_call 33; (with_reducible refine (H1.out _).mono ?_); rintro e w' ⟨rfl, hb⟩; have hz := hb.size; (first | (obtain ⟨x1, rfl⟩ := to_mix2 hb) | (obtain ⟨x1, rfl⟩ := to_mix hb)); clear hb; (try simp only [World.size_alloc, World.size_setCell, World.size_drew] at hz); (try have q0 : w.heap.size < _ := Nat.lt_of_lt_of_le (by omega) hz); (try have q1 : w.heap.size + 1 < _ := Nat.lt_of_lt_of_le (by omega) hz); (try have q2 : w.heap.size + 1 + 1 < _ := Nat.lt_of_lt_of_le (by omega) hz); (try have q3 : w.heap.size + 1 + 1 + 1 < _ := Nat.lt_of_lt_of_le (by omega) hz)) | (go_at_call 34; (with_reducible refine (H2.out _).mono ?_); rintro e w' ⟨rfl, hb⟩; have hz := hb.size; (first | (obtain ⟨x1, rfl⟩ := to_mix2 hb) | (obtain ⟨x1, rfl⟩ := to_mix hb)); clear hb; (try simp only [World.size_alloc, World.size_setCell, World.size_drew] at hz); (try have q0 : w.heap.size < _ := Nat.lt_of_lt_of_le (by omega) hz); (try have q1 : w.heap.size + 1 < _ := Nat.lt_of_lt_of_le (by omega) hz); (try have q2 : w.heap.size + 1 + 1 < _ := Nat.lt_of_lt_of_le (by omega) hz); (try have q3 : w.heap.size + 1 + 1 + 1 < _ := Nat.lt_of_lt_of_le (by omega) hz)) | (go_at_call 35; (with_reducible refine (H3.out _ (by (repeat (first | (with_reducible assumption) | (with_reducible exact Below.refl _ _) | (with_reducible refine grow_alloc ?_ _) | (with_reducible refine grow_mix ?_ _) | (with_reducible refine grow_drew ?_) | (with_reducible refine grow_drewN ?_ _) | (with_reducible refine grow_set ?_ (by first | (simp; done) | (simp; omega) | omega) _))))).mono ?_); rintro e w' ⟨rfl, hb⟩; have hz := hb.size; (first | (obtain ⟨x1, rfl⟩ := to_mix2 hb) | (obtain ⟨x1, rfl⟩ := to_mix hb)); clear hb; (try simp only [World.size_alloc, World.size_setCell, World.size_drew] at hz); (try have q0 : w.heap.size < _ := Nat.lt_of_lt_of_le (by omega) hz); (try have q1 : w.heap.size + 1 < _ := Nat.lt_of_lt_of_le (by omega) hz); (try have q2 : w.heap.size + 1 + 1 < _ := Nat.lt_of_lt_of_le (by omega) hz); (try have q3 : w.heap.size + 1 + 1 + 1 < _ := Nat.lt_of_lt_of_le (by omega) hz)))
      all_goals first
        | (go_roundw
           case rel => exact ⟨k + 1, by omega, by go_num, by (repeat (first | (with_reducible assumption) | (with_reducible exact Below.refl _ _) | (with_reducible refine grow_alloc ?_ _) | (with_reducible refine grow_mix ?_ _) | (with_reducible refine grow_drew ?_) | (with_reducible refine grow_drewN ?_ _) | (with_reducible refine grow_set ?_ (by first | (simp; done) | (simp; omega) | omega) _))), Lib.hid (may_next HF.out.2.1 HA.out (may_true HF.out.2.2.1 HF.out.2.2.2.1 HF.out.2.2.2.2))⟩
           case measure => simp [intOf]; omega)
        | (go_ret
           exact ⟨by rw [may_false HF.out.2.1 (may_no HF.out.2.2.1 HF.out.2.2.2.1 HF.out.2.2.2.2 (by decide))]; rfl, by (repeat (first | (with_reducible assumption) | (with_reducible exact Below.refl _ _) | (with_reducible refine grow_alloc ?_ _) | (with_reducible refine grow_mix ?_ _) | (with_reducible refine grow_drew ?_) | (with_reducible refine grow_drewN ?_ _) | (with_reducible refine grow_set ?_ (by first | (simp; done) | (simp; omega) | omega) _)))⟩)
    · have hk' : k = p.length := by omega
      subst hk'
      have HN := Lib.hid (show p.all mayF = true by have := HA.out; rwa [List.take_length] at this)
      go_wp2_with (first | (go_at_call 34; (with_reducible refine (in_calls _ _ _ _).mono ?_); rintro e w' ⟨rfl, hb⟩; have hz := hb.size; (first | (obtain ⟨x1, rfl⟩ := to_mix2 hb) | (obtain ⟨x1, rfl⟩ := to_mix hb)); clear hb; (try simp only [World.size_alloc, World.size_setCell, World.size_drew] at hz); (try have q0 : w.heap.size < _ := Nat.lt_of_lt_of_le (by omega) hz); (try have q1 : w.heap.size + 1 < _ := Nat.lt_of_lt_of_le (by omega) hz); (try have q2 : w.heap.size + 1 + 1 < _ := Nat.lt_of_lt_of_le (by omega) hz); (try have q3 : w.heap.size + 1 + 1 + 1 < _ := Nat.lt_of_lt_of_le (by omega) hz)))
      go_ret
      exact ⟨by unfold mayP; rw [HN.out]; rfl, by (repeat (first | (with_reducible assumption) | (with_reducible exact Below.refl _ _) | (with_reducible refine grow_alloc ?_ _) | (with_reducible refine grow_mix ?_ _) | (with_reducible refine grow_drew ?_) | (with_reducible refine grow_drewN ?_ _) | (with_reducible refine grow_set ?_ (by first | (simp; done) | (simp; omega) | omega) _)))⟩
end Go.Proofs.YtedkfipjooafeaaGreatDoor.Code
