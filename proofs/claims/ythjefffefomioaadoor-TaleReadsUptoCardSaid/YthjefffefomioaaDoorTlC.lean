/- The library's functions that the texts of layers 25 and 26 reach. (The layings are the plain text of the kit's own laying at this seat's numbers.) -/
import Derived.Test.YthjefffefomioaaDoorProg
import Derived.Test.YthjefffefomioaaDoorMem
import Derived.Test.YthjefffefomioaaDoorTlA
import Derived.Shelf.Small.Strs
import Derived.Shelf.Strings.Prefix
import Derived.Shelf.Strings.SplitShaped
import Derived.Shelf.Strconv.Itoa3
import Derived.Shelf.Strconv.AtoiAll
import Derived.Shelf.Strconv.ErrVarAll
namespace Go.Proofs.YthjefffefomioaaDoor
open Go.RowKit Go.Shelf
namespace Tl
def idxByteLay_ren : Go.Shelf.Ren := ⟨fun | 137 => 60 | 217 => 75 | 266 => 91 | n => n, fun | 9 => 9 | 5 => 5 | 3 => 3 | n => n, fun | n => n⟩
theorem idxByteLay : Go.Proofs.Lays.n137 Tryd.prog idxByteLay_ren := {
  mixed := by kernel_rfl,
  f137 := Tryd.func60.trans (congrArg some (by kernel_rfl)),
  f217 := Tryd.func75.trans (congrArg some (by kernel_rfl)),
  f266 := Tryd.func91.trans (congrArg some (by kernel_rfl)),
  t3 := Tryd.underlying3,
  a3 := Tryd.isAgg3,
  z3 := Tryd.sizeOf3,
  v3 := Tryd.zeroValue3,
  t5 := Tryd.underlying5,
  a5 := Tryd.isAgg5,
  z5 := Tryd.sizeOf5,
  v5 := Tryd.zeroValue5,
  t9 := Tryd.underlying9,
  a9 := Tryd.isAgg9,
  z9 := Tryd.sizeOf9,
  v9 := Tryd.zeroValue9 }
def trimLay_ren : Go.Shelf.Ren := ⟨fun | 102 => 35 | 209 => 61 | 207 => 76 | n => n, fun | 9 => 9 | 4 => 4 | 3 => 3 | n => n, fun | n => n⟩
theorem trimLay : Go.Proofs.Lays.n102 Tryd.prog trimLay_ren := {
  mixed := by kernel_rfl,
  f102 := Tryd.func35.trans (congrArg some (by kernel_rfl)),
  f207 := Tryd.func76.trans (congrArg some (by kernel_rfl)),
  f209 := Tryd.func61.trans (congrArg some (by kernel_rfl)),
  t3 := Tryd.underlying3,
  a3 := Tryd.isAgg3,
  z3 := Tryd.sizeOf3,
  v3 := Tryd.zeroValue3,
  t4 := Tryd.underlying4,
  a4 := Tryd.isAgg4,
  z4 := Tryd.sizeOf4,
  v4 := Tryd.zeroValue4,
  t9 := Tryd.underlying9,
  a9 := Tryd.isAgg9,
  z9 := Tryd.sizeOf9,
  v9 := Tryd.zeroValue9 }
def splitLay_ren : Go.Shelf.Ren := ⟨fun | 146 => 32 | 221 => 56 | 268 => 67 | 138 => 68 | 143 => 69 | 195 => 85 | 197 => 86 | 218 => 87 | 219 => 88 | 260 => 98 | 217 => 75 | 225 => 99 | 224 => 100 | 267 => 101 | 266 => 91 | 314 => 104 | n => n, fun | 9 => 9 | 31 => 65 | 3 => 3 | 4 => 4 | 0 => 0 | 105 => 132 | 21 => 21 | 5 => 5 | 46 => 129 | 119 => 148 | 139 => 151 | 138 => 150 | 146 => 152 | 51 => 141 | n => n, fun | 1 => 3 | 3 => 4 | 4 => 5 | n => n⟩
theorem splitLay : Go.Proofs.LaysM.n146 Tryd.prog splitLay_ren := {
  mixed := by kernel_rfl,
  f138 := Tryd.func68.trans (congrArg some (by kernel_rfl)),
  f143 := Tryd.func69.trans (congrArg some (by kernel_rfl)),
  f146 := Tryd.func32.trans (congrArg some (by kernel_rfl)),
  f195 := Tryd.func85.trans (congrArg some (by kernel_rfl)),
  f197 := Tryd.func86.trans (congrArg some (by kernel_rfl)),
  f217 := Tryd.func75.trans (congrArg some (by kernel_rfl)),
  f218 := Tryd.func87.trans (congrArg some (by kernel_rfl)),
  f219 := Tryd.func88.trans (congrArg some (by kernel_rfl)),
  f221 := Tryd.func56.trans (congrArg some (by kernel_rfl)),
  f224 := Tryd.func100.trans (congrArg some (by kernel_rfl)),
  f225 := Tryd.func99.trans (congrArg some (by kernel_rfl)),
  f260 := Tryd.func98.trans (congrArg some (by kernel_rfl)),
  f266 := Tryd.func91.trans (congrArg some (by kernel_rfl)),
  f267 := Tryd.func101.trans (congrArg some (by kernel_rfl)),
  f268 := Tryd.func67.trans (congrArg some (by kernel_rfl)),
  f314 := Tryd.func104.trans (congrArg some (by kernel_rfl)),
  t0 := Tryd.underlying0,
  a0 := Tryd.isAgg0,
  z0 := Tryd.sizeOf0,
  v0 := Tryd.zeroValue0,
  t3 := Tryd.underlying3,
  a3 := Tryd.isAgg3,
  z3 := Tryd.sizeOf3,
  v3 := Tryd.zeroValue3,
  t4 := Tryd.underlying4,
  a4 := Tryd.isAgg4,
  z4 := Tryd.sizeOf4,
  v4 := Tryd.zeroValue4,
  t5 := Tryd.underlying5,
  a5 := Tryd.isAgg5,
  z5 := Tryd.sizeOf5,
  v5 := Tryd.zeroValue5,
  t9 := Tryd.underlying9,
  a9 := Tryd.isAgg9,
  z9 := Tryd.sizeOf9,
  v9 := Tryd.zeroValue9,
  t21 := Tryd.underlying21,
  a21 := Tryd.isAgg21,
  z21 := Tryd.sizeOf21,
  v21 := Tryd.zeroValue21,
  t31 := Tryd.underlying65,
  a31 := Tryd.isAgg65,
  z31 := Tryd.sizeOf65,
  v31 := Tryd.zeroValue65,
  t46 := Tryd.underlying129,
  a46 := Tryd.isAgg129,
  z46 := Tryd.sizeOf129,
  v46 := Tryd.zeroValue129,
  t51 := Tryd.underlying141,
  a51 := Tryd.isAgg141,
  z51 := Tryd.sizeOf141,
  v51 := Tryd.zeroValue141,
  t105 := Tryd.underlying132,
  a105 := Tryd.isAgg132,
  z105 := Tryd.sizeOf132,
  v105 := Tryd.zeroValue132,
  t119 := Tryd.underlying148,
  a119 := Tryd.isAgg148,
  z119 := Tryd.sizeOf148,
  t138 := Tryd.underlying150,
  a138 := Tryd.isAgg150,
  z138 := Tryd.sizeOf150,
  v138 := Tryd.zeroValue150,
  t139 := Tryd.underlying151,
  a139 := Tryd.isAgg151,
  z139 := Tryd.sizeOf151,
  v139 := Tryd.zeroValue151,
  t146 := Tryd.underlying152,
  a146 := Tryd.isAgg152,
  z146 := Tryd.sizeOf152,
  v146 := Tryd.zeroValue152,
  g1 := by kernel_rfl,
  g3 := by kernel_rfl,
  g4 := by kernel_rfl,
  i0 := by kernel_rfl,
  i3 := by kernel_rfl,
  i4 := by kernel_rfl,
  i5 := by kernel_rfl,
  i9 := by kernel_rfl,
  i21 := by kernel_rfl,
  i31 := by kernel_rfl,
  i46 := by kernel_rfl,
  i51 := by kernel_rfl,
  i105 := by kernel_rfl,
  i138 := by kernel_rfl,
  i139 := by kernel_rfl,
  i146 := by kernel_rfl,
  m1 := by kernel_rfl,
  s1_3 := fun w h => Go.Proofs.cell_of_shapedOpen_int (zero := #[.int .i64 0]) (t := 3) h (of_decide_eq_true (by kernel_rfl)) (by kernel_rfl) rfl (by kernel_rfl) (by kernel_rfl) Tryd.underlying3,
  m3 := by kernel_rfl,
  m4 := by kernel_rfl }
def itoaLay_ren : Go.Shelf.Ren := ⟨fun | 171 => 30 | 243 => 55 | 246 => 66 | 283 => 77 | 284 => 78 | 285 => 79 | 286 => 80 | 129 => 93 | 317 => 92 | 318 => 94 | 319 => 95 | 320 => 96 | 337 => 102 | 338 => 103 | n => n, fun | 3 => 3 | 9 => 9 | 2 => 2 | 4 => 4 | 171 => 123 | 0 => 0 | 53 => 38 | 37 => 76 | 5 => 5 | 173 => 126 | 212 => 140 | 51 => 141 | 20 => 20 | 213 => 142 | 46 => 129 | 232 => 154 | 233 => 155 | n => n, fun | 17 => 2 | 18 => 6 | 19 => 7 | n => n⟩
theorem itoaLay : Go.Proofs.LaysM.n171 Tryd.prog itoaLay_ren := {
  mixed := by kernel_rfl,
  f129 := Tryd.func93.trans (congrArg some (by kernel_rfl)),
  f171 := Tryd.func30.trans (congrArg some (by kernel_rfl)),
  f243 := Tryd.func55.trans (congrArg some (by kernel_rfl)),
  f246 := Tryd.func66.trans (congrArg some (by kernel_rfl)),
  f283 := Tryd.func77.trans (congrArg some (by kernel_rfl)),
  f284 := Tryd.func78.trans (congrArg some (by kernel_rfl)),
  f285 := Tryd.func79.trans (congrArg some (by kernel_rfl)),
  f286 := Tryd.func80.trans (congrArg some (by kernel_rfl)),
  f317 := Tryd.func92.trans (congrArg some (by kernel_rfl)),
  f318 := Tryd.func94.trans (congrArg some (by kernel_rfl)),
  f319 := Tryd.func95.trans (congrArg some (by kernel_rfl)),
  f320 := Tryd.func96.trans (congrArg some (by kernel_rfl)),
  f337 := Tryd.func102.trans (congrArg some (by kernel_rfl)),
  f338 := Tryd.func103.trans (congrArg some (by kernel_rfl)),
  t0 := Tryd.underlying0,
  a0 := Tryd.isAgg0,
  z0 := Tryd.sizeOf0,
  v0 := Tryd.zeroValue0,
  t2 := Tryd.underlying2,
  a2 := Tryd.isAgg2,
  z2 := Tryd.sizeOf2,
  v2 := Tryd.zeroValue2,
  t3 := Tryd.underlying3,
  a3 := Tryd.isAgg3,
  z3 := Tryd.sizeOf3,
  v3 := Tryd.zeroValue3,
  t4 := Tryd.underlying4,
  a4 := Tryd.isAgg4,
  z4 := Tryd.sizeOf4,
  v4 := Tryd.zeroValue4,
  t5 := Tryd.underlying5,
  a5 := Tryd.isAgg5,
  z5 := Tryd.sizeOf5,
  v5 := Tryd.zeroValue5,
  t9 := Tryd.underlying9,
  a9 := Tryd.isAgg9,
  z9 := Tryd.sizeOf9,
  v9 := Tryd.zeroValue9,
  t20 := Tryd.underlying20,
  a20 := Tryd.isAgg20,
  z20 := Tryd.sizeOf20,
  v20 := Tryd.zeroValue20,
  t37 := Tryd.underlying76,
  a37 := Tryd.isAgg76,
  z37 := Tryd.sizeOf76,
  v37 := Tryd.zeroValue76,
  t46 := Tryd.underlying129,
  a46 := Tryd.isAgg129,
  z46 := Tryd.sizeOf129,
  v46 := Tryd.zeroValue129,
  t51 := Tryd.underlying141,
  a51 := Tryd.isAgg141,
  z51 := Tryd.sizeOf141,
  v51 := Tryd.zeroValue141,
  t53 := Tryd.underlying38,
  a53 := Tryd.isAgg38,
  z53 := Tryd.sizeOf38,
  v53 := Tryd.zeroValue38,
  t171 := Tryd.underlying123,
  a171 := Tryd.isAgg123,
  z171 := Tryd.sizeOf123,
  v171 := Tryd.zeroValue123,
  t173 := Tryd.underlying126,
  a173 := Tryd.isAgg126,
  z173 := Tryd.sizeOf126,
  v173 := Tryd.zeroValue126,
  t212 := Tryd.underlying140,
  a212 := Tryd.isAgg140,
  z212 := Tryd.sizeOf140,
  v212 := Tryd.zeroValue140,
  t213 := Tryd.underlying142,
  a213 := Tryd.isAgg142,
  z213 := Tryd.sizeOf142,
  t232 := Tryd.underlying154,
  a232 := Tryd.isAgg154,
  z232 := Tryd.sizeOf154,
  v232 := Tryd.zeroValue154,
  t233 := Tryd.underlying155,
  a233 := Tryd.isAgg155,
  z233 := Tryd.sizeOf155,
  v233 := Tryd.zeroValue155,
  g17 := by kernel_rfl,
  g18 := by kernel_rfl,
  g19 := by kernel_rfl,
  i0 := by kernel_rfl,
  i2 := by kernel_rfl,
  i3 := by kernel_rfl,
  i4 := by kernel_rfl,
  i5 := by kernel_rfl,
  i9 := by kernel_rfl,
  i20 := by kernel_rfl,
  i37 := by kernel_rfl,
  i46 := by kernel_rfl,
  i51 := by kernel_rfl,
  i53 := by kernel_rfl,
  i171 := by kernel_rfl,
  i173 := by kernel_rfl,
  i212 := by kernel_rfl,
  i232 := by kernel_rfl,
  i233 := by kernel_rfl,
  m17 := by kernel_rfl,
  m18 := by kernel_rfl,
  m19 := by kernel_rfl }
def atoiLay_ren : Go.Shelf.Ren := ⟨fun | 172 => 33 | 244 => 57 | 245 => 58 | 247 => 70 | 279 => 71 | 280 => 72 | 281 => 73 | 282 => 74 | 287 => 63 | 316 => 89 | 171 => 30 | 205 => 90 | 321 => 81 | 322 => 82 | 243 => 55 | 246 => 66 | 283 => 77 | 284 => 78 | 285 => 79 | 286 => 80 | 129 => 93 | 317 => 92 | 318 => 94 | 319 => 95 | 320 => 96 | 337 => 102 | 338 => 103 | n => n, fun | 9 => 9 | 3 => 3 | 75 => 69 | 76 => 70 | 4 => 4 | 5 => 5 | 167 => 117 | 37 => 76 | 0 => 0 | 85 => 118 | 2 => 2 | 168 => 120 | 53 => 38 | 175 => 83 | 46 => 129 | 210 => 136 | 127 => 113 | 145 => 146 | 143 => 144 | 21 => 21 | 171 => 123 | 173 => 126 | 212 => 140 | 51 => 141 | 20 => 20 | 213 => 142 | 232 => 154 | 233 => 155 | 80 => 107 | n => n, fun | 15 => 0 | 16 => 1 | 17 => 2 | 18 => 6 | 19 => 7 | n => n⟩
theorem atoiLay : Go.Proofs.LaysC.n172 Tryd.prog atoiLay_ren := {
  mixed := by kernel_rfl,
  f129 := Tryd.func93.trans (congrArg some (by kernel_rfl)),
  f171 := Tryd.func30.trans (congrArg some (by kernel_rfl)),
  f172 := Tryd.func33.trans (congrArg some (by kernel_rfl)),
  f205 := Tryd.func90.trans (congrArg some (by kernel_rfl)),
  f243 := Tryd.func55.trans (congrArg some (by kernel_rfl)),
  f244 := Tryd.func57.trans (congrArg some (by kernel_rfl)),
  f245 := Tryd.func58.trans (congrArg some (by kernel_rfl)),
  f246 := Tryd.func66.trans (congrArg some (by kernel_rfl)),
  f247 := Tryd.func70.trans (congrArg some (by kernel_rfl)),
  f279 := Tryd.func71.trans (congrArg some (by kernel_rfl)),
  f280 := Tryd.func72.trans (congrArg some (by kernel_rfl)),
  f281 := Tryd.func73.trans (congrArg some (by kernel_rfl)),
  f282 := Tryd.func74.trans (congrArg some (by kernel_rfl)),
  f283 := Tryd.func77.trans (congrArg some (by kernel_rfl)),
  f284 := Tryd.func78.trans (congrArg some (by kernel_rfl)),
  f285 := Tryd.func79.trans (congrArg some (by kernel_rfl)),
  f286 := Tryd.func80.trans (congrArg some (by kernel_rfl)),
  f287 := Tryd.func63.trans (congrArg some (by kernel_rfl)),
  f316 := Tryd.func89.trans (congrArg some (by kernel_rfl)),
  f317 := Tryd.func92.trans (congrArg some (by kernel_rfl)),
  f318 := Tryd.func94.trans (congrArg some (by kernel_rfl)),
  f319 := Tryd.func95.trans (congrArg some (by kernel_rfl)),
  f320 := Tryd.func96.trans (congrArg some (by kernel_rfl)),
  f321 := Tryd.func81.trans (congrArg some (by kernel_rfl)),
  f322 := Tryd.func82.trans (congrArg some (by kernel_rfl)),
  f337 := Tryd.func102.trans (congrArg some (by kernel_rfl)),
  f338 := Tryd.func103.trans (congrArg some (by kernel_rfl)),
  t0 := Tryd.underlying0,
  a0 := Tryd.isAgg0,
  z0 := Tryd.sizeOf0,
  v0 := Tryd.zeroValue0,
  t2 := Tryd.underlying2,
  a2 := Tryd.isAgg2,
  z2 := Tryd.sizeOf2,
  v2 := Tryd.zeroValue2,
  t3 := Tryd.underlying3,
  a3 := Tryd.isAgg3,
  z3 := Tryd.sizeOf3,
  v3 := Tryd.zeroValue3,
  t4 := Tryd.underlying4,
  a4 := Tryd.isAgg4,
  z4 := Tryd.sizeOf4,
  v4 := Tryd.zeroValue4,
  t5 := Tryd.underlying5,
  a5 := Tryd.isAgg5,
  z5 := Tryd.sizeOf5,
  v5 := Tryd.zeroValue5,
  t9 := Tryd.underlying9,
  a9 := Tryd.isAgg9,
  z9 := Tryd.sizeOf9,
  v9 := Tryd.zeroValue9,
  t20 := Tryd.underlying20,
  a20 := Tryd.isAgg20,
  z20 := Tryd.sizeOf20,
  v20 := Tryd.zeroValue20,
  t21 := Tryd.underlying21,
  a21 := Tryd.isAgg21,
  z21 := Tryd.sizeOf21,
  v21 := Tryd.zeroValue21,
  t37 := Tryd.underlying76,
  a37 := Tryd.isAgg76,
  z37 := Tryd.sizeOf76,
  v37 := Tryd.zeroValue76,
  t46 := Tryd.underlying129,
  a46 := Tryd.isAgg129,
  z46 := Tryd.sizeOf129,
  v46 := Tryd.zeroValue129,
  t51 := Tryd.underlying141,
  a51 := Tryd.isAgg141,
  z51 := Tryd.sizeOf141,
  v51 := Tryd.zeroValue141,
  t53 := Tryd.underlying38,
  a53 := Tryd.isAgg38,
  z53 := Tryd.sizeOf38,
  v53 := Tryd.zeroValue38,
  t75 := Tryd.underlying69,
  a75 := Tryd.isAgg69,
  z75 := Tryd.sizeOf69,
  v75 := Tryd.zeroValue69,
  t76 := Tryd.underlying70,
  a76 := Tryd.isAgg70,
  z76 := Tryd.sizeOf70,
  v76 := Tryd.zeroValue70,
  t85 := Tryd.underlying118,
  a85 := Tryd.isAgg118,
  z85 := Tryd.sizeOf118,
  v85 := Tryd.zeroValue118,
  t127 := Tryd.underlying113,
  a127 := Tryd.isAgg113,
  z127 := Tryd.sizeOf113,
  v127 := Tryd.zeroValue113,
  t143 := Tryd.underlying144,
  a143 := Tryd.isAgg144,
  z143 := Tryd.sizeOf144,
  v143 := Tryd.zeroValue144,
  t145 := Tryd.underlying146,
  a145 := Tryd.isAgg146,
  z145 := Tryd.sizeOf146,
  v145 := Tryd.zeroValue146,
  t167 := Tryd.underlying117,
  a167 := Tryd.isAgg117,
  z167 := Tryd.sizeOf117,
  v167 := Tryd.zeroValue117,
  t168 := Tryd.underlying120,
  a168 := Tryd.isAgg120,
  z168 := Tryd.sizeOf120,
  v168 := Tryd.zeroValue120,
  t171 := Tryd.underlying123,
  a171 := Tryd.isAgg123,
  z171 := Tryd.sizeOf123,
  v171 := Tryd.zeroValue123,
  t173 := Tryd.underlying126,
  a173 := Tryd.isAgg126,
  z173 := Tryd.sizeOf126,
  v173 := Tryd.zeroValue126,
  t175 := Tryd.underlying83,
  a175 := Tryd.isAgg83,
  z175 := Tryd.sizeOf83,
  v175 := Tryd.zeroValue83,
  t210 := Tryd.underlying136,
  a210 := Tryd.isAgg136,
  z210 := Tryd.sizeOf136,
  v210 := Tryd.zeroValue136,
  t212 := Tryd.underlying140,
  a212 := Tryd.isAgg140,
  z212 := Tryd.sizeOf140,
  v212 := Tryd.zeroValue140,
  t213 := Tryd.underlying142,
  a213 := Tryd.isAgg142,
  z213 := Tryd.sizeOf142,
  t232 := Tryd.underlying154,
  a232 := Tryd.isAgg154,
  z232 := Tryd.sizeOf154,
  v232 := Tryd.zeroValue154,
  t233 := Tryd.underlying155,
  a233 := Tryd.isAgg155,
  z233 := Tryd.sizeOf155,
  v233 := Tryd.zeroValue155,
  g15 := by kernel_rfl,
  g16 := by kernel_rfl,
  g17 := by kernel_rfl,
  g18 := by kernel_rfl,
  g19 := by kernel_rfl,
  t80 := Tryd.underlying107,
  a80 := Tryd.isAgg107,
  z80 := Tryd.sizeOf107,
  v80 := Tryd.zeroValue107,
  i0 := by kernel_rfl,
  i2 := by kernel_rfl,
  i3 := by kernel_rfl,
  i4 := by kernel_rfl,
  i5 := by kernel_rfl,
  i9 := by kernel_rfl,
  i20 := by kernel_rfl,
  i21 := by kernel_rfl,
  i37 := by kernel_rfl,
  i46 := by kernel_rfl,
  i51 := by kernel_rfl,
  i53 := by kernel_rfl,
  i75 := by kernel_rfl,
  i76 := by kernel_rfl,
  i80 := by kernel_rfl,
  i85 := by kernel_rfl,
  i127 := by kernel_rfl,
  i143 := by kernel_rfl,
  i145 := by kernel_rfl,
  i167 := by kernel_rfl,
  i168 := by kernel_rfl,
  i171 := by kernel_rfl,
  i173 := by kernel_rfl,
  i175 := by kernel_rfl,
  i210 := by kernel_rfl,
  i212 := by kernel_rfl,
  i232 := by kernel_rfl,
  i233 := by kernel_rfl,
  m15 := by kernel_rfl,
  m16 := by kernel_rfl,
  m17 := by kernel_rfl,
  m18 := by kernel_rfl,
  m19 := by kernel_rfl,
  c0 := by kernel_rfl,
  c2 := by kernel_rfl,
  c3 := by kernel_rfl,
  c4 := by kernel_rfl,
  c5 := by kernel_rfl,
  c9 := by kernel_rfl,
  c20 := by kernel_rfl,
  c21 := by kernel_rfl,
  c37 := by kernel_rfl,
  c46 := by kernel_rfl,
  c51 := by kernel_rfl,
  c53 := by kernel_rfl,
  c75 := by kernel_rfl,
  c76 := by kernel_rfl,
  c80 := by kernel_rfl,
  c85 := by kernel_rfl,
  c127 := by kernel_rfl,
  c143 := by kernel_rfl,
  c145 := by kernel_rfl,
  c167 := by kernel_rfl,
  c168 := by kernel_rfl,
  c171 := by kernel_rfl,
  c173 := by kernel_rfl,
  c175 := by kernel_rfl,
  c210 := by kernel_rfl,
  c212 := by kernel_rfl,
  c213 := by kernel_rfl,
  c232 := by kernel_rfl,
  c233 := by kernel_rfl }

/-- What the library's own variables hold. -/
structure Gl (w : World) : Prop where
  pow : Lib.TabIs Tryd.prog w "internal/strconv.uint64pow10" .u64 Lib.pow10Tab
  syn : ∃ tp p, w.var? Tryd.prog "strconv.ErrSyntax" = some #[.iface tp p]
  rng : ∃ tp p, w.var? Tryd.prog "strconv.ErrRange" = some #[.iface tp p]
  mx : ∃ m, w.cell? ⟨3, 0, none⟩ = some (.int .i64 m)
  sz : 8 ≤ w.heap.size

theorem g_syn : Tryd.prog.globalNamed "strconv.ErrSyntax" = some 0 := by kernel_rfl
theorem g_rng : Tryd.prog.globalNamed "strconv.ErrRange" = some 1 := by kernel_rfl
theorem g_pow : Tryd.prog.globalNamed "internal/strconv.uint64pow10" = some 2 := by kernel_rfl

theorem var_keeps {S : Nat → Prop} {w w' : World} (k : Keeps S w w') {g : Nat} {name : String} (hg : Tryd.prog.globalNamed name = some g) (hlt : g < w.heap.size) (hS : ¬ S g) : w'.var? Tryd.prog name = w.var? Tryd.prog name := by
  simp only [World.var?, hg, Option.bind_some, k.block g hlt hS]

/-- They hold it on. -/
theorem Gl.keeps {S : Nat → Prop} {w w' : World} (h : Gl w) (k : Keeps S w w') (hS : ∀ b, S b → 8 ≤ b) : Gl w' := by
  have hsz := h.sz
  have hn : ∀ b, b < 8 → ¬ S b := fun b hb e => by have := hS b e; omega
  obtain ⟨p1, ⟨t2, v2, p2⟩, ⟨t3, v3, p3⟩, ⟨m, p4⟩, p5⟩ := h
  exact ⟨(var_keeps k g_pow (by omega) (hn _ (by decide))).trans p1, ⟨t2, v2, (var_keeps k g_syn (by omega) (hn _ (by decide))).trans p2⟩, ⟨t3, v3, (var_keeps k g_rng (by omega) (hn _ (by decide))).trans p3⟩, ⟨m, (k.cell (by omega) (hn _ (by decide))).trans p4⟩, Nat.le_trans p5 k.size⟩

theorem Gl.on {w w' : World} (h : Gl w) (k : Keeps NoBlock w w') : Gl w' := h.keeps k (fun _ e => e.elim)

theorem keeps_grow (w : World) (k : Nat) (os : Array Obj) : Keeps NoBlock w (Sort.grow (w.drewN k) os) :=
  ⟨rfl, rfl, rfl, by simp [Sort.grow, World.drewN], fun j hj _ => by
    show (w.heap ++ os)[j]? = _
    rw [Array.getElem?_append_left hj]⟩

abbrev S (l : List UInt8) : Value := .string ⟨l.toArray⟩

theorem trim_calls (s p : ByteArray) (w : World) (hs : s.size ≤ 9223372036854775807) : Calls Tryd.prog 35 #[.string s, .string p] w fun e w' => e = .returned (S (Lib.trimSuffix s.data.toList p.data.toList)) ∧ w = w' :=
  (Any.strings_TrimSuffix trimLay s p w hs).mono (fun _ _ h => ⟨h.1, h.2.symm⟩)

theorem idxByte_calls (s : ByteArray) (c : Int) (w : World) : Calls Tryd.prog 60 #[.string s, .int .u8 c] w fun e w' => e = .returned (.int .i64 (Lib.indexByte s.data.toList c.toNat.toUInt8)) ∧ w = w' :=
  (Any.strings_IndexByte idxByteLay s c w).mono (fun _ _ h => ⟨h.1, h.2.symm⟩)

theorem itoa_calls (n : Int) (h0 : -9223372036854775808 ≤ n) (h1 : n ≤ 9223372036854775807) (w : World) (hg : Gl w) : Calls Tryd.prog 30 #[.int .i64 n] w fun e w' => e = .returned (S (Lib.itoa n)) ∧ Keeps NoBlock w w' := by
  refine (Any.strconv_Itoa itoaLay n h0 h1 w hg.pow).mono ?_
  rintro e w' ⟨rfl, k, os, rfl⟩
  exact ⟨rfl, keeps_grow w k os⟩

theorem cut_len (c : UInt8) (s : ByteArray) : (cutAt c s.data.toList).length = Lib.countB s ⟨#[c]⟩ + 1 := by
  rw [← splitB_cut, List.length_map]
  exact Lib.splitB_all ⟨#[c]⟩ (Nat.le_refl 1) 0 _ s rfl

theorem split_calls (s : ByteArray) (c : UInt8) (w : World) (hg : Gl w) (hs : s.size < 4294967281) :
    Calls Tryd.prog 32 #[.string s, .string ⟨#[c]⟩] w fun e w' => e = .returned (.slice (some ⟨w.heap.size, 0, none⟩) (cutAt c s.data.toList).length (cutAt c s.data.toList).length) ∧ w' = w.alloc (.cells ((cutAt c s.data.toList).map S).toArray 9 (0, 0)) := by
  obtain ⟨m, hm⟩ := hg.mx
  refine (Any.strings_Split { splitLay with } splitLay.i9 s ⟨#[c]⟩ m w hs hm (Nat.le_refl 1)).mono ?_
  rintro e w' ⟨rfl, rfl⟩
  rw [cut_len]
  refine ⟨rfl, ?_⟩
  have e : (Lib.splitB ⟨#[c]⟩ 0 (Lib.countB s ⟨#[c]⟩) s).map Value.string = (cutAt c s.data.toList).map S := by
    rw [← splitB_cut, List.map_map]
    rfl
  rw [e]
  rfl

/-- Atoi: its number, whatever the string; what it says of an error is not asked. -/
theorem atoi_calls (s : ByteArray) (w : World) (hg : Gl w) (hs : s.size ≤ 281474976710656) : Calls Tryd.prog 33 #[.string s] w fun e w' => ∃ v, e = .returned (.tuple #[.int .i64 (atoiVal s.data.toList), v]) ∧ Keeps NoBlock w w' := by
  unfold atoiVal
  cases h : Lib.atoiAll s.data.toList with
  | ok v =>
    refine (Any.strconv_Atoi_ok atoiLay s (by omega) v h w).mono ?_
    rintro e w' ⟨rfl, rfl | ⟨t, rfl⟩⟩
    · exact ⟨_, rfl, Keeps.refl _ _⟩
    · exact ⟨_, rfl, Below.keeps (Lib.bytesWorld_below _ _ _) _⟩
  | range =>
    obtain ⟨tp, p, hv⟩ := hg.rng
    refine (Any.strconv_Atoi_range_var atoiLay s hs h tp p w hv).mono ?_
    rintro e w' ⟨N, rfl, _, _, hb⟩
    exact ⟨_, rfl, Below.keeps hb _⟩
  | _ =>
    obtain ⟨tp, p, hv⟩ := hg.syn
    refine (Any.strconv_Atoi_syntax_var atoiLay s hs h tp p w hv).mono ?_
    rintro e w' ⟨N, rfl, _, _, hb⟩
    exact ⟨_, rfl, Below.keeps hb _⟩

end Tl
end Go.Proofs.YthjefffefomioaaDoor
