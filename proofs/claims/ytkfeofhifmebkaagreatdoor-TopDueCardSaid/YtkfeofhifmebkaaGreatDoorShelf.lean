/- The tops: a verified evaluator of the program (Shelf). -/
import Derived.Shelf.Strings.Builder1
import Derived.Shelf.Strings.Builder2
import Derived.Shelf.Strings.OnBuilder
import Derived.Shelf.Strconv.Itoa0
import Derived.Shelf.Strconv.Itoa1
import Derived.Shelf.LaysM
import Derived.Shelf.Strconv.Itoa2
import Derived.Shelf.Strconv.Itoa3
import Derived.Shelf.Strings.Fields
import Derived.Shelf.Unicode.Latin
import Derived.Test.YtkfeofhifmebkaaGreatDoorProg
/-
  DERIVED: THE SHELF's CONTRACTS AT THIS DUMP, IN PLAIN WORDS (tools/lay-plain.mjs out of 'TryzShelf.lean', which tools/lay-shelf.mjs wrote): THE SAME DECLARATIONS UNDER THE SAME NAMES: 'import', 'namespace', 'open', 'def', 'theorem' AND NOTHING ELSE: no command of the shelf's: FOR A HAND-IN. Each laying: the table of numbers ('.._ren') and one theorem, a field a fact of the dump's own or the kernel's comparison; each contract: ONE APPLICATION.
-/
namespace Go.Proofs
open Go.Shelf
def Tryz.lays156_ren : Go.Shelf.Ren := ⟨fun | 156 => 85 | 165 => 132 | 166 => 133 | 169 => 134 | 240 => 183 | 241 => 184 | 276 => 247 | 277 => 248 | n => n, fun | 31 => 100 | 9 => 9 | 3 => 3 | 4 => 4 | 0 => 0 | 20 => 20 | 72 => 231 | 76 => 235 | 70 => 229 | 37 => 41 | 75 => 234 | 127 => 314 | 164 => 399 | 5 => 5 | 80 => 237 | n => n, fun | n => n⟩
theorem Tryz.lays156 : Go.Proofs.Lays.n156 Tryz.prog Tryz.lays156_ren := {
  mixed := by kernel_rfl
  f156 := Tryz.func85.trans (congrArg some (by kernel_rfl))
  f165 := Tryz.func132.trans (congrArg some (by kernel_rfl))
  f166 := Tryz.func133.trans (congrArg some (by kernel_rfl))
  f169 := Tryz.func134.trans (congrArg some (by kernel_rfl))
  f240 := Tryz.func183.trans (congrArg some (by kernel_rfl))
  f241 := Tryz.func184.trans (congrArg some (by kernel_rfl))
  f276 := Tryz.func247.trans (congrArg some (by kernel_rfl))
  f277 := Tryz.func248.trans (congrArg some (by kernel_rfl))
  t0 := Tryz.underlying0
  a0 := Tryz.isAgg0
  z0 := Tryz.sizeOf0
  v0 := Tryz.zeroValue0
  t3 := Tryz.underlying3
  a3 := Tryz.isAgg3
  z3 := Tryz.sizeOf3
  v3 := Tryz.zeroValue3
  t4 := Tryz.underlying4
  a4 := Tryz.isAgg4
  z4 := Tryz.sizeOf4
  v4 := Tryz.zeroValue4
  t9 := Tryz.underlying9
  a9 := Tryz.isAgg9
  z9 := Tryz.sizeOf9
  v9 := Tryz.zeroValue9
  t20 := Tryz.underlying20
  a20 := Tryz.isAgg20
  z20 := Tryz.sizeOf20
  v20 := Tryz.zeroValue20
  t31 := Tryz.underlying100
  a31 := Tryz.isAgg100
  z31 := Tryz.sizeOf100
  v31 := Tryz.zeroValue100
  t37 := Tryz.underlying41
  a37 := Tryz.isAgg41
  z37 := Tryz.sizeOf41
  v37 := Tryz.zeroValue41
  t70 := Tryz.underlying229
  a70 := Tryz.isAgg229
  z70 := Tryz.sizeOf229
  v70 := Tryz.zeroValue229
  t72 := Tryz.underlying231
  a72 := Tryz.isAgg231
  z72 := Tryz.sizeOf231
  v72 := Tryz.zeroValue231
  t75 := Tryz.underlying234
  a75 := Tryz.isAgg234
  z75 := Tryz.sizeOf234
  v75 := Tryz.zeroValue234
  t76 := Tryz.underlying235
  a76 := Tryz.isAgg235
  z76 := Tryz.sizeOf235
  v76 := Tryz.zeroValue235
  t127 := Tryz.underlying314
  a127 := Tryz.isAgg314
  z127 := Tryz.sizeOf314
  v127 := Tryz.zeroValue314
  t164 := Tryz.underlying399
  a164 := Tryz.isAgg399
  z164 := Tryz.sizeOf399
  v164 := Tryz.zeroValue399 }
theorem Tryz.Builder_Extra_156 : Builder.Extra Tryz.prog Tryz.lays156_ren := {
  sizeBuilder := by kernel_rfl
  liesBuilder := by kernel_rfl
  t5 := Tryz.underlying5
  a5 := Tryz.isAgg5
  z5 := Tryz.sizeOf5
  v5 := Tryz.zeroValue5
  infoByte := by kernel_rfl
  cellsByte := by kernel_rfl
  sizeByte := by kernel_rfl
  neB5 := by decide }
open Go.RowKit in
/-- strings.Join: "Join concatenates the elements of its first argument to create a single string. The separator string sep is placed between elements in the resulting string.": HOWEVER MANY ELEMENTS. Below the heap's end the world is as it was. (LAID: no walk: one application.) -/
theorem Tryz.strings_Join (bk o c : Nat) (xs : List ByteArray) (sep : ByteArray) (w : World) (hcells : ∀ (j : Nat) x, xs[j]? = some x → w.cell? ⟨bk, o + j, none⟩ = some (.string x)) (hbk : bk < w.heap.size) (hN : xs.length ≤ 140737488355328) (hcap : xs.length ≤ c) (hlen : (Lib.join (xs.map (·.data.toList)) sep.data.toList).length ≤ 140737488355328) :
    Calls Tryz.prog 85 #[.slice (some ⟨bk, o, none⟩) xs.length c, .string sep] w fun e w' => e = .returned (.string ⟨(Lib.join (xs.map (·.data.toList)) sep.data.toList).toArray⟩) ∧ Below w.heap.size w w' := Any.strings_Join Tryz.lays156 Tryz.Builder_Extra_156 bk o c xs sep w hcells hbk hN hcap hlen
def Tryz.laysM171_ren : Go.Shelf.Ren := ⟨fun | 171 => 84 | 243 => 131 | 246 => 182 | 283 => 176 | 284 => 177 | 285 => 178 | 286 => 179 | 129 => 242 | 317 => 241 | 318 => 243 | 319 => 244 | 320 => 245 | 337 => 319 | 338 => 124 | n => n, fun | 3 => 3 | 9 => 9 | 2 => 2 | 4 => 4 | 171 => 306 | 0 => 0 | 53 => 25 | 37 => 41 | 5 => 5 | 173 => 308 | 212 => 391 | 51 => 392 | 20 => 20 | 213 => 393 | 46 => 143 | 232 => 549 | 233 => 303 | n => n, fun | 17 => 2 | 18 => 5 | 19 => 0 | n => n⟩
theorem Tryz.laysM171 : Go.Proofs.LaysM.n171 Tryz.prog Tryz.laysM171_ren := {
  mixed := by kernel_rfl
  f129 := Tryz.func242.trans (congrArg some (by kernel_rfl))
  f171 := Tryz.func84.trans (congrArg some (by kernel_rfl))
  f243 := Tryz.func131.trans (congrArg some (by kernel_rfl))
  f246 := Tryz.func182.trans (congrArg some (by kernel_rfl))
  f283 := Tryz.func176.trans (congrArg some (by kernel_rfl))
  f284 := Tryz.func177.trans (congrArg some (by kernel_rfl))
  f285 := Tryz.func178.trans (congrArg some (by kernel_rfl))
  f286 := Tryz.func179.trans (congrArg some (by kernel_rfl))
  f317 := Tryz.func241.trans (congrArg some (by kernel_rfl))
  f318 := Tryz.func243.trans (congrArg some (by kernel_rfl))
  f319 := Tryz.func244.trans (congrArg some (by kernel_rfl))
  f320 := Tryz.func245.trans (congrArg some (by kernel_rfl))
  f337 := Tryz.func319.trans (congrArg some (by kernel_rfl))
  f338 := Tryz.func124.trans (congrArg some (by kernel_rfl))
  t0 := Tryz.underlying0
  a0 := Tryz.isAgg0
  z0 := Tryz.sizeOf0
  v0 := Tryz.zeroValue0
  t2 := Tryz.underlying2
  a2 := Tryz.isAgg2
  z2 := Tryz.sizeOf2
  v2 := Tryz.zeroValue2
  t3 := Tryz.underlying3
  a3 := Tryz.isAgg3
  z3 := Tryz.sizeOf3
  v3 := Tryz.zeroValue3
  t4 := Tryz.underlying4
  a4 := Tryz.isAgg4
  z4 := Tryz.sizeOf4
  v4 := Tryz.zeroValue4
  t5 := Tryz.underlying5
  a5 := Tryz.isAgg5
  z5 := Tryz.sizeOf5
  v5 := Tryz.zeroValue5
  t9 := Tryz.underlying9
  a9 := Tryz.isAgg9
  z9 := Tryz.sizeOf9
  v9 := Tryz.zeroValue9
  t20 := Tryz.underlying20
  a20 := Tryz.isAgg20
  z20 := Tryz.sizeOf20
  v20 := Tryz.zeroValue20
  t37 := Tryz.underlying41
  a37 := Tryz.isAgg41
  z37 := Tryz.sizeOf41
  v37 := Tryz.zeroValue41
  t46 := Tryz.underlying143
  a46 := Tryz.isAgg143
  z46 := Tryz.sizeOf143
  v46 := Tryz.zeroValue143
  t51 := Tryz.underlying392
  a51 := Tryz.isAgg392
  z51 := Tryz.sizeOf392
  v51 := Tryz.zeroValue392
  t53 := Tryz.underlying25
  a53 := Tryz.isAgg25
  z53 := Tryz.sizeOf25
  v53 := Tryz.zeroValue25
  t171 := Tryz.underlying306
  a171 := Tryz.isAgg306
  z171 := Tryz.sizeOf306
  v171 := Tryz.zeroValue306
  t173 := Tryz.underlying308
  a173 := Tryz.isAgg308
  z173 := Tryz.sizeOf308
  v173 := Tryz.zeroValue308
  t212 := Tryz.underlying391
  a212 := Tryz.isAgg391
  z212 := Tryz.sizeOf391
  v212 := Tryz.zeroValue391
  t213 := Tryz.underlying393
  a213 := Tryz.isAgg393
  z213 := Tryz.sizeOf393
  t232 := Tryz.underlying549
  a232 := Tryz.isAgg549
  z232 := Tryz.sizeOf549
  v232 := Tryz.zeroValue549
  t233 := Tryz.underlying303
  a233 := Tryz.isAgg303
  z233 := Tryz.sizeOf303
  v233 := Tryz.zeroValue303
  g17 := by kernel_rfl
  g18 := by kernel_rfl
  g19 := by kernel_rfl
  i0 := by kernel_rfl
  i2 := by kernel_rfl
  i3 := by kernel_rfl
  i4 := by kernel_rfl
  i5 := by kernel_rfl
  i9 := by kernel_rfl
  i20 := by kernel_rfl
  i37 := by kernel_rfl
  i46 := by kernel_rfl
  i51 := by kernel_rfl
  i53 := by kernel_rfl
  i171 := by kernel_rfl
  i173 := by kernel_rfl
  i212 := by kernel_rfl
  i232 := by kernel_rfl
  i233 := by kernel_rfl
  m17 := by kernel_rfl
  m18 := by kernel_rfl
  m19 := by kernel_rfl }
open Go.RowKit Go.Sort Go.Lib in
/-- strconv.Itoa: "Itoa is equivalent to FormatIntint64i 10.": i's DECIMAL NUMERAL ('Lib.itoa': a '-' where i is negative, then the digits), FOR EVERY int. The world behind the call: the world before it, new blocks behind the heap (the library's 'var a [24]byte'), draws. (LAID: no walk: one application.) -/
theorem Tryz.strconv_Itoa (n : Int) (h0 : -9223372036854775808 ≤ n) (h1 : n ≤ 9223372036854775807) (w : World) (htab : Lib.TabIs Tryz.prog w "internal/strconv.uint64pow10" .u64 Lib.pow10Tab) :
    Calls Tryz.prog 84 #[.int .i64 n] w fun e w' => e = .returned (.string ⟨(Lib.itoa n).toArray⟩) ∧ ∃ k os, w' = grow (w.drewN k) os := Any.strconv_Itoa Tryz.laysM171 n h0 h1 w htab
end Go.Proofs
