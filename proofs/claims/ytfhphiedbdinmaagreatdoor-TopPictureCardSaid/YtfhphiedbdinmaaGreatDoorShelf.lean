import Derived.Shelf.Strings.Builder1
import Derived.Shelf.Strings.Builder2
import Derived.Shelf.Strings.OnBuilder
import Derived.Shelf.Small.Bits
import Derived.Shelf.Small.Wraps
import Derived.Shelf.Strings.BuilderF
import Derived.Shelf.Strings.BuilderK
import Derived.Shelf.Strings.Builder2Cap
import Derived.Shelf.Strconv.Itoa0
import Derived.Shelf.Strconv.Itoa1
import Derived.Shelf.LaysM
import Derived.Shelf.Strconv.Itoa2
import Derived.Shelf.Strconv.Itoa3
import Derived.Shelf.Strings.BuilderCap
import Derived.Ground.Names2Prog
import Derived.Shelf.Slices.ReverseS
import Derived.Shelf.Slices.Clone
import Derived.Shelf.Slices.SearchI
import Derived.Shelf.Slices.Cells
import Derived.Ground.SlgnProg
import Derived.Shelf.SlicesE.Reverse
import Derived.Shelf.SlicesE.Clone
import Derived.Ground.SlgfProg
import Derived.Shelf.SlicesE.IndexFunc
import Derived.Test.YtfhphiedbdinmaaGreatDoorProg
set_option linter.all false
namespace Go.Proofs
open Go.Shelf
def Tryz.lays169_ren : Go.Shelf.Ren := ⟨fun | 169 => 122 | n => n, fun | 70 => 232 | 9 => 9 | 0 => 0 | 72 => 235 | 37 => 233 | 127 => 273 | 3 => 3 | 5 => 5 | n => n, fun | n => n⟩
theorem Tryz.lays169 : Go.Proofs.Lays.n169 Tryz.prog Tryz.lays169_ren := {
 mixed := by kernel_rfl
 f169 := Tryz.func122.trans (congrArg some (by kernel_rfl))
 t0 := Tryz.underlying0
 a0 := Tryz.isAgg0
 z0 := Tryz.sizeOf0
 v0 := Tryz.zeroValue0
 t3 := Tryz.underlying3
 a3 := Tryz.isAgg3
 z3 := Tryz.sizeOf3
 v3 := Tryz.zeroValue3
 t9 := Tryz.underlying9
 a9 := Tryz.isAgg9
 z9 := Tryz.sizeOf9
 v9 := Tryz.zeroValue9
 t37 := Tryz.underlying233
 a37 := Tryz.isAgg233
 z37 := Tryz.sizeOf233
 v37 := Tryz.zeroValue233
 t70 := Tryz.underlying232
 a70 := Tryz.isAgg232
 z70 := Tryz.sizeOf232
 v70 := Tryz.zeroValue232
 t72 := Tryz.underlying235
 a72 := Tryz.isAgg235
 z72 := Tryz.sizeOf235
 v72 := Tryz.zeroValue235
 t127 := Tryz.underlying273
 a127 := Tryz.isAgg273
 z127 := Tryz.sizeOf273
 v127 := Tryz.zeroValue273 }
theorem Tryz.Builder_Extra_169 : Builder.Extra Tryz.prog Tryz.lays169_ren := {
 sizeBuilder := by kernel_rfl
 liesBuilder := by kernel_rfl
 t5 := Tryz.underlying5
 a5 := Tryz.isAgg5
 z5 := Tryz.sizeOf5
 v5 := Tryz.zeroValue5
 infoByte := by kernel_rfl
 cellsByte := by kernel_rfl
 sizeByte := by kernel_rfl
 neB5 := by decide }
open Go.RowKit in
/-- (*strings.Builder).String: "String returns the accumulated string.": WHATEVER THE BUILDER HOLDS. (LAID: no walk: one application.) -/
theorem Tryz.Builder_String_any (B b : Nat) (l : List UInt8) (w : World) (h : Lib.IsBuilder 235 5 B b (Lib.byteCells l) w) (hBw : B <= w.heap.size) :
 Calls Tryz.prog 122 #[.pointer (some ⟨b, 0, none⟩)] w fun e w' => e = .returned (.string ⟨l.toArray⟩) /\ Below B w w' := Any.Builder_String_any Tryz.lays169 Tryz.Builder_Extra_169 B b l w h hBw
def Tryz.lays156_ren : Go.Shelf.Ren := ⟨fun | 156 => 94 | 165 => 126 | 166 => 120 | 169 => 122 | 240 => 157 | 241 => 161 | 276 => 195 | 277 => 197 | n => n, fun | 31 => 23 | 9 => 9 | 3 => 3 | 4 => 4 | 0 => 0 | 20 => 20 | 72 => 235 | 76 => 238 | 70 => 232 | 37 => 233 | 75 => 237 | 127 => 273 | 164 => 312 | 5 => 5 | 80 => 193 | n => n, fun | n => n⟩
theorem Tryz.lays156 : Go.Proofs.Lays.n156 Tryz.prog Tryz.lays156_ren := {
 mixed := by kernel_rfl
 f156 := Tryz.func94.trans (congrArg some (by kernel_rfl))
 f165 := Tryz.func126.trans (congrArg some (by kernel_rfl))
 f166 := Tryz.func120.trans (congrArg some (by kernel_rfl))
 f169 := Tryz.func122.trans (congrArg some (by kernel_rfl))
 f240 := Tryz.func157.trans (congrArg some (by kernel_rfl))
 f241 := Tryz.func161.trans (congrArg some (by kernel_rfl))
 f276 := Tryz.func195.trans (congrArg some (by kernel_rfl))
 f277 := Tryz.func197.trans (congrArg some (by kernel_rfl))
 t0 := Tryz.underlying0
 a0 := Tryz.isAgg0
 z0 := Tryz.sizeOf0
 v0 := Tryz.zeroValue0
 t3 := Tryz.underlying3
 a3 := Tryz.isAgg3
 z3 := Tryz.sizeOf3
 v3 := Tryz.zeroValue3
 t4 := Tryz.underlying4
 a4 := Tryz.isAgg4
 z4 := Tryz.sizeOf4
 v4 := Tryz.zeroValue4
 t9 := Tryz.underlying9
 a9 := Tryz.isAgg9
 z9 := Tryz.sizeOf9
 v9 := Tryz.zeroValue9
 t20 := Tryz.underlying20
 a20 := Tryz.isAgg20
 z20 := Tryz.sizeOf20
 v20 := Tryz.zeroValue20
 t31 := Tryz.underlying23
 a31 := Tryz.isAgg23
 z31 := Tryz.sizeOf23
 v31 := Tryz.zeroValue23
 t37 := Tryz.underlying233
 a37 := Tryz.isAgg233
 z37 := Tryz.sizeOf233
 v37 := Tryz.zeroValue233
 t70 := Tryz.underlying232
 a70 := Tryz.isAgg232
 z70 := Tryz.sizeOf232
 v70 := Tryz.zeroValue232
 t72 := Tryz.underlying235
 a72 := Tryz.isAgg235
 z72 := Tryz.sizeOf235
 v72 := Tryz.zeroValue235
 t75 := Tryz.underlying237
 a75 := Tryz.isAgg237
 z75 := Tryz.sizeOf237
 v75 := Tryz.zeroValue237
 t76 := Tryz.underlying238
 a76 := Tryz.isAgg238
 z76 := Tryz.sizeOf238
 v76 := Tryz.zeroValue238
 t127 := Tryz.underlying273
 a127 := Tryz.isAgg273
 z127 := Tryz.sizeOf273
 v127 := Tryz.zeroValue273
 t164 := Tryz.underlying312
 a164 := Tryz.isAgg312
 z164 := Tryz.sizeOf312
 v164 := Tryz.zeroValue312 }
theorem Tryz.Builder_Extra_156 : Builder.Extra Tryz.prog Tryz.lays156_ren := {
 sizeBuilder := by kernel_rfl
 liesBuilder := by kernel_rfl
 t5 := Tryz.underlying5
 a5 := Tryz.isAgg5
 z5 := Tryz.sizeOf5
 v5 := Tryz.zeroValue5
 infoByte := by kernel_rfl
 cellsByte := by kernel_rfl
 sizeByte := by kernel_rfl
 neB5 := by decide }
open Go.RowKit in
/-- No element: the empty string; the world is as it was. (Whatever the slice's address and capacity: a nil slice too.) (LAID: no walk: one application.) -/
theorem Tryz.strings_Join_none (a : Option Addr) (c : Nat) (sep : ByteArray) (w : World) :
 Calls Tryz.prog 94 #[.slice a 0 c, .string sep] w fun e w' => e = .returned (.string ⟨#[]⟩) /\ w' = w := Any.strings_Join_none Tryz.lays156 Tryz.Builder_Extra_156 a c sep w
open Go.RowKit in
/-- strings.Join: "Join concatenates the elements of its first argument to create a single string. The separator string sep is placed between elements in the resulting string.": HOWEVER MANY ELEMENTS. Below the heap's end the world is as it was. (LAID: no walk: one application.) -/
theorem Tryz.strings_Join (bk o c : Nat) (xs : List ByteArray) (sep : ByteArray) (w : World) (hcells : ∀ (j : Nat) x, xs[j]? = some x -> w.cell? ⟨bk, o + j, none⟩ = some (.string x)) (hbk : bk < w.heap.size) (hN : xs.length <= 140737488355328) (hcap : xs.length <= c) (hlen : (Lib.join (xs.map (·.data.toList)) sep.data.toList).length <= 140737488355328) :
 Calls Tryz.prog 94 #[.slice (some ⟨bk, o, none⟩) xs.length c, .string sep] w fun e w' => e = .returned (.string ⟨(Lib.join (xs.map (·.data.toList)) sep.data.toList).toArray⟩) /\ Below w.heap.size w w' := Any.strings_Join Tryz.lays156 Tryz.Builder_Extra_156 bk o c xs sep w hcells hbk hN hcap hlen
open Go.RowKit in
/-- (*strings.Builder).String: "String returns the accumulated string.": WHATEVER THE BUILDER HOLDS; THE FORM '_k': OVER 'Lib.IsBuilderF' (a builder that 'String()' may have read), AND WITH THE FRAME THAT REACHES ABOVE THE BUILDER: 'Lib.OthersKept': every block that is not b and is no row of uint8's stands as it stood: the iterator of a range among them. (LAID: no walk: one application.) -/
theorem Tryz.Builder_String_any_k (B b : Nat) (l : List UInt8) (w : World) (h : Lib.IsBuilderF 235 5 B b (Lib.byteCells l) w) (hBw : B <= w.heap.size) :
 Calls Tryz.prog 122 #[.pointer (some ⟨b, 0, none⟩)] w fun e w' => e = .returned (.string ⟨l.toArray⟩) /\ (Lib.IsBuilderF 235 5 B b (Lib.byteCells l) w' /\ Below B w w' /\ Lib.OthersKept 5 (some b) w w') := Any.Builder_String_any_k Tryz.lays169 Tryz.Builder_Extra_169 B b l w h hBw
def Tryz.laysM246_ren : Go.Shelf.Ren := ⟨fun | 246 => 250 | 283 => 258 | 284 => 259 | 285 => 260 | 286 => 261 | 129 => 249 | 317 => 271 | 318 => 272 | 319 => 273 | 320 => 274 | 337 => 278 | 338 => 279 | n => n, fun | 2 => 2 | 3 => 3 | 9 => 9 | 4 => 4 | 171 => 388 | 0 => 0 | 53 => 378 | 37 => 233 | 5 => 5 | 173 => 390 | 212 => 401 | 51 => 376 | 20 => 20 | 213 => 402 | 46 => 348 | 232 => 406 | 233 => 407 | n => n, fun | 17 => 1 | 18 => 2 | 19 => 3 | n => n⟩
def Tryz.laysM243_ren : Go.Shelf.Ren := ⟨fun | 243 => 235 | 246 => 250 | 283 => 258 | 284 => 259 | 285 => 260 | 286 => 261 | 129 => 249 | 317 => 271 | 318 => 272 | 319 => 273 | 320 => 274 | 337 => 278 | 338 => 279 | n => n, fun | 3 => 3 | 9 => 9 | 2 => 2 | 4 => 4 | 171 => 388 | 0 => 0 | 53 => 378 | 37 => 233 | 5 => 5 | 173 => 390 | 212 => 401 | 51 => 376 | 20 => 20 | 213 => 402 | 46 => 348 | 232 => 406 | 233 => 407 | n => n, fun | 17 => 1 | 18 => 2 | 19 => 3 | n => n⟩
def Tryz.laysM171_ren : Go.Shelf.Ren := ⟨fun | 171 => 222 | 243 => 235 | 246 => 250 | 283 => 258 | 284 => 259 | 285 => 260 | 286 => 261 | 129 => 249 | 317 => 271 | 318 => 272 | 319 => 273 | 320 => 274 | 337 => 278 | 338 => 279 | n => n, fun | 3 => 3 | 9 => 9 | 2 => 2 | 4 => 4 | 171 => 388 | 0 => 0 | 53 => 378 | 37 => 233 | 5 => 5 | 173 => 390 | 212 => 401 | 51 => 376 | 20 => 20 | 213 => 402 | 46 => 348 | 232 => 406 | 233 => 407 | n => n, fun | 17 => 1 | 18 => 2 | 19 => 3 | n => n⟩
theorem Tryz.laysM171 : Go.Proofs.LaysM.n171 Tryz.prog Tryz.laysM171_ren := {
 mixed := by kernel_rfl
 f129 := Tryz.func249.trans (congrArg some (by kernel_rfl))
 f171 := Tryz.func222.trans (congrArg some (by kernel_rfl))
 f243 := Tryz.func235.trans (congrArg some (by kernel_rfl))
 f246 := Tryz.func250.trans (congrArg some (by kernel_rfl))
 f283 := Tryz.func258.trans (congrArg some (by kernel_rfl))
 f284 := Tryz.func259.trans (congrArg some (by kernel_rfl))
 f285 := Tryz.func260.trans (congrArg some (by kernel_rfl))
 f286 := Tryz.func261.trans (congrArg some (by kernel_rfl))
 f317 := Tryz.func271.trans (congrArg some (by kernel_rfl))
 f318 := Tryz.func272.trans (congrArg some (by kernel_rfl))
 f319 := Tryz.func273.trans (congrArg some (by kernel_rfl))
 f320 := Tryz.func274.trans (congrArg some (by kernel_rfl))
 f337 := Tryz.func278.trans (congrArg some (by kernel_rfl))
 f338 := Tryz.func279.trans (congrArg some (by kernel_rfl))
 t0 := Tryz.underlying0
 a0 := Tryz.isAgg0
 z0 := Tryz.sizeOf0
 v0 := Tryz.zeroValue0
 t2 := Tryz.underlying2
 a2 := Tryz.isAgg2
 z2 := Tryz.sizeOf2
 v2 := Tryz.zeroValue2
 t3 := Tryz.underlying3
 a3 := Tryz.isAgg3
 z3 := Tryz.sizeOf3
 v3 := Tryz.zeroValue3
 t4 := Tryz.underlying4
 a4 := Tryz.isAgg4
 z4 := Tryz.sizeOf4
 v4 := Tryz.zeroValue4
 t5 := Tryz.underlying5
 a5 := Tryz.isAgg5
 z5 := Tryz.sizeOf5
 v5 := Tryz.zeroValue5
 t9 := Tryz.underlying9
 a9 := Tryz.isAgg9
 z9 := Tryz.sizeOf9
 v9 := Tryz.zeroValue9
 t20 := Tryz.underlying20
 a20 := Tryz.isAgg20
 z20 := Tryz.sizeOf20
 v20 := Tryz.zeroValue20
 t37 := Tryz.underlying233
 a37 := Tryz.isAgg233
 z37 := Tryz.sizeOf233
 v37 := Tryz.zeroValue233
 t46 := Tryz.underlying348
 a46 := Tryz.isAgg348
 z46 := Tryz.sizeOf348
 v46 := Tryz.zeroValue348
 t51 := Tryz.underlying376
 a51 := Tryz.isAgg376
 z51 := Tryz.sizeOf376
 v51 := Tryz.zeroValue376
 t53 := Tryz.underlying378
 a53 := Tryz.isAgg378
 z53 := Tryz.sizeOf378
 v53 := Tryz.zeroValue378
 t171 := Tryz.underlying388
 a171 := Tryz.isAgg388
 z171 := Tryz.sizeOf388
 v171 := Tryz.zeroValue388
 t173 := Tryz.underlying390
 a173 := Tryz.isAgg390
 z173 := Tryz.sizeOf390
 v173 := Tryz.zeroValue390
 t212 := Tryz.underlying401
 a212 := Tryz.isAgg401
 z212 := Tryz.sizeOf401
 v212 := Tryz.zeroValue401
 t213 := Tryz.underlying402
 a213 := Tryz.isAgg402
 z213 := Tryz.sizeOf402
 t232 := Tryz.underlying406
 a232 := Tryz.isAgg406
 z232 := Tryz.sizeOf406
 v232 := Tryz.zeroValue406
 t233 := Tryz.underlying407
 a233 := Tryz.isAgg407
 z233 := Tryz.sizeOf407
 v233 := Tryz.zeroValue407
 g17 := by kernel_rfl
 g18 := by kernel_rfl
 g19 := by kernel_rfl
 i0 := by kernel_rfl
 i2 := by kernel_rfl
 i3 := by kernel_rfl
 i4 := by kernel_rfl
 i5 := by kernel_rfl
 i9 := by kernel_rfl
 i20 := by kernel_rfl
 i37 := by kernel_rfl
 i46 := by kernel_rfl
 i51 := by kernel_rfl
 i53 := by kernel_rfl
 i171 := by kernel_rfl
 i173 := by kernel_rfl
 i212 := by kernel_rfl
 i232 := by kernel_rfl
 i233 := by kernel_rfl
 m17 := by kernel_rfl
 m18 := by kernel_rfl
 m19 := by kernel_rfl }
open Go.RowKit Go.Sort Go.Lib in
/-- strconv.Itoa: "Itoa is equivalent to FormatInt(int64(i), 10).": i's DECIMAL NUMERAL ('Lib.itoa': a '-' where i is negative, then the digits), FOR EVERY int. The world behind the call: the world before it, new blocks behind the heap (the library's 'var a [24]byte'), draws. (LAID: no walk: one application.) -/
theorem Tryz.strconv_Itoa (n : Int) (h0 : -9223372036854775808 <= n) (h1 : n <= 9223372036854775807) (w : World) (htab : Lib.TabIs Tryz.prog w "internal/strconv.uint64pow10" .u64 Lib.pow10Tab) :
 Calls Tryz.prog 222 #[.int .i64 n] w fun e w' => e = .returned (.string ⟨(Lib.itoa n).toArray⟩) /\ ∃ k os, w' = grow (w.drewN k) os := Any.strconv_Itoa Tryz.laysM171 n h0 h1 w htab
def Tryz.laysNm216_ren : Go.Shelf.Ren := ⟨fun | 16 => 100 | n => n, fun | 24 => 23 | 9 => 9 | 4 => 4 | n => n, fun | n => n⟩
theorem Tryz.laysNm216 : Go.Proofs.Lays2.n16 Tryz.prog Tryz.laysNm216_ren := {
 mixed := by kernel_rfl
 f16 := Tryz.func100.trans (congrArg some (by kernel_rfl))
 t4 := Tryz.underlying4
 a4 := Tryz.isAgg4
 z4 := Tryz.sizeOf4
 v4 := Tryz.zeroValue4
 t9 := Tryz.underlying9
 a9 := Tryz.isAgg9
 z9 := Tryz.sizeOf9
 v9 := Tryz.zeroValue9
 t24 := Tryz.underlying23
 a24 := Tryz.isAgg23
 z24 := Tryz.sizeOf23
 v24 := Tryz.zeroValue23
 i9 := by kernel_rfl }
open Go.RowKit Go.Lib in
/-- slices.Clone at []string: "Clone returns a copy of the slice. The elements are copied using assignment, so this is a shallow clone. The result may have additional unused capacity. The result preserves the nilness of s.": OF A SLICE THAT IS NOT nil IT RETURNS A SLICE THAT IS NOT nil, OF THE SAME ELEMENTS, IN MEMORY OF THE CALL's OWN: in the how-to's words (6f): 'w'.ownsRow B e 1 v' n cells': v' begins at the head of a row among the blocks from B on (B: the heap's size at the call), not frozen, whose first cells are the elements · 'Below B w w'': below B all is as it was. The capacity is whatever the run-time gives. 'zs': what the cells behind the slice's address hold; 'zs.take n': its elements. (LAID: no walk: one application.) -/
theorem Tryz.slices_Clone_string (b off n c : Nat) (zs : List ByteArray) (w : World) (hz : n <= zs.length) (hbig : n * 16 <= 140737488355328) (hc : ∀ j, j < zs.length -> w.cell? ⟨b, off + j, none⟩ = some (.string (zs.getD j ByteArray.empty))) :
 Calls Tryz.prog 100 #[.slice (some ⟨b, off, none⟩) n c] w fun e w' => ∃ v', e = .returned v' /\ w'.ownsRow w.heap.size 9 1 v' n ((zs.take n).map (Value.string)) /\ v' ≠ .slice none 0 0 /\ Below w.heap.size w w' := Any.slices_Clone_string Tryz.laysNm216 b off n c zs w hz hbig hc
open Go.RowKit Go.Lib in
/-- The same at nil: nil comes back; the world is as it was. (LAID: no walk: one application.) -/
theorem Tryz.slices_Clone_string_nil (n c : Nat) (w : World) :
 Calls Tryz.prog 100 #[.slice none n c] w fun e w' => e = .returned (.slice none 0 0) /\ w' = w := Any.slices_Clone_string_nil Tryz.laysNm216 n c w
open Go.RowKit Go.Lib in
/-- The same at a slice of length 0 that is not nil, WHATEVER ITS ADDRESS (no cell is asked for): a slice that is not nil and owns nothing comes back. (LAID: no walk: one application.) -/
theorem Tryz.slices_Clone_string_zero (a : Addr) (c : Nat) (w : World) :
 Calls Tryz.prog 100 #[.slice (some a) 0 c] w fun e w' => ∃ v', e = .returned v' /\ w'.ownsRow w.heap.size 9 1 v' 0 [] /\ v' ≠ .slice none 0 0 /\ Below w.heap.size w w' := Any.slices_Clone_string_zero Tryz.laysNm216 a c w
end Go.Proofs
