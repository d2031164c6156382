/- Texts of this claim, one behind the other: Words, Shelf, LexA, LexN, LexP, LexB, LexCa, LexDa, LexS, LexPa, LexM, LexO, Append, LexQa, LexJa, Tabs, LexCv, RunA, LexK, LexKa, HeldIn, LexL, LexNp, RunB, RunC, RunS, RunW, RunV, RunD, RunReadsW. -/
import Derived.Test.YtnejkfccdnadcaaDoorRows
import Derived.WalkKit
import Derived.WalkSpells
import Derived.WalkLawsBesides
import Derived.Lib.Hide
import Derived.OneCell
import Derived.Deep.Draws
import Derived.Laws.Rows
import Derived.Shelf.Strings.Builder1
import Derived.Shelf.Strings.Builder2
import Derived.Shelf.Strings.OnBuilder
import Derived.Shelf.Strings.Trim
import Derived.Shelf.Small.Utf8
import Derived.Shelf.Small.Strs
import Derived.Shelf.Strings.BuilderF
import Derived.Shelf.Strings.BuilderK
import Derived.Shelf.Utf8.RuneCount
import Derived.Shelf.Strings.Builder2Cap
import Derived.Shelf.Strconv.Itoa0
import Derived.Shelf.Strconv.Itoa1
import Derived.Shelf.LaysM
import Derived.Shelf.Strconv.Itoa2
import Derived.Shelf.Strconv.Itoa3
import Derived.Shelf.Strconv.Itoa4
import Derived.Shelf.Strings.Search1
import Derived.Shelf.Strings.Search2
import Derived.Shelf.Strings.Search3
import Derived.Shelf.Strings.Cut
import Derived.Shelf.Strings.Count
import Derived.Shelf.Strings.Shaped
import Derived.Shelf.Strings.Split
import Derived.Shelf.Strings.SplitShaped
import Derived.Shelf.Unicode.Decode
import Derived.Shelf.Strings.Runes
import Derived.Shelf.Strings.RuneCount
import Derived.Shelf.Strings.IndexAny
import Derived.Shelf.Strings.AsciiSet
import Derived.Shelf.Strings.IndexAnyAll
import Derived.Shelf.Strings.Explode
import Derived.Shelf.Unicode.DecodeSlow
import Derived.Shelf.Unicode.DecodeAny
import Derived.Shelf.Strings.BuilderCap
import Derived.Shelf.Strings.SlTrimAscii
import Derived.Test.YtnejkfccdnadcaaDoorProg
import Derived.Lib.SpaceUEq
import Derived.Lib.OthersKept
import Derived.Lib.TrimU
import Derived.Lib.TrimUEq
import Derived.Lib.MapLaws
import Derived.Lib.QuoteLoop
import Derived.Deep.LoopGhost
import Derived.Deep.QuietTactic
import Derived.BigQuiet
import Derived.RangeFuncNested
import Derived.RangeFuncBound
import Derived.RangeFuncCalls
import Derived.RangeFuncLeaves
import Derived.RangeFuncBox
import Derived.Shelf.Abstract
import Derived.Shelf.RegionOpen
import Derived.OwnWalkIn
import Derived.TacticsInMore
import Derived.LoopNIn
import Derived.LoopIn
import Derived.Sort.CutIn
import Derived.Maps.AppendAt
import Derived.Lib.AppendIntMem
import Derived.OwnWalk
import Derived.Lib.ItoaNum
import Derived.Laws.AppendOwnNone
import Derived.WalkSmall
import Derived.Laws.IdiomStrings
import Derived.Deep.AppendLies
import Derived.Laws.OwnMore
import Derived.OrdersHeld
import Derived.OrdersIn
import Derived.Deep.RegionHeld
import Derived.Orders
import Derived.Below
import Derived.Lib.Builder
import Derived.Lib.AppendStr

section
namespace Go.Proofs.YtnejkfccdnadcaaDoor
open Go.RowKit

/-- Block b is the one cell v, of type t, not frozen. -/
def At (w : World) (b : Nat) (v : Value) (t : TypeId) : Prop := w.heap[b]? = some (.cells #[v] t (0, 0))

section
variable {w w' : World} {b : Nat} {v : Value} {t : TypeId}
theorem At.cell (h : At w b v t) : w.cell? ⟨b, 0, none⟩ = some v := cell_of_one h
theorem At.free (h : At w b v t) : w.frozen? ⟨b, 0, none⟩ = false := free_of_one h
theorem At.lt (h : At w b v t) : b < w.heap.size := lt_of_block h
theorem At.new (w : World) (v : Value) (t : TypeId) : At (w.alloc (.cells #[v] t)) w.heap.size v t := heap_alloc_new w _
theorem At.alloc (h : At w b v t) (o : Obj) : At (w.alloc o) b v t := (Below.heap_alloc w o b h.lt).trans h
theorem At.set (h : At w b v t) (u : Value) : At (w.setCell ⟨b, 0, none⟩ u) b u t := one_setCell h
theorem At.below {B : Nat} (h : At w b v t) (hb : Below B w w') (hB : b < B) : At w' b v t := (hb.block b hB).trans h
theorem At.drew (h : At w b v t) : At w.drew b v t := h
theorem At.drewN (h : At w b v t) (n : Nat) : At (w.drewN n) b v t := h
theorem At.grown {row : Option Nat} (h : At w b v t) (hg : w.grownBy w' row) (hr : some b ≠ row) : At w' b v t := (hg.block b h.lt hr).trans h
end

theorem below_drewN {B : Nat} {a w : World} (h : Below B a w) (n : Nat) : Below B a (w.drewN n) := ⟨h.os, h.tape, h.output, h.size, h.block⟩
end Go.Proofs.YtnejkfccdnadcaaDoor
end

section
namespace Go.Proofs
open Go.Shelf
def Tryd.lays169_ren : Go.Shelf.Ren := ⟨fun | 169 => 21 | n => n, fun | 70 => 60 | 9 => 9 | 0 => 0 | 72 => 63 | 37 => 61 | 127 => 91 | 3 => 3 | 5 => 5 | n => n, fun | n => n⟩
theorem Tryd.lays169 : Go.Proofs.Lays.n169 Tryd.prog Tryd.lays169_ren := {
  mixed := by kernel_rfl
  f169 := Tryd.func21.trans (congrArg some (by kernel_rfl))
  t0 := Tryd.underlying0
  a0 := Tryd.isAgg0
  z0 := Tryd.sizeOf0
  v0 := Tryd.zeroValue0
  t3 := Tryd.underlying3
  a3 := Tryd.isAgg3
  z3 := Tryd.sizeOf3
  v3 := Tryd.zeroValue3
  t9 := Tryd.underlying9
  a9 := Tryd.isAgg9
  z9 := Tryd.sizeOf9
  v9 := Tryd.zeroValue9
  t37 := Tryd.underlying61
  a37 := Tryd.isAgg61
  z37 := Tryd.sizeOf61
  v37 := Tryd.zeroValue61
  t70 := Tryd.underlying60
  a70 := Tryd.isAgg60
  z70 := Tryd.sizeOf60
  v70 := Tryd.zeroValue60
  t72 := Tryd.underlying63
  a72 := Tryd.isAgg63
  z72 := Tryd.sizeOf63
  v72 := Tryd.zeroValue63
  t127 := Tryd.underlying91
  a127 := Tryd.isAgg91
  z127 := Tryd.sizeOf91
  v127 := Tryd.zeroValue91 }
theorem Tryd.Builder_Extra_169 : Builder.Extra Tryd.prog Tryd.lays169_ren := {
  sizeBuilder := by kernel_rfl
  liesBuilder := by kernel_rfl
  t5 := Tryd.underlying5
  a5 := Tryd.isAgg5
  z5 := Tryd.sizeOf5
  v5 := Tryd.zeroValue5
  infoByte := by kernel_rfl
  cellsByte := by kernel_rfl
  sizeByte := by kernel_rfl
  neB5 := by decide }
open Go.RowKit in
/-- (*strings.Builder).String: "String returns the accumulated string.": WHATEVER THE BUILDER HOLDS. (LAID: no walk: one application.) -/
theorem Tryd.Builder_String_any (B b : Nat) (l : List UInt8) (w : World) (h : Lib.IsBuilder 63 5 B b (Lib.byteCells l) w) (hBw : B ≤ w.heap.size) :
    Calls Tryd.prog 21 #[.pointer (some ⟨b, 0, none⟩)] w fun e w' => e = .returned (.string ⟨l.toArray⟩) ∧ Below B w w' := Any.Builder_String_any Tryd.lays169 Tryd.Builder_Extra_169 B b l w h hBw
def Tryd.lays156_ren : Go.Shelf.Ren := ⟨fun | 156 => 33 | 165 => 40 | 166 => 19 | 169 => 21 | 240 => 31 | 241 => 47 | 276 => 38 | 277 => 61 | n => n, fun | 31 => 89 | 9 => 9 | 3 => 3 | 4 => 4 | 0 => 0 | 20 => 20 | 72 => 63 | 76 => 67 | 70 => 60 | 37 => 61 | 75 => 66 | 127 => 91 | 164 => 103 | 5 => 5 | 80 => 70 | n => n, fun | n => n⟩
theorem Tryd.lays156 : Go.Proofs.Lays.n156 Tryd.prog Tryd.lays156_ren := {
  mixed := by kernel_rfl
  f156 := Tryd.func33.trans (congrArg some (by kernel_rfl))
  f165 := Tryd.func40.trans (congrArg some (by kernel_rfl))
  f166 := Tryd.func19.trans (congrArg some (by kernel_rfl))
  f169 := Tryd.func21.trans (congrArg some (by kernel_rfl))
  f240 := Tryd.func31.trans (congrArg some (by kernel_rfl))
  f241 := Tryd.func47.trans (congrArg some (by kernel_rfl))
  f276 := Tryd.func38.trans (congrArg some (by kernel_rfl))
  f277 := Tryd.func61.trans (congrArg some (by kernel_rfl))
  t0 := Tryd.underlying0
  a0 := Tryd.isAgg0
  z0 := Tryd.sizeOf0
  v0 := Tryd.zeroValue0
  t3 := Tryd.underlying3
  a3 := Tryd.isAgg3
  z3 := Tryd.sizeOf3
  v3 := Tryd.zeroValue3
  t4 := Tryd.underlying4
  a4 := Tryd.isAgg4
  z4 := Tryd.sizeOf4
  v4 := Tryd.zeroValue4
  t9 := Tryd.underlying9
  a9 := Tryd.isAgg9
  z9 := Tryd.sizeOf9
  v9 := Tryd.zeroValue9
  t20 := Tryd.underlying20
  a20 := Tryd.isAgg20
  z20 := Tryd.sizeOf20
  v20 := Tryd.zeroValue20
  t31 := Tryd.underlying89
  a31 := Tryd.isAgg89
  z31 := Tryd.sizeOf89
  v31 := Tryd.zeroValue89
  t37 := Tryd.underlying61
  a37 := Tryd.isAgg61
  z37 := Tryd.sizeOf61
  v37 := Tryd.zeroValue61
  t70 := Tryd.underlying60
  a70 := Tryd.isAgg60
  z70 := Tryd.sizeOf60
  v70 := Tryd.zeroValue60
  t72 := Tryd.underlying63
  a72 := Tryd.isAgg63
  z72 := Tryd.sizeOf63
  v72 := Tryd.zeroValue63
  t75 := Tryd.underlying66
  a75 := Tryd.isAgg66
  z75 := Tryd.sizeOf66
  v75 := Tryd.zeroValue66
  t76 := Tryd.underlying67
  a76 := Tryd.isAgg67
  z76 := Tryd.sizeOf67
  v76 := Tryd.zeroValue67
  t127 := Tryd.underlying91
  a127 := Tryd.isAgg91
  z127 := Tryd.sizeOf91
  v127 := Tryd.zeroValue91
  t164 := Tryd.underlying103
  a164 := Tryd.isAgg103
  z164 := Tryd.sizeOf103
  v164 := Tryd.zeroValue103 }
theorem Tryd.Builder_Extra_156 : Builder.Extra Tryd.prog Tryd.lays156_ren := {
  sizeBuilder := by kernel_rfl
  liesBuilder := by kernel_rfl
  t5 := Tryd.underlying5
  a5 := Tryd.isAgg5
  z5 := Tryd.sizeOf5
  v5 := Tryd.zeroValue5
  infoByte := by kernel_rfl
  cellsByte := by kernel_rfl
  sizeByte := by kernel_rfl
  neB5 := by decide }
open Go.RowKit in
/-- strings.Join: "Join concatenates the elements of its first argument to create a single string. The separator string sep is placed between elements in the resulting string.": HOWEVER MANY ELEMENTS. Below the heap's end the world is as_ it was. (LAID: no walk: one application.) -/
theorem Tryd.strings_Join (bk o c : Nat) (xs : List ByteArray) (sep : ByteArray) (w : World) (hcells : ∀ (j : Nat) x, xs[j]? = some x → w.cell? ⟨bk, o + j, none⟩ = some (.string x)) (hbk : bk < w.heap.size) (hN : xs.length ≤ 140737488355328) (hcap : xs.length ≤ c) (hlen : (Lib.join (xs.map (·.data.toList)) sep.data.toList).length ≤ 140737488355328) :
    Calls Tryd.prog 33 #[.slice (some ⟨bk, o, none⟩) xs.length c, .string sep] w fun e w' => e = .returned (.string ⟨(Lib.join (xs.map (·.data.toList)) sep.data.toList).toArray⟩) ∧ Below w.heap.size w w' := Any.strings_Join Tryd.lays156 Tryd.Builder_Extra_156 bk o c xs sep w hcells hbk hN hcap hlen
def Tryd.lays161_ren : Go.Shelf.Ren := ⟨fun | 161 => 44 | 231 => 50 | 227 => 51 | 233 => 52 | 235 => 53 | 228 => 56 | 197 => 66 | 151 => 67 | 260 => 81 | 152 => 54 | 137 => 68 | 119 => 69 | 224 => 70 | 225 => 71 | 217 => 79 | 266 => 84 | n => n, fun | 9 => 9 | 4 => 4 | 3 => 3 | 5 => 5 | 117 => 117 | 116 => 116 | 0 => 0 | 124 => 120 | 105 => 132 | 21 => 21 | 119 => 147 | 46 => 102 | 139 => 150 | 138 => 149 | n => n, fun | 3 => 2 | 4 => 3 | n => n⟩
theorem Tryd.lays161 : Go.Proofs.Lays.n161 Tryd.prog Tryd.lays161_ren := {
  mixed := by kernel_rfl
  f119 := Tryd.func69.trans (congrArg some (by kernel_rfl))
  f137 := Tryd.func68.trans (congrArg some (by kernel_rfl))
  f151 := Tryd.func67.trans (congrArg some (by kernel_rfl))
  f152 := Tryd.func54.trans (congrArg some (by kernel_rfl))
  f161 := Tryd.func44.trans (congrArg some (by kernel_rfl))
  f197 := Tryd.func66.trans (congrArg some (by kernel_rfl))
  f217 := Tryd.func79.trans (congrArg some (by kernel_rfl))
  f224 := Tryd.func70.trans (congrArg some (by kernel_rfl))
  f225 := Tryd.func71.trans (congrArg some (by kernel_rfl))
  f227 := Tryd.func51.trans (congrArg some (by kernel_rfl))
  f228 := Tryd.func56.trans (congrArg some (by kernel_rfl))
  f231 := Tryd.func50.trans (congrArg some (by kernel_rfl))
  f233 := Tryd.func52.trans (congrArg some (by kernel_rfl))
  f235 := Tryd.func53.trans (congrArg some (by kernel_rfl))
  f260 := Tryd.func81.trans (congrArg some (by kernel_rfl))
  f266 := Tryd.func84.trans (congrArg some (by kernel_rfl))
  t0 := Tryd.underlying0
  a0 := Tryd.isAgg0
  z0 := Tryd.sizeOf0
  v0 := Tryd.zeroValue0
  t3 := Tryd.underlying3
  a3 := Tryd.isAgg3
  z3 := Tryd.sizeOf3
  v3 := Tryd.zeroValue3
  t4 := Tryd.underlying4
  a4 := Tryd.isAgg4
  z4 := Tryd.sizeOf4
  v4 := Tryd.zeroValue4
  t5 := Tryd.underlying5
  a5 := Tryd.isAgg5
  z5 := Tryd.sizeOf5
  v5 := Tryd.zeroValue5
  t9 := Tryd.underlying9
  a9 := Tryd.isAgg9
  z9 := Tryd.sizeOf9
  v9 := Tryd.zeroValue9
  t21 := Tryd.underlying21
  a21 := Tryd.isAgg21
  z21 := Tryd.sizeOf21
  v21 := Tryd.zeroValue21
  t46 := Tryd.underlying102
  a46 := Tryd.isAgg102
  z46 := Tryd.sizeOf102
  v46 := Tryd.zeroValue102
  t105 := Tryd.underlying132
  a105 := Tryd.isAgg132
  z105 := Tryd.sizeOf132
  v105 := Tryd.zeroValue132
  t116 := Tryd.underlying116
  a116 := Tryd.isAgg116
  z116 := Tryd.sizeOf116
  t117 := Tryd.underlying117
  a117 := Tryd.isAgg117
  z117 := Tryd.sizeOf117
  v117 := Tryd.zeroValue117
  t119 := Tryd.underlying147
  a119 := Tryd.isAgg147
  z119 := Tryd.sizeOf147
  t124 := Tryd.underlying120
  a124 := Tryd.isAgg120
  z124 := Tryd.sizeOf120
  v124 := Tryd.zeroValue120
  t138 := Tryd.underlying149
  a138 := Tryd.isAgg149
  z138 := Tryd.sizeOf149
  v138 := Tryd.zeroValue149
  t139 := Tryd.underlying150
  a139 := Tryd.isAgg150
  z139 := Tryd.sizeOf150
  v139 := Tryd.zeroValue150
  g3 := by kernel_rfl
  g4 := by kernel_rfl }
def Tryd.lays119_ren : Go.Shelf.Ren := ⟨fun | 119 => 69 | n => n, fun | 21 => 21 | 4 => 4 | n => n, fun | n => n⟩
theorem Tryd.lays119 : Go.Proofs.Lays.n119 Tryd.prog Tryd.lays119_ren := {
  mixed := by kernel_rfl
  f119 := Tryd.func69.trans (congrArg some (by kernel_rfl))
  t4 := Tryd.underlying4
  a4 := Tryd.isAgg4
  z4 := Tryd.sizeOf4
  v4 := Tryd.zeroValue4
  t21 := Tryd.underlying21
  a21 := Tryd.isAgg21
  z21 := Tryd.sizeOf21
  v21 := Tryd.zeroValue21 }
/-- utf8.ValidRune: "ValidRune reports whether r can be legally encoded as_ UTF-8. Code points that are out of range or a surrogate half are illegal.": IT RETURNS 'Lib.validRune r'; the world is as_ it was. (LAID: no walk: one application.) -/
theorem Tryd.utf8_ValidRune (r : Int) (w : World) :
    Calls Tryd.prog 69 #[.int .i32 r] w fun e w' => e = .returned (.bool (Lib.validRune r)) ∧ w' = w := Any.utf8_ValidRune Tryd.lays119 r w
def Tryd.lays137_ren : Go.Shelf.Ren := ⟨fun | 137 => 68 | 217 => 79 | 266 => 84 | n => n, fun | 9 => 9 | 5 => 5 | 3 => 3 | n => n, fun | n => n⟩
theorem Tryd.lays137 : Go.Proofs.Lays.n137 Tryd.prog Tryd.lays137_ren := {
  mixed := by kernel_rfl
  f137 := Tryd.func68.trans (congrArg some (by kernel_rfl))
  f217 := Tryd.func79.trans (congrArg some (by kernel_rfl))
  f266 := Tryd.func84.trans (congrArg some (by kernel_rfl))
  t3 := Tryd.underlying3
  a3 := Tryd.isAgg3
  z3 := Tryd.sizeOf3
  v3 := Tryd.zeroValue3
  t5 := Tryd.underlying5
  a5 := Tryd.isAgg5
  z5 := Tryd.sizeOf5
  v5 := Tryd.zeroValue5
  t9 := Tryd.underlying9
  a9 := Tryd.isAgg9
  z9 := Tryd.sizeOf9
  v9 := Tryd.zeroValue9 }
open Go.RowKit in
/-- strings.IndexByte: "IndexByte returns the index of the first instance of c in s, or -1 if c is not present in s.": IT RETURNS 'Lib.indexByte s c'; the world is as_ it was. (LAID: no walk: one application.) -/
theorem Tryd.strings_IndexByte (s : ByteArray) (c : Int) (w : World) :
    Calls Tryd.prog 68 #[.string s, .int .u8 c] w fun e w' => e = .returned (.int .i64 (Lib.indexByte s.data.toList c.toNat.toUInt8)) ∧ w' = w := Any.strings_IndexByte Tryd.lays137 s c w
def Tryd.laysM173_ren : Go.Shelf.Ren := ⟨fun | 173 => 39 | 246 => 46 | 283 => 57 | 284 => 58 | 285 => 59 | 286 => 60 | 129 => 73 | 317 => 72 | 318 => 74 | 319 => 75 | 320 => 76 | 337 => 82 | 338 => 83 | n => n, fun | 2 => 2 | 3 => 3 | 9 => 9 | 4 => 4 | 171 => 125 | 0 => 0 | 53 => 100 | 37 => 61 | 5 => 5 | 173 => 128 | 212 => 139 | 51 => 140 | 20 => 20 | 213 => 141 | 46 => 102 | 232 => 151 | 233 => 152 | n => n, fun | 17 => 0 | 18 => 4 | 19 => 5 | n => n⟩
theorem Tryd.laysM173 : Go.Proofs.LaysM.n173 Tryd.prog Tryd.laysM173_ren := {
  mixed := by kernel_rfl
  f129 := Tryd.func73.trans (congrArg some (by kernel_rfl))
  f173 := Tryd.func39.trans (congrArg some (by kernel_rfl))
  f246 := Tryd.func46.trans (congrArg some (by kernel_rfl))
  f283 := Tryd.func57.trans (congrArg some (by kernel_rfl))
  f284 := Tryd.func58.trans (congrArg some (by kernel_rfl))
  f285 := Tryd.func59.trans (congrArg some (by kernel_rfl))
  f286 := Tryd.func60.trans (congrArg some (by kernel_rfl))
  f317 := Tryd.func72.trans (congrArg some (by kernel_rfl))
  f318 := Tryd.func74.trans (congrArg some (by kernel_rfl))
  f319 := Tryd.func75.trans (congrArg some (by kernel_rfl))
  f320 := Tryd.func76.trans (congrArg some (by kernel_rfl))
  f337 := Tryd.func82.trans (congrArg some (by kernel_rfl))
  f338 := Tryd.func83.trans (congrArg some (by kernel_rfl))
  t0 := Tryd.underlying0
  a0 := Tryd.isAgg0
  z0 := Tryd.sizeOf0
  v0 := Tryd.zeroValue0
  t2 := Tryd.underlying2
  a2 := Tryd.isAgg2
  z2 := Tryd.sizeOf2
  v2 := Tryd.zeroValue2
  t3 := Tryd.underlying3
  a3 := Tryd.isAgg3
  z3 := Tryd.sizeOf3
  v3 := Tryd.zeroValue3
  t4 := Tryd.underlying4
  a4 := Tryd.isAgg4
  z4 := Tryd.sizeOf4
  v4 := Tryd.zeroValue4
  t5 := Tryd.underlying5
  a5 := Tryd.isAgg5
  z5 := Tryd.sizeOf5
  v5 := Tryd.zeroValue5
  t9 := Tryd.underlying9
  a9 := Tryd.isAgg9
  z9 := Tryd.sizeOf9
  v9 := Tryd.zeroValue9
  t20 := Tryd.underlying20
  a20 := Tryd.isAgg20
  z20 := Tryd.sizeOf20
  v20 := Tryd.zeroValue20
  t37 := Tryd.underlying61
  a37 := Tryd.isAgg61
  z37 := Tryd.sizeOf61
  v37 := Tryd.zeroValue61
  t46 := Tryd.underlying102
  a46 := Tryd.isAgg102
  z46 := Tryd.sizeOf102
  v46 := Tryd.zeroValue102
  t51 := Tryd.underlying140
  a51 := Tryd.isAgg140
  z51 := Tryd.sizeOf140
  v51 := Tryd.zeroValue140
  t53 := Tryd.underlying100
  a53 := Tryd.isAgg100
  z53 := Tryd.sizeOf100
  v53 := Tryd.zeroValue100
  t171 := Tryd.underlying125
  a171 := Tryd.isAgg125
  z171 := Tryd.sizeOf125
  v171 := Tryd.zeroValue125
  t173 := Tryd.underlying128
  a173 := Tryd.isAgg128
  z173 := Tryd.sizeOf128
  v173 := Tryd.zeroValue128
  t212 := Tryd.underlying139
  a212 := Tryd.isAgg139
  z212 := Tryd.sizeOf139
  v212 := Tryd.zeroValue139
  t213 := Tryd.underlying141
  a213 := Tryd.isAgg141
  z213 := Tryd.sizeOf141
  t232 := Tryd.underlying151
  a232 := Tryd.isAgg151
  z232 := Tryd.sizeOf151
  v232 := Tryd.zeroValue151
  t233 := Tryd.underlying152
  a233 := Tryd.isAgg152
  z233 := Tryd.sizeOf152
  v233 := Tryd.zeroValue152
  g17 := by kernel_rfl
  g18 := by kernel_rfl
  g19 := by kernel_rfl
  i0 := by kernel_rfl
  i2 := by kernel_rfl
  i3 := by kernel_rfl
  i4 := by kernel_rfl
  i5 := by kernel_rfl
  i9 := by kernel_rfl
  i20 := by kernel_rfl
  i37 := by kernel_rfl
  i46 := by kernel_rfl
  i51 := by kernel_rfl
  i53 := by kernel_rfl
  i171 := by kernel_rfl
  i173 := by kernel_rfl
  i212 := by kernel_rfl
  i232 := by kernel_rfl
  i233 := by kernel_rfl
  m17 := by kernel_rfl
  m18 := by kernel_rfl
  m19 := by kernel_rfl }
open Go.RowKit Go.Sort Go.Lib in
/-- strconv.FormatInt: "FormatInt returns the string representation of i in the given base": AT BASE 10: i's decimal numeral, for every int64. (LAID: no walk: one application.) -/
theorem Tryd.strconv_FormatInt_10 (n : Int) (h0 : -9223372036854775808 ≤ n) (h1 : n ≤ 9223372036854775807) (w : World) (htab : Lib.TabIs Tryd.prog w "internal/strconv.uint64pow10" .u64 Lib.pow10Tab) :
    Calls Tryd.prog 39 #[.int .i64 n, .int .i64 10] w fun e w' => e = .returned (.string ⟨(Lib.itoa n).toArray⟩) ∧ ∃ k os, w' = grow (w.drewN k) os := Any.strconv_FormatInt_10 Tryd.laysM173 n h0 h1 w htab
def Tryd.lays145_ren : Go.Shelf.Ren := ⟨fun | 145 => 43 | 220 => 49 | 219 => 65 | 217 => 79 | 225 => 71 | 224 => 70 | 267 => 80 | 266 => 84 | 314 => 85 | n => n, fun | 9 => 9 | 4 => 4 | 59 => 109 | 3 => 3 | 5 => 5 | 46 => 102 | 146 => 145 | 51 => 140 | n => n, fun | 1 => 1 | n => n⟩
theorem Tryd.lays145 : Go.Proofs.Lays.n145 Tryd.prog Tryd.lays145_ren := {
  mixed := by kernel_rfl
  f145 := Tryd.func43.trans (congrArg some (by kernel_rfl))
  f217 := Tryd.func79.trans (congrArg some (by kernel_rfl))
  f219 := Tryd.func65.trans (congrArg some (by kernel_rfl))
  f220 := Tryd.func49.trans (congrArg some (by kernel_rfl))
  f224 := Tryd.func70.trans (congrArg some (by kernel_rfl))
  f225 := Tryd.func71.trans (congrArg some (by kernel_rfl))
  f266 := Tryd.func84.trans (congrArg some (by kernel_rfl))
  f267 := Tryd.func80.trans (congrArg some (by kernel_rfl))
  f314 := Tryd.func85.trans (congrArg some (by kernel_rfl))
  t3 := Tryd.underlying3
  a3 := Tryd.isAgg3
  z3 := Tryd.sizeOf3
  v3 := Tryd.zeroValue3
  t4 := Tryd.underlying4
  a4 := Tryd.isAgg4
  z4 := Tryd.sizeOf4
  v4 := Tryd.zeroValue4
  t5 := Tryd.underlying5
  a5 := Tryd.isAgg5
  z5 := Tryd.sizeOf5
  v5 := Tryd.zeroValue5
  t9 := Tryd.underlying9
  a9 := Tryd.isAgg9
  z9 := Tryd.sizeOf9
  v9 := Tryd.zeroValue9
  t46 := Tryd.underlying102
  a46 := Tryd.isAgg102
  z46 := Tryd.sizeOf102
  v46 := Tryd.zeroValue102
  t51 := Tryd.underlying140
  a51 := Tryd.isAgg140
  z51 := Tryd.sizeOf140
  v51 := Tryd.zeroValue140
  t59 := Tryd.underlying109
  a59 := Tryd.isAgg109
  z59 := Tryd.sizeOf109
  v59 := Tryd.zeroValue109
  t146 := Tryd.underlying145
  a146 := Tryd.isAgg145
  z146 := Tryd.sizeOf145
  v146 := Tryd.zeroValue145
  g1 := by kernel_rfl }
open Go.RowKit Go.Lib in
/-- strings.Cut: "Cut slices s around the first instance of sep, returning the text before and after sep. The found result reports whether sep appears in s. If sep does not appear in s, cut returns s, "", false.": IT RETURNS 'Lib.cut s sep'; the world is as_ it was but for the count of draws. (LAID: no walk: one application.) -/
theorem Tryd.strings_Cut (s sep : ByteArray) (m : Int) (w : World) (hs : s.size < 4294967281) (hm : w.cell? ⟨1, 0, none⟩ = some (.int .i64 m)) :
    Calls Tryd.prog 43 #[.string s, .string sep] w fun e w' => e = .returned (.tuple #[.string ⟨(Lib.cut s.data.toList sep.data.toList).1.toArray⟩, .string ⟨(Lib.cut s.data.toList sep.data.toList).2.1.toArray⟩, .bool (Lib.cut s.data.toList sep.data.toList).2.2]) ∧ ∃ n, w' = w.drewN n := Any.strings_Cut Tryd.lays145 s sep m w hs hm
def Tryd.laysM143_ren : Go.Shelf.Ren := ⟨fun | 143 => 64 | 219 => 65 | 217 => 79 | 225 => 71 | 224 => 70 | 267 => 80 | 266 => 84 | 314 => 85 | n => n, fun | 9 => 9 | 3 => 3 | 4 => 4 | 5 => 5 | 46 => 102 | 146 => 145 | 51 => 140 | n => n, fun | 1 => 1 | n => n⟩
theorem Tryd.laysM143 : Go.Proofs.LaysM.n143 Tryd.prog Tryd.laysM143_ren := {
  mixed := by kernel_rfl
  f143 := Tryd.func64.trans (congrArg some (by kernel_rfl))
  f217 := Tryd.func79.trans (congrArg some (by kernel_rfl))
  f219 := Tryd.func65.trans (congrArg some (by kernel_rfl))
  f224 := Tryd.func70.trans (congrArg some (by kernel_rfl))
  f225 := Tryd.func71.trans (congrArg some (by kernel_rfl))
  f266 := Tryd.func84.trans (congrArg some (by kernel_rfl))
  f267 := Tryd.func80.trans (congrArg some (by kernel_rfl))
  f314 := Tryd.func85.trans (congrArg some (by kernel_rfl))
  t3 := Tryd.underlying3
  a3 := Tryd.isAgg3
  z3 := Tryd.sizeOf3
  v3 := Tryd.zeroValue3
  t4 := Tryd.underlying4
  a4 := Tryd.isAgg4
  z4 := Tryd.sizeOf4
  v4 := Tryd.zeroValue4
  t5 := Tryd.underlying5
  a5 := Tryd.isAgg5
  z5 := Tryd.sizeOf5
  v5 := Tryd.zeroValue5
  t9 := Tryd.underlying9
  a9 := Tryd.isAgg9
  z9 := Tryd.sizeOf9
  v9 := Tryd.zeroValue9
  t46 := Tryd.underlying102
  a46 := Tryd.isAgg102
  z46 := Tryd.sizeOf102
  v46 := Tryd.zeroValue102
  t51 := Tryd.underlying140
  a51 := Tryd.isAgg140
  z51 := Tryd.sizeOf140
  v51 := Tryd.zeroValue140
  t146 := Tryd.underlying145
  a146 := Tryd.isAgg145
  z146 := Tryd.sizeOf145
  v146 := Tryd.zeroValue145
  g1 := by kernel_rfl
  i3 := by kernel_rfl
  i4 := by kernel_rfl
  i5 := by kernel_rfl
  i9 := by kernel_rfl
  i46 := by kernel_rfl
  i51 := by kernel_rfl
  i146 := by kernel_rfl
  m1 := by kernel_rfl
  s1_3 := fun w h => Go.Proofs.cell_of_shapedOpen_int (zero := #[.int .i64 0]) (t := 3) h (of_decide_eq_true (by kernel_rfl)) (by kernel_rfl) rfl (by kernel_rfl) (by kernel_rfl) Tryd.underlying3 }
def Tryd.lays146_ren : Go.Shelf.Ren := ⟨fun | 146 => 42 | 221 => 48 | 268 => 62 | 138 => 63 | 143 => 64 | 195 => 77 | 197 => 66 | 218 => 78 | 219 => 65 | 260 => 81 | 217 => 79 | 225 => 71 | 224 => 70 | 267 => 80 | 266 => 84 | 314 => 85 | n => n, fun | 9 => 9 | 31 => 89 | 3 => 3 | 4 => 4 | 0 => 0 | 105 => 132 | 21 => 21 | 5 => 5 | 46 => 102 | 119 => 147 | 139 => 150 | 138 => 149 | 146 => 145 | 51 => 140 | n => n, fun | 1 => 1 | 3 => 2 | 4 => 3 | n => n⟩
theorem Tryd.lays146 : Go.Proofs.Lays.n146 Tryd.prog Tryd.lays146_ren := {
  mixed := by kernel_rfl
  f138 := Tryd.func63.trans (congrArg some (by kernel_rfl))
  f143 := Tryd.func64.trans (congrArg some (by kernel_rfl))
  f146 := Tryd.func42.trans (congrArg some (by kernel_rfl))
  f195 := Tryd.func77.trans (congrArg some (by kernel_rfl))
  f197 := Tryd.func66.trans (congrArg some (by kernel_rfl))
  f217 := Tryd.func79.trans (congrArg some (by kernel_rfl))
  f218 := Tryd.func78.trans (congrArg some (by kernel_rfl))
  f219 := Tryd.func65.trans (congrArg some (by kernel_rfl))
  f221 := Tryd.func48.trans (congrArg some (by kernel_rfl))
  f224 := Tryd.func70.trans (congrArg some (by kernel_rfl))
  f225 := Tryd.func71.trans (congrArg some (by kernel_rfl))
  f260 := Tryd.func81.trans (congrArg some (by kernel_rfl))
  f266 := Tryd.func84.trans (congrArg some (by kernel_rfl))
  f267 := Tryd.func80.trans (congrArg some (by kernel_rfl))
  f268 := Tryd.func62.trans (congrArg some (by kernel_rfl))
  f314 := Tryd.func85.trans (congrArg some (by kernel_rfl))
  t0 := Tryd.underlying0
  a0 := Tryd.isAgg0
  z0 := Tryd.sizeOf0
  v0 := Tryd.zeroValue0
  t3 := Tryd.underlying3
  a3 := Tryd.isAgg3
  z3 := Tryd.sizeOf3
  v3 := Tryd.zeroValue3
  t4 := Tryd.underlying4
  a4 := Tryd.isAgg4
  z4 := Tryd.sizeOf4
  v4 := Tryd.zeroValue4
  t5 := Tryd.underlying5
  a5 := Tryd.isAgg5
  z5 := Tryd.sizeOf5
  v5 := Tryd.zeroValue5
  t9 := Tryd.underlying9
  a9 := Tryd.isAgg9
  z9 := Tryd.sizeOf9
  v9 := Tryd.zeroValue9
  t21 := Tryd.underlying21
  a21 := Tryd.isAgg21
  z21 := Tryd.sizeOf21
  v21 := Tryd.zeroValue21
  t31 := Tryd.underlying89
  a31 := Tryd.isAgg89
  z31 := Tryd.sizeOf89
  v31 := Tryd.zeroValue89
  t46 := Tryd.underlying102
  a46 := Tryd.isAgg102
  z46 := Tryd.sizeOf102
  v46 := Tryd.zeroValue102
  t51 := Tryd.underlying140
  a51 := Tryd.isAgg140
  z51 := Tryd.sizeOf140
  v51 := Tryd.zeroValue140
  t105 := Tryd.underlying132
  a105 := Tryd.isAgg132
  z105 := Tryd.sizeOf132
  v105 := Tryd.zeroValue132
  t119 := Tryd.underlying147
  a119 := Tryd.isAgg147
  z119 := Tryd.sizeOf147
  t138 := Tryd.underlying149
  a138 := Tryd.isAgg149
  z138 := Tryd.sizeOf149
  v138 := Tryd.zeroValue149
  t139 := Tryd.underlying150
  a139 := Tryd.isAgg150
  z139 := Tryd.sizeOf150
  v139 := Tryd.zeroValue150
  t146 := Tryd.underlying145
  a146 := Tryd.isAgg145
  z146 := Tryd.sizeOf145
  v146 := Tryd.zeroValue145
  g1 := by kernel_rfl
  g3 := by kernel_rfl
  g4 := by kernel_rfl }
open Go.RowKit Go.Lib in
/-- strings.Split. (LAID: no walk: one application.) -/
theorem Tryd.strings_Split (s sep : ByteArray) (m : Int) (w : World) (hs : s.size < 4294967281) (hm : w.cell? ⟨1, 0, none⟩ = some (.int .i64 m)) (h1 : 1 ≤ sep.size) :
    Calls Tryd.prog 42 #[.string s, .string sep] w fun e w' =>
      e = .returned (.slice (some ⟨w.heap.size, 0, none⟩) (Lib.countB s sep + 1) (Lib.countB s sep + 1)) ∧ w' = w.alloc (.cells ((Lib.splitB sep 0 (Lib.countB s sep) s).map Value.string).toArray 9) := Any.strings_Split Tryd.lays146 (by kernel_rfl) s sep m w hs hm h1
def Tryd.lays152_ren : Go.Shelf.Ren := ⟨fun | 152 => 54 | 137 => 68 | 119 => 69 | 224 => 70 | 225 => 71 | 217 => 79 | 266 => 84 | n => n, fun | 9 => 9 | 21 => 21 | 3 => 3 | 4 => 4 | 5 => 5 | 0 => 0 | 46 => 102 | n => n, fun | n => n⟩
theorem Tryd.lays152 : Go.Proofs.Lays.n152 Tryd.prog Tryd.lays152_ren := {
  mixed := by kernel_rfl
  f119 := Tryd.func69.trans (congrArg some (by kernel_rfl))
  f137 := Tryd.func68.trans (congrArg some (by kernel_rfl))
  f152 := Tryd.func54.trans (congrArg some (by kernel_rfl))
  f217 := Tryd.func79.trans (congrArg some (by kernel_rfl))
  f224 := Tryd.func70.trans (congrArg some (by kernel_rfl))
  f225 := Tryd.func71.trans (congrArg some (by kernel_rfl))
  f266 := Tryd.func84.trans (congrArg some (by kernel_rfl))
  t0 := Tryd.underlying0
  a0 := Tryd.isAgg0
  z0 := Tryd.sizeOf0
  v0 := Tryd.zeroValue0
  t3 := Tryd.underlying3
  a3 := Tryd.isAgg3
  z3 := Tryd.sizeOf3
  v3 := Tryd.zeroValue3
  t4 := Tryd.underlying4
  a4 := Tryd.isAgg4
  z4 := Tryd.sizeOf4
  v4 := Tryd.zeroValue4
  t5 := Tryd.underlying5
  a5 := Tryd.isAgg5
  z5 := Tryd.sizeOf5
  v5 := Tryd.zeroValue5
  t9 := Tryd.underlying9
  a9 := Tryd.isAgg9
  z9 := Tryd.sizeOf9
  v9 := Tryd.zeroValue9
  t21 := Tryd.underlying21
  a21 := Tryd.isAgg21
  z21 := Tryd.sizeOf21
  v21 := Tryd.zeroValue21
  t46 := Tryd.underlying102
  a46 := Tryd.isAgg102
  z46 := Tryd.sizeOf102
  v46 := Tryd.zeroValue102 }
open Go.RowKit Go.Lib in
theorem Tryd.strings_IndexRune_ascii (s : ByteArray) (r : Int) (w : World) (h0 : 0 ≤ r) (h1 : r < 128) :
    Calls Tryd.prog 54 #[.string s, .int .i32 r] w fun e w' => e = .returned (.int .i64 (Lib.indexByte s.data.toList r.toNat.toUInt8)) ∧ w' = w := Any.strings_IndexRune_ascii Tryd.lays152 s r w h0 h1
def Tryd.lays226_ren : Go.Shelf.Ren := ⟨fun | 226 => 55 | n => n, fun | 3 => 3 | 4 => 4 | n => n, fun | n => n⟩
theorem Tryd.lays226 : Go.Proofs.Lays.n226 Tryd.prog Tryd.lays226_ren := {
  mixed := by kernel_rfl
  f226 := Tryd.func55.trans (congrArg some (by kernel_rfl))
  t3 := Tryd.underlying3
  a3 := Tryd.isAgg3
  z3 := Tryd.sizeOf3
  v3 := Tryd.zeroValue3
  t4 := Tryd.underlying4
  a4 := Tryd.isAgg4
  z4 := Tryd.sizeOf4
  v4 := Tryd.zeroValue4 }
open Go.RowKit Go.Lib in
theorem Tryd.strings_shouldUseASCIISet (n : Int) (w : World) :
    Calls Tryd.prog 55 #[.int .i64 n] w fun e w' => e = .returned (.bool (decide (8 < n))) ∧ w' = w := Any.strings_shouldUseASCIISet Tryd.lays226 n w
def Tryd.lays153_ren : Go.Shelf.Ren := ⟨fun | 153 => 45 | 152 => 54 | 226 => 55 | 227 => 51 | 228 => 56 | 137 => 68 | 119 => 69 | 224 => 70 | 225 => 71 | 217 => 79 | 266 => 84 | n => n, fun | 9 => 9 | 3 => 3 | 4 => 4 | 5 => 5 | 21 => 21 | 117 => 117 | 116 => 116 | 0 => 0 | 46 => 102 | 124 => 120 | n => n, fun | n => n⟩
theorem Tryd.lays153 : Go.Proofs.Lays.n153 Tryd.prog Tryd.lays153_ren := {
  mixed := by kernel_rfl
  f119 := Tryd.func69.trans (congrArg some (by kernel_rfl))
  f137 := Tryd.func68.trans (congrArg some (by kernel_rfl))
  f152 := Tryd.func54.trans (congrArg some (by kernel_rfl))
  f153 := Tryd.func45.trans (congrArg some (by kernel_rfl))
  f217 := Tryd.func79.trans (congrArg some (by kernel_rfl))
  f224 := Tryd.func70.trans (congrArg some (by kernel_rfl))
  f225 := Tryd.func71.trans (congrArg some (by kernel_rfl))
  f226 := Tryd.func55.trans (congrArg some (by kernel_rfl))
  f227 := Tryd.func51.trans (congrArg some (by kernel_rfl))
  f228 := Tryd.func56.trans (congrArg some (by kernel_rfl))
  f266 := Tryd.func84.trans (congrArg some (by kernel_rfl))
  t0 := Tryd.underlying0
  a0 := Tryd.isAgg0
  z0 := Tryd.sizeOf0
  v0 := Tryd.zeroValue0
  t3 := Tryd.underlying3
  a3 := Tryd.isAgg3
  z3 := Tryd.sizeOf3
  v3 := Tryd.zeroValue3
  t4 := Tryd.underlying4
  a4 := Tryd.isAgg4
  z4 := Tryd.sizeOf4
  v4 := Tryd.zeroValue4
  t5 := Tryd.underlying5
  a5 := Tryd.isAgg5
  z5 := Tryd.sizeOf5
  v5 := Tryd.zeroValue5
  t9 := Tryd.underlying9
  a9 := Tryd.isAgg9
  z9 := Tryd.sizeOf9
  v9 := Tryd.zeroValue9
  t21 := Tryd.underlying21
  a21 := Tryd.isAgg21
  z21 := Tryd.sizeOf21
  v21 := Tryd.zeroValue21
  t46 := Tryd.underlying102
  a46 := Tryd.isAgg102
  z46 := Tryd.sizeOf102
  v46 := Tryd.zeroValue102
  t116 := Tryd.underlying116
  a116 := Tryd.isAgg116
  z116 := Tryd.sizeOf116
  t117 := Tryd.underlying117
  a117 := Tryd.isAgg117
  z117 := Tryd.sizeOf117
  v117 := Tryd.zeroValue117
  t124 := Tryd.underlying120
  a124 := Tryd.isAgg120
  z124 := Tryd.sizeOf120
  v124 := Tryd.zeroValue120 }
open Go.RowKit Go.Lib in
theorem Tryd.strings_IndexAny_long (hv116 : ∀ w, (zeroValue 116).run Tryd.prog w = .ok (.agg (Array.replicate 256 (.bool false))) w) (s chars : ByteArray) (w : World) (h2 : 2 ≤ chars.size) (h8 : 8 < s.size) (hs : s.size < 4294967281) (hcs : chars.size < 4294967281) (hascii : ∀ (j : Nat) b, chars.data.toList[j]? = some b → b.toNat < 128) :
    Calls Tryd.prog 45 #[.string s, .string chars] w fun e w' => e = .returned (.int .i64 (Lib.indexAny s.data.toList chars.data.toList)) ∧ w' = ((w.alloc (.cells (Lib.setCells chars.data.toList) 116)).alloc (.cells (Lib.setCells chars.data.toList) 116)) := Any.strings_IndexAny_long Tryd.lays153 hv116 (by kernel_rfl) s chars w h2 h8 hs hcs hascii
end Go.Proofs
end

section
namespace Go.Proofs.YtnejkfccdnadcaaDoor
open Go.RowKit Go.Shelf Go.Lib

/-- A blank and a tab. -/
def wsB : ByteArray := ⟨#[32, 9]⟩

theorem decode_low (s : ByteArray) (pos : Nat) (h : (s.data.toList.getD pos 0).toNat < 128) : Utf8.decode s pos = ((s.data.toList.getD pos 0).toNat, 1) := by
  rw [decode_N]
  unfold decodeN
  rw [if_pos h]

theorem decode_high (s : ByteArray) (pos : Nat) (h : 128 ≤ (s.data.toList.getD pos 0).toNat) :
    128 ≤ (Utf8.decode s pos).1 ∧ ∀ j, j < (Utf8.decode s pos).2 → 128 ≤ (s.data.toList.getD (pos + j) 0).toNat := by
  rw [decode_N]
  rcases decodeN_shape (s.data.toList.length - pos) (s.data.toList.getD pos 0).toNat (s.data.toList.getD (pos + 1) 0).toNat (s.data.toList.getD (pos + 2) 0).toNat (s.data.toList.getD (pos + 3) 0).toNat with
    ⟨h1, _⟩ | ⟨h1, h2, h3, h4, e⟩ | ⟨h1, h2, h3, h4, h5, _, e⟩ | ⟨h1, h2, h3, h4, h5, h6, _, e⟩ | e
  · omega
  · rw [e]
    refine ⟨h4, fun j hj => ?_⟩
    have : j = 0 ∨ j = 1 := by simp at hj; omega
    rcases this with rfl | rfl
    · exact h
    · omega
  · rw [e]
    refine ⟨by simp only; omega, fun j hj => ?_⟩
    have : j = 0 ∨ j = 1 ∨ j = 2 := by simp at hj; omega
    rcases this with rfl | rfl | rfl
    · exact h
    · omega
    · omega
  · rw [e]
    refine ⟨by simp only; omega, fun j hj => ?_⟩
    have : j = 0 ∨ j = 1 ∨ j = 2 ∨ j = 3 := by simp at hj; omega
    rcases this with rfl | rfl | rfl | rfl
    · exact h
    · omega
    · omega
    · omega
  · rw [e]
    refine ⟨by decide, fun j hj => ?_⟩
    have : j = 0 := by simp at hj; omega
    subst this
    exact h

set_option maxHeartbeats 1000000 in
set_option maxRecDepth 100000 in
theorem indexRune_err (w : World) : Calls Tryd.prog 54 #[.string wsB, .int .i32 65533] w fun e w' => e = .returned (.int .i64 (-1)) ∧ Below w.heap.size w w' := by
  unfold wsB
  go_enter Tryd.func54, Tryd.ntmps54
  go_wp2
  go_loopg [5, 6] 2 (fun g _ _ wx => ∃ i : Nat, i + g = 2 ∧ wx = w.iter ⟨#[32, 9]⟩ i)
  case atStart => exact ⟨0, by omega, rfl⟩
  case round =>
    obtain ⟨i, hig, rfl⟩ := hrel
    have hcase : i = 0 ∨ i = 1 ∨ i = 2 := by omega
    rcases hcase with rfl | rfl | rfl
    · have hnx := fun ty => run_next_ascii (P := Tryd.prog) w ⟨#[32, 9]⟩ 0 ty (by decide) (by decide)
      have hx : (ByteArray.mk #[32, 9])[0]'(by decide) = 32 := rfl
      rw [hx] at hnx
      obtain ⟨g', rfl⟩ : ∃ g', gk = g' + 1 := ⟨gk - 1, by omega⟩
      go_wp2
      go_roundg g'
      case measure => omega
      case rel => exact ⟨1, by omega, rfl⟩
    · have hnx := fun ty => run_next_ascii (P := Tryd.prog) w ⟨#[32, 9]⟩ 1 ty (by decide) (by decide)
      have hx : (ByteArray.mk #[32, 9])[1]'(by decide) = 9 := rfl
      rw [hx] at hnx
      obtain ⟨g', rfl⟩ : ∃ g', gk = g' + 1 := ⟨gk - 1, by omega⟩
      go_wp2
      go_roundg g'
      case measure => omega
      case rel => exact ⟨2, by omega, rfl⟩
    · have hnx := run_next_end (P := Tryd.prog) w ⟨#[32, 9]⟩ 2
      go_wp2
      go_ret
      exact ⟨rfl, (Below.refl _ _).alloc (Nat.le_refl _) _⟩

theorem encode_two {R : Int} (h0 : 128 ≤ R) (h1 : R < 2048) : ∃ a b : UInt8, Utf8.encode R = ⟨#[a, b]⟩ ∧ 128 ≤ b.toNat := by
  have hv : Utf8.valid R = true := by unfold Utf8.valid; simp; omega
  unfold Utf8.encode
  simp only [hv, if_true]
  rw [if_neg (by omega), if_pos (by omega)]
  refine ⟨_, _, rfl, ?_⟩
  rw [UInt8.toNat_ofNat']
  omega

theorem encode_more {R : Int} (h0 : 2048 ≤ R) (h1 : R ≤ 1114111) : 3 ≤ (Utf8.encode R).size ∧ (Utf8.encode R).size ≤ 4 := by
  unfold Utf8.encode
  have hc : 2048 ≤ (if Utf8.valid R = true then R.toNat else Utf8.runeError) := by
    split
    · omega
    · decide
  simp only
  generalize (if Utf8.valid R = true then R.toNat else Utf8.runeError) = c at hc
  rw [if_neg (by omega), if_neg (by omega)]
  split
  · exact ⟨Nat.le_refl 3, Nat.le_succ 3⟩
  · exact ⟨Nat.le_succ 3, Nat.le_refl 4⟩

theorem validRune_yes (R : Int) (w : World) (hv : Lib.validRune R = true) : Calls Tryd.prog 69 #[.int .i32 R] w fun e w' => e = .returned (.bool true) ∧ w = w' :=
  (Tryd.utf8_ValidRune R w).mono fun e w' ⟨he, hw⟩ => ⟨by rw [he, hv], hw.symm⟩

set_option maxHeartbeats 1000000 in
set_option maxRecDepth 100000 in
theorem indexRune_more (R : Int) (w : World) (h0 : 2048 ≤ R) (h1 : R ≤ 1114111) (hne : R ≠ 65533) (hv : Lib.validRune R = true) :
    Calls Tryd.prog 54 #[.string wsB, .int .i32 R] w fun e w' => e = .returned (.int .i64 (-1)) ∧ Below w.heap.size w w' := by
  unfold wsB
  have hb : (R == 65533) = false := by simpa using hne
  obtain ⟨e0, e1⟩ := encode_more h0 h1
  obtain ⟨E, hE⟩ : ∃ E, Utf8.encode R = E := ⟨_, rfl⟩
  rw [hE] at e0 e1
  clear hne
  go_enter Tryd.func54, Tryd.ntmps54
  go_wp2_with (go_at_call 69; refine (validRune_yes _ _ hv).mono ?_; rintro e w' ⟨rfl, rfl⟩)
  go_step3
  go_wp2_with (go_at_call 69; refine (validRune_yes _ _ hv).mono ?_; rintro e w' ⟨rfl, rfl⟩)
  refine wp_loop_rounds 1 ?_
  rw [rounds_succ]
  go_wp2
  try rw [Exit.noGoto_ret]
  go_ret
  exact ⟨rfl, Below.refl _ _⟩

theorem quiet_add_left {P : Program} {f : FuncId} {args : Array Value} {w : World} {a n : Nat} {v : Value}
    (h : Calls P f args (w.drewN (a + n)) fun e w' => e = .returned v ∧ w.drewN (a + n) = w') :
    Calls P f args (w.drewN (a + n)) fun e w'' => e = .returned v ∧ ∃ m, w'' = w.drewN (a + m) :=
  h.mono fun _ _ ⟨he, hm⟩ => ⟨he, n, hm.symm⟩

theorem indexByte_none (s : ByteArray) (c : Int) (w : World) (h : s.data.toList = []) : Calls Tryd.prog 68 #[.string s, .int .u8 c] w fun e w' => e = .returned (.int .i64 (-1)) ∧ w = w' :=
  (Tryd.strings_IndexByte s c w).mono fun e w' ⟨he, hw⟩ => ⟨by rw [he, h]; rfl, hw.symm⟩

set_option maxHeartbeats 1000000 in
set_option maxRecDepth 100000 in
theorem indexRune_two (R : Int) (w : World) (h0 : 128 ≤ R) (h1 : R < 2048) (hv : Lib.validRune R = true) :
    Calls Tryd.prog 54 #[.string wsB, .int .i32 R] w fun e w' => e = .returned (.int .i64 (-1)) ∧ Below w.heap.size w w' := by
  unfold wsB
  have hb : (R == 65533) = false := by simp; omega
  obtain ⟨a, b, hE, hb8⟩ := encode_two h0 h1
  have hb1 : ((9 : Int) == (b.toNat : Int)) = false := by simp; omega
  have hb2 : ((9 : Int) != (b.toNat : Int)) = true := by simp; omega
  go_enter Tryd.func54, Tryd.ntmps54
  go_wp2_with (go_at_call 69; refine (validRune_yes _ _ hv).mono ?_; rintro e w' ⟨rfl, rfl⟩)
  go_step3
  go_wp2_with (go_at_call 69; refine (validRune_yes _ _ hv).mono ?_; rintro e w' ⟨rfl, rfl⟩)
  refine wp_loop_rounds 1 ?_
  rw [rounds_succ]
  go_wp2
  go_step3
  go_wp2
  go_quiet (fail)
  go_wp2
  · go_quiet ((go_at_call 68; exact quiet_add_left (indexByte_none _ _ _ rfl)))
    go_wp2
    repeat rw [Exit.noGoto_ret]
    go_wp2
    repeat rw [Exit.noGoto_ret]
    go_ret
    exact ⟨rfl, below_drewN (Below.refl _ _) _⟩
  · have hz : ((9 : Int) != (b.toNat : Int)) = false := by assumption
    rw [hb2] at hz
    cases hz

theorem valid_rune (s : ByteArray) (pos : Nat) : Lib.validRune ((Utf8.decode s pos).1 : Int) = true := by
  have h := decodeN_valid (s.size - pos) (s.get! pos).toNat (s.get! (pos + 1)).toNat (s.get! (pos + 2)).toNat (s.get! (pos + 3)).toNat (UInt8.toNat_lt _)
  rw [← decode_at] at h
  unfold Lib.validRune
  simp
  omega

theorem indexRune_any (R : Nat) (w : World) (h0 : 128 ≤ R) (h1 : R ≤ 1114111) (hv : R = 65533 ∨ Lib.validRune (R : Int) = true) :
    Calls Tryd.prog 54 #[.string wsB, .int .i32 R] w fun e w' => e = .returned (.int .i64 (-1)) ∧ Below w.heap.size w w' := by
  by_cases he : R = 65533
  · subst he; exact indexRune_err w
  · rcases hv with hv | hv
    · exact absurd hv he
    · rcases Nat.lt_or_ge R 2048 with h2 | h2
      · exact indexRune_two R w (by omega) (by omega) hv
      · exact indexRune_more R w (by omega) (by omega) (by omega) hv

/-- None of the bytes of a rune above ASCII is a blank or a tab. -/
theorem noAny_high {s : ByteArray} {pos : Nat} (h : NoAny s.data.toList [32, 9] pos) (hp : 128 ≤ (s.data.toList.getD pos 0).toNat) :
    NoAny s.data.toList [32, 9] (pos + (Utf8.decode s pos).2) := by
  intro j b hj hb
  rcases Nat.lt_or_ge j pos with h1 | h1
  · exact h j b h1 hb
  · have := (decode_high s pos hp).2 (j - pos) (by omega)
    rw [show pos + (j - pos) = j by omega, List.getD_eq_getElem?_getD, hb] at this
    simp at this
    simp only [List.contains_cons, List.contains_nil, Bool.or_false, Bool.or_eq_false_iff, beq_eq_false_iff_ne]
    constructor
    · rintro rfl; revert this; decide
    · rintro rfl; revert this; decide

set_option maxHeartbeats 1000000 in
set_option maxRecDepth 100000 in
theorem indexAny_short (s : ByteArray) (w : World) (h8 : s.size ≤ 8) :
    Calls Tryd.prog 45 #[.string s, .string wsB] w fun e w' => e = .returned (.int .i64 (Lib.indexAny s.data.toList [32, 9])) ∧ Below w.heap.size w w' := by
  have hrune : Hid (∀ (R : Nat) (W : World), 128 ≤ R → R ≤ 1114111 → (R = 65533 ∨ Lib.validRune (R : Int) = true) → Calls Tryd.prog 54 #[.string wsB, .int .i32 R] W fun e w' => e = .returned (.int .i64 (-1)) ∧ Below W.heap.size W w') := Lib.hid fun R W a b c => indexRune_any R W a b c
  have hlow : Hid (∀ (r : Int) (W : World), 0 ≤ r → r < 128 → Calls Tryd.prog 54 #[.string wsB, .int .i32 r] W fun e w' => e = .returned (.int .i64 (Lib.indexByte [32, 9] r.toNat.toUInt8)) ∧ W = w') :=
    Lib.hid fun r W a b => (Tryd.strings_IndexRune_ascii wsB r W a b).mono fun e w' ⟨he, hw⟩ => ⟨he, hw.symm⟩
  unfold wsB at hrune hlow ⊢
  go_enter Tryd.func45, Tryd.ntmps45
  go_wp2_with (go_at_call 55; refine (Tryd.strings_shouldUseASCIISet _ _).mono ?_; rintro e w' ⟨rfl, hw⟩; rw [hw])
  go_loopg [9, 10] s.size (fun g _ _ wx => ∃ pos : Nat, wx.heap[w.heap.size]? = some (.stringIter s pos) ∧ Below w.heap.size w wx ∧ NoAny s.data.toList [32, 9] pos ∧ s.size ≤ pos + g)
  case atStart => exact ⟨0, World.iter_heap w s 0, (Below.refl _ w).alloc (Nat.le_refl _) _, NoAny.zero _ _, by omega⟩
  case round =>
    obtain ⟨pos, hit, hbw, hno, hfu⟩ := hrel
    have HN := Lib.hid hno
    clear hno
    by_cases hps : pos < s.size
    · obtain ⟨g', rfl⟩ : ∃ g', gk = g' + 1 := ⟨gk - 1, by omega⟩
      have hnx : ∀ ty, (Instr.next (.pointer (some ⟨w.heap.size, 0, none⟩)) true ty).run Tryd.prog wr = _ := fun ty => Lib.run_next_any_at wr w.heap.size s pos ty hit hps
      have hwd := Lib.width_pos s pos
      have hmax := Lib.rune_le s pos
      have hval := valid_rune s pos
      by_cases hhi : 128 ≤ (s.data.toList.getD pos 0).toNat
      · have hR0 := (decode_high s pos hhi).1
        have hnext := Lib.hid (noAny_high HN.out hhi)
        obtain ⟨R, hR⟩ : ∃ R, (Utf8.decode s pos).1 = R := ⟨_, rfl⟩
        obtain ⟨K, hK⟩ : ∃ K, (Utf8.decode s pos).2 = K := ⟨_, rfl⟩
        rw [hR, hK] at hnx
        rw [hR] at hR0 hmax hval
        rw [hK] at hwd hnext
        clear hR hK
        have hit2 := Lib.iterAt_heap wr w.heap.size s pos (pos + K) hit
        have hbw2 := Lib.below_iterAt hbw (k := w.heap.size) (Nat.le_refl _) s (pos + K)
        obtain ⟨W, hWd⟩ : ∃ W, wr.iterAt w.heap.size s (pos + K) = W := ⟨_, rfl⟩
        rw [hWd] at hnx hit2 hbw2
        have hc := Lib.hid (hrune.out R W hR0 hmax (.inr hval))
        clear hhi hval
        go_wp2_with (go_at_call 54; refine hc.out.mono ?_; rintro e W' ⟨rfl, hb3⟩)
        go_roundg g'
        case measure => omega
        case rel => exact ⟨pos + K, (hb3.block _ (lt_of_block hit2)).trans hit2, hbw2.trans (hb3.mono hbw2.size), hnext.out, by omega⟩
      · have hd := decode_low s pos (by omega)
        obtain ⟨x, hx⟩ : ∃ x, s.data.toList.getD pos 0 = x := ⟨_, rfl⟩
        have hxl : s.data.toList[pos]? = some x := by
          rw [List.getD_eq_getElem?_getD] at hx
          rw [Lib.size_eq] at hps
          rw [List.getElem?_eq_getElem hps] at hx ⊢
          simpa using hx
        have hx128 : x.toNat < 128 := by rw [hx] at hhi; omega
        rw [hx] at hd
        rw [hd] at hnx
        have hit2 := Lib.iterAt_heap wr w.heap.size s pos (pos + 1) hit
        have hbw2 := Lib.below_iterAt hbw (k := w.heap.size) (Nat.le_refl _) s (pos + 1)
        obtain ⟨W, hWd⟩ : ∃ W, wr.iterAt w.heap.size s (pos + 1) = W := ⟨_, rfl⟩
        simp only at hnx
        rw [hWd] at hnx hit2 hbw2
        have hc := hlow.out (x.toNat : Int) W (by omega) (by omega)
        have hback : ((x.toNat : Int)).toNat.toUInt8 = x := by simp
        rw [hback] at hc
        have hcon := Lib.contains_iff_indexByte [32, 9] x
        have HX := Lib.hid hxl
        clear hx hxl hd hhi hwd hmax hval hback hWd
        cases hin : ([32, 9] : List UInt8).contains x
        · rw [hin] at hcon
          have hlt : ¬ ((0 : Int) ≤ Lib.indexByte [32, 9] x) := of_decide_eq_false hcon.symm
          have hnext := Lib.hid (HN.out.succ HX.out hin)
          generalize Lib.indexByte [32, 9] x = I at hc hlt
          have hC := Lib.hid hc
          clear hcon hc hin
          go_wp2_with (go_at_call 54; refine hC.out.mono ?_; rintro e W' ⟨rfl, rfl⟩)
          go_roundg g'
          case measure => omega
          case rel => exact ⟨pos + 1, hit2, hbw2, hnext.out, by omega⟩
        · rw [hin] at hcon
          have hge : (0 : Int) ≤ Lib.indexByte [32, 9] x := of_decide_eq_true hcon.symm
          have hit' := Lib.hid (indexAny_hit HN.out HX.out hin)
          generalize Lib.indexByte [32, 9] x = I at hc hge
          have hC := Lib.hid hc
          clear hcon hc hin
          go_wp2_with (go_at_call 54; refine hC.out.mono ?_; rintro e W' ⟨rfl, rfl⟩)
          go_ret
          exact ⟨by rw [hit'.out]; rfl, hbw2⟩
    · have hnx : ∀ ty, (Instr.next (.pointer (some ⟨w.heap.size, 0, none⟩)) true ty).run Tryd.prog wr = _ := fun ty => Lib.run_next_end_at wr w.heap.size s pos ty hit hps
      have hend := Lib.hid (indexAny_none (s := s.data.toList) (chars := [32, 9]) (fun j b hj hb => HN.out j b (by rw [Lib.size_eq] at hps; omega) hb))
      go_wp2
      go_ret
      exact ⟨by rw [hend.out]; rfl, hbw⟩

end Go.Proofs.YtnejkfccdnadcaaDoor
end

section
namespace Go.Proofs.YtnejkfccdnadcaaDoor
open Go.RowKit Go.Shelf Go.Lib

def isD (c : UInt8) : Prop := 48 ≤ c.toNat ∧ c.toNat ≤ 57
def numF (n : Nat) (c : UInt8) : Nat := n * 10 + (c.toNat - 48)
def numV (l : List UInt8) : Nat := l.foldl numF 0

theorem numF_le (l : List UInt8) : ∀ n, n ≤ l.foldl numF n := by
  induction l with
  | nil => intro n; exact Nat.le_refl _
  | cons c l ih =>
    intro n
    have h := ih (numF n c)
    have h2 : n ≤ numF n c := by unfold numF; omega
    exact Nat.le_trans h2 h

theorem numV_take {l : List UInt8} {i : Nat} {c : UInt8} (h : l[i]? = some c) : numV (l.take (i + 1)) = numF (numV (l.take i)) c := by
  obtain ⟨hk, he⟩ := List.getElem?_eq_some_iff.1 h
  rw [List.take_succ_eq_append_getElem hk, he]
  simp [numV]

theorem numV_ge (l : List UInt8) (i : Nat) : numV (l.take i) ≤ numV l := by
  have h : numV l = (l.drop i).foldl numF (numV (l.take i)) := by
    unfold numV
    rw [← List.foldl_append, List.take_append_drop]
  rw [h]
  exact numF_le _ _

/-- What a number is, up to a bound. -/
def NumOk (l : List UInt8) (most : Int) : Prop := (l ≠ [] ∧ (l.length = 1 ∨ l[0]? ≠ some 48)) ∧ (∀ (i : Nat) c, l[i]? = some c → isD c) ∧ (numV l : Int) ≤ most

/-- One digit more. -/
theorem num_break {most t q : Int} {n d : Nat} (hm : 0 ≤ most) (hm2 : most ≤ 9223372036854775807) (hd : d ≤ 9) (ht : t = wrap64 (most - d)) (hq : q = t.tdiv 10) (h : q < n) : most < (n * 10 + d : Nat) := by
  have ht2 : t = most - d := by rw [ht]; unfold wrap64; omega
  subst hq
  rcases Int.lt_or_le t 0 with h0 | h0
  · have : t.tdiv 10 = 0 := by
      have h1 : t.tdiv 10 = -((-t).tdiv 10) := by rw [Int.neg_tdiv, Int.neg_neg]
      rw [h1, Int.tdiv_eq_ediv_of_nonneg (by omega)]
      omega
    omega
  · rw [Int.tdiv_eq_ediv_of_nonneg h0] at h
    omega

theorem num_on {most t q : Int} {n d : Nat} (hm1 : -9223372036854775808 ≤ most) (hm2 : most ≤ 9223372036854775807) (hd : d ≤ 9) (ht : t = wrap64 (most - d)) (hq : q = t.tdiv 10) (h : ¬ q < n)
    (hn : most < 0 → n = 0 ∨ n % 10 ≠ 0) : n * 10 + d ≤ 9223372036854775807 ∧ (most < 0 → n * 10 + d = 0 ∨ (n * 10 + d) % 10 ≠ 0) := by
  subst hq
  rcases Int.lt_or_le t 0 with h0 | h0
  · have : t.tdiv 10 ≤ 0 := by
      have h1 : t.tdiv 10 = -((-t).tdiv 10) := by rw [Int.neg_tdiv, Int.neg_neg]
      rw [h1, Int.tdiv_eq_ediv_of_nonneg (by omega)]
      omega
    have hn0 : n = 0 := by omega
    subst hn0
    exact ⟨by omega, fun _ => by omega⟩
  · rw [Int.tdiv_eq_ediv_of_nonneg h0] at h
    rcases Int.lt_or_le most 0 with hm | hm
    · have hd1 : t = most - d + 18446744073709551616 := by rw [ht] at h0 ⊢; unfold wrap64 at h0 ⊢; omega
      have hb : t ≤ 9223372036854775807 := by rw [ht]; unfold wrap64; omega
      have hn' := hn hm
      exact ⟨by omega, fun _ => by omega⟩
    · have hd1 : t = most - d := by rw [ht]; unfold wrap64; omega
      exact ⟨by omega, fun hh => by omega⟩

theorem not_empty {s : ByteArray} (h : 0 < s.size) : s.toList.isEmpty = false ∧ s ≠ ByteArray.empty := by
  constructor
  · rw [Go.ByteArray.toList_eq]
    rw [Lib.size_eq] at h
    cases hs : s.data.toList with
    | nil => rw [hs] at h; simp at h
    | cons a l => rfl
  · rintro rfl
    simp at h

theorem byte_48 {x : UInt8} (h : x ≠ 48) : ((x.toNat : Int) != 48) = true ∧ ((x.toNat : Int) == 48) = false := by
  have : (x.toNat : Int) ≠ 48 := by
    intro he
    exact h (UInt8.toNat_inj.1 (by show x.toNat = 48; omega))
  exact ⟨by simpa using this, by simpa using this⟩

theorem w64_bd (x : Int) : -9223372036854775808 ≤ wrap64 x ∧ wrap64 x ≤ 9223372036854775807 := by unfold wrap64; omega

theorem quo_small (t : Int) (h : -9223372036854775808 ≤ t ∧ t ≤ 9223372036854775807) : wrap64 (t.tdiv 10) = t.tdiv 10 := by
  rcases Int.lt_or_le t 0 with h0 | h0
  · have h1 : t.tdiv 10 = -((-t).tdiv 10) := by rw [Int.neg_tdiv, Int.neg_neg]
    rw [h1, Int.tdiv_eq_ediv_of_nonneg (by omega)]
    unfold wrap64
    omega
  · rw [Int.tdiv_eq_ediv_of_nonneg h0]
    unfold wrap64
    omega

theorem num_over {l : List UInt8} {pos n d : Nat} {x : UInt8} {most q : Int} (hx : l[pos]? = some x) (hd : x.toNat = d + 48) (hn : n = numV (l.take pos)) (hd9 : d ≤ 9) (hm2 : most ≤ 9223372036854775807)
    (hq : q = (wrap64 (most - (d : Int))).tdiv 10) (h : q < (n : Int)) : ¬ NumOk l most := by
  rintro ⟨_, _, hle⟩
  have h1 := numV_ge l (pos + 1)
  rw [numV_take hx, ← hn] at h1
  have h2 : numF n x = n * 10 + d := by unfold numF; rw [hd]; omega
  rw [h2] at h1
  rcases Int.lt_or_le most 0 with hm | hm
  · omega
  · have := num_break hm hm2 hd9 rfl hq h
    omega

/-- The first byte tells. -/
def okB (s : ByteArray) : Bool := decide (s.data.toList.length = 1 ∨ s.data.toList[0]? ≠ some 48)

set_option maxHeartbeats 2000000 in
set_option maxRecDepth 100000 in
theorem number_pos (s : ByteArray) (most : Int) (w : World) (hp : 0 < s.size) (hm1 : -9223372036854775808 ≤ most) (hm2 : most ≤ 9223372036854775807) :
    Calls Tryd.prog 35 #[.string s, .int .i64 most] w fun e w' =>
      ((NumOk s.data.toList most ∧ e = .returned (.tuple #[.int .i64 (numV s.data.toList), .bool true])) ∨ (¬ NumOk s.data.toList most ∧ e = .returned (.tuple #[.int .i64 0, .bool false]))) ∧ Below w.heap.size w w' := by
  obtain ⟨hem, hne⟩ := not_empty hp
  have hx0 : s.data.toList[0]? = some s[0] := by rw [List.getElem?_eq_getElem (by rw [← Lib.size_eq]; exact hp)]; rfl
  have HX0 := Lib.hid hx0
  clear hx0
  go_enter Tryd.func35, Tryd.ntmps35
  go_wp2
  go_step3
  go_upto_region 2 with (fail)
  go_cut [7] from 57 (fun v7 wx => v7 = .bool (okB s) ∧ w = wx)
  case first =>
    by_cases h : s.size = 1
    · go_wp2
      go_meet
      exact ⟨by rw [show okB s = true from by unfold okB; rw [← Lib.size_eq]; simp [h]], rfl⟩
    · by_cases h48 : s[0] = 48
      · go_wp2
        go_meet
        have h1 : ((s.size : Int) == 1) = false := by simp; omega
        have h2 : okB s = false := by
          unfold okB
          rw [HX0.out, ← Lib.size_eq]
          simp [h48, h]
        exact ⟨by rw [h1, h2], rfl⟩
      · obtain ⟨h481, h482⟩ := byte_48 h48
        go_wp2
        go_meet
        exact ⟨by rw [show okB s = true from by unfold okB; rw [HX0.out]; simp [h48]], rfl⟩
  case rest =>
    obtain ⟨rfl, rfl⟩ := hcut
    go_wp2
    go_step3
    go_upto_region 4 with (fail)
    cases hok : okB s with
    | false =>
      have hbad : ¬ NumOk s.data.toList most := fun h => by have h2 := of_decide_eq_false hok; exact h2 h.1.2
      have HB := Lib.hid hbad
      clear hbad
      go_loopg [6, 7] s.size (fun g v6 v7 wx => ∃ (pos : Nat) (x : Int), v6 = .int .i64 x ∧ v7 = .bool false ∧ wx.heap[w.heap.size]? = some (.stringIter s pos) ∧ Below w.heap.size w wx ∧ s.size ≤ pos + g)
      case atStart => exact ⟨0, 0, rfl, rfl, World.iter_heap w s 0, (Below.refl _ w).alloc (Nat.le_refl _) _, by omega⟩
      case round =>
        obtain ⟨pos, x, rfl, rfl, hit, hbw, hfu⟩ := hrel
        by_cases hps : pos < s.size
        · obtain ⟨g', rfl⟩ : ∃ g', gk = g' + 1 := ⟨gk - 1, by omega⟩
          have hnx : ∀ ty, (Instr.next (.pointer (some ⟨w.heap.size, 0, none⟩)) true ty).run Tryd.prog wr = _ := fun ty => Lib.run_next_any_at wr w.heap.size s pos ty hit hps
          have hmax := Lib.rune_le s pos
          have hwd := Lib.width_pos s pos
          obtain ⟨R, hR⟩ : ∃ R, (Utf8.decode s pos).1 = R := ⟨_, rfl⟩
          obtain ⟨K, hK⟩ : ∃ K, (Utf8.decode s pos).2 = K := ⟨_, rfl⟩
          rw [hR, hK] at hnx
          rw [hR] at hmax
          rw [hK] at hwd
          have hit2 := Lib.iterAt_heap wr w.heap.size s pos (pos + K) hit
          have hbw2 := Lib.below_iterAt hbw (k := w.heap.size) (Nat.le_refl _) s (pos + K)
          generalize wr.iterAt w.heap.size s (pos + K) = W at hnx hit2 hbw2
          have hsub : IntKind.i32.wrap ((R : Int) - 48) = (R : Int) - 48 := by rw [IntKind.wrap_i32]; omega
          clear hR hK hit hbw
          rcases Nat.lt_or_ge R 48 with hR | hR
          · go_wp2
            repeat rw [Exit.noGoto_ret]
            go_wp2
            go_ret2
            exact ⟨.inr ⟨HB.out, rfl⟩, hbw2⟩
          · rcases Nat.lt_or_ge R 58 with hR2 | hR2
            · obtain ⟨d, rfl⟩ : ∃ d, R = d + 48 := ⟨R - 48, by omega⟩
              have hsub2 : IntKind.i32.wrap (((d + 48 : Nat) : Int) - 48) = (d : Int) := by rw [IntKind.wrap_i32]; omega
              clear hsub
              by_cases hqn : wrap64 ((wrap64 (most - (d : Int))).tdiv 10) < x
              · go_wp2
                repeat rw [Exit.noGoto_ret]
                go_wp2
                go_ret2
                exact ⟨.inr ⟨HB.out, rfl⟩, hbw2⟩
              · go_wp2
                go_roundg g'
                case measure => omega
                case rel => exact ⟨pos + K, _, rfl, rfl, hit2, hbw2, by omega⟩
            · go_wp2
              repeat rw [Exit.noGoto_ret]
              go_wp2
              go_ret2
              exact ⟨.inr ⟨HB.out, rfl⟩, hbw2⟩
        · have hnx : ∀ ty, (Instr.next (.pointer (some ⟨w.heap.size, 0, none⟩)) true ty).run Tryd.prog wr = _ := fun ty => Lib.run_next_end_at wr w.heap.size s pos ty hit hps
          go_wp2
          repeat rw [Exit.noGoto_ret]
          go_wp2
          go_ret2
          exact ⟨.inr ⟨HB.out, rfl⟩, hbw⟩
    | true =>
      go_loopg [6, 7] s.size (fun g v6 v7 wx => ∃ pos n : Nat, v6 = .int .i64 n ∧ v7 = .bool true ∧ wx.heap[w.heap.size]? = some (.stringIter s pos) ∧ Below w.heap.size w wx ∧ s.size ≤ pos + g ∧ pos ≤ s.size ∧ n ≤ 9223372036854775807 ∧
        Hid (n = numV (s.data.toList.take pos)) ∧ Hid (∀ (i : Nat) c, i < pos → s.data.toList[i]? = some c → isD c) ∧ Hid (most < 0 → n = 0 ∨ n % 10 ≠ 0))
      case atStart => exact ⟨0, 0, rfl, rfl, World.iter_heap w s 0, (Below.refl _ w).alloc (Nat.le_refl _) _, by omega, Nat.zero_le _, by omega, Lib.hid rfl, Lib.hid (fun i c h => absurd h (by omega)), Lib.hid (fun _ => .inl rfl)⟩
      case round =>
        obtain ⟨pos, n, rfl, rfl, hit, hbw, hfu, hpos, hn, hnv, hdig, hneg⟩ := hrel
        by_cases hps : pos < s.size
        · obtain ⟨g', rfl⟩ : ∃ g', gk = g' + 1 := ⟨gk - 1, by omega⟩
          have hnx : ∀ ty, (Instr.next (.pointer (some ⟨w.heap.size, 0, none⟩)) true ty).run Tryd.prog wr = _ := fun ty => Lib.run_next_any_at wr w.heap.size s pos ty hit hps
          have hmax := Lib.rune_le s pos
          obtain ⟨x, hx⟩ : ∃ x, s.data.toList[pos]? = some x := ⟨_, List.getElem?_eq_getElem (by rw [← Lib.size_eq]; exact hps)⟩
          have hxD : s.data.toList.getD pos 0 = x := by rw [List.getD_eq_getElem?_getD, hx]; rfl
          have HX := Lib.hid hx
          by_cases hd : 48 ≤ x.toNat ∧ x.toNat ≤ 57
          · have hdec := decode_low s pos (by rw [hxD]; omega)
            rw [hxD] at hdec
            rw [hdec] at hnx
            obtain ⟨d, hd48⟩ : ∃ d : Nat, x.toNat = d + 48 := ⟨x.toNat - 48, by omega⟩
            have hd9 : d ≤ 9 := by omega
            have HD48 := Lib.hid hd48
            rw [hd48] at hnx
            have hit2 := Lib.iterAt_heap wr w.heap.size s pos (pos + 1) hit
            have hbw2 := Lib.below_iterAt hbw (k := w.heap.size) (Nat.le_refl _) s (pos + 1)
            simp only at hnx
            generalize wr.iterAt w.heap.size s (pos + 1) = W at hnx hit2 hbw2
            have hsub : IntKind.i32.wrap (((d + 48 : Nat) : Int) - 48) = (d : Int) := by rw [IntKind.wrap_i32]; omega
            clear hx hxD hdec hmax hit hbw hd48 hd
            obtain ⟨q, hq⟩ : ∃ q, wrap64 ((wrap64 (most - (d : Int))).tdiv 10) = q := ⟨_, rfl⟩
            have hq2 : q = (wrap64 (most - (d : Int))).tdiv 10 := by rw [← hq]; exact quo_small _ (w64_bd _)
            have HQ2 := Lib.hid hq2
            clear hq2
            by_cases hqn : q < (n : Int)
            · go_wp2
              repeat rw [Exit.noGoto_ret]
              go_wp2
              go_ret2
              exact ⟨.inr ⟨num_over HX.out HD48.out hnv.out hd9 hm2 HQ2.out hqn, rfl⟩, hbw2⟩
            · obtain ⟨m1, m2⟩ := num_on hm1 hm2 hd9 rfl HQ2.out hqn hneg.out
              have M2 := Lib.hid m2
              clear m2
              go_wp2
              go_roundg g'
              case measure => omega
              case rel => exact ⟨pos + 1, n * 10 + d, by simp, rfl, hit2, hbw2, by omega, hps, m1,
                Lib.hid (by rw [numV_take HX.out, ← hnv.out]; unfold numF; rw [HD48.out]; omega),
                Lib.hid (fun i c hi hc => by
                  by_cases hip : i = pos
                  · subst hip
                    rw [HX.out] at hc
                    cases hc
                    have := HD48.out
                    unfold isD
                    omega
                  · exact hdig.out i c (by omega) hc), M2⟩
          · have hbad : ¬ NumOk s.data.toList most := fun h => hd (h.2.1 pos x HX.out)
            have HB := Lib.hid hbad
            have hrune : (Utf8.decode s pos).1 < 48 ∨ 57 < (Utf8.decode s pos).1 := by
              by_cases h128 : x.toNat < 128
              · rw [decode_low s pos (by rw [hxD]; exact h128), hxD]
                simp only
                omega
              · have := (decode_high s pos (by rw [hxD]; omega)).1
                omega
            obtain ⟨R, hR⟩ : ∃ R, (Utf8.decode s pos).1 = R := ⟨_, rfl⟩
            obtain ⟨K, hK⟩ : ∃ K, (Utf8.decode s pos).2 = K := ⟨_, rfl⟩
            rw [hR, hK] at hnx
            rw [hR] at hmax hrune
            have hit2 := Lib.iterAt_heap wr w.heap.size s pos (pos + K) hit
            have hbw2 := Lib.below_iterAt hbw (k := w.heap.size) (Nat.le_refl _) s (pos + K)
            generalize wr.iterAt w.heap.size s (pos + K) = W at hnx hit2 hbw2
            have hsub : IntKind.i32.wrap ((R : Int) - 48) = (R : Int) - 48 := by rw [IntKind.wrap_i32]; omega
            clear hx hxD hit hbw hd hbad hR hK
            rcases hrune with hR | hR
            · go_wp2
              repeat rw [Exit.noGoto_ret]
              go_wp2
              go_ret2
              exact ⟨.inr ⟨HB.out, rfl⟩, hbw2⟩
            · go_wp2
              repeat rw [Exit.noGoto_ret]
              go_wp2
              go_ret2
              exact ⟨.inr ⟨HB.out, rfl⟩, hbw2⟩
        · obtain rfl : pos = s.size := by omega
          have hnx : ∀ ty, (Instr.next (.pointer (some ⟨w.heap.size, 0, none⟩)) true ty).run Tryd.prog wr = _ := fun ty => Lib.run_next_end_at wr w.heap.size s s.size ty hit hps
          have hall : n = numV s.data.toList := by rw [hnv.out, Lib.size_eq, List.take_length]
          have HA := Lib.hid hall
          have HOK : Hid (NumOk s.data.toList most ↔ (numV s.data.toList : Int) ≤ most) := Lib.hid ⟨fun h => h.2.2, fun h => ⟨⟨fun e => by rw [Lib.size_eq, e] at hp; simp at hp, of_decide_eq_true hok⟩, fun i c hc => hdig.out i c (by rw [Lib.size_eq]; exact (List.getElem?_eq_some_iff.1 hc).1) hc, h⟩⟩
          clear hall
          by_cases hmn : most < (n : Int)
          · go_wp2
            repeat rw [Exit.noGoto_ret]
            go_wp2
            go_ret2
            exact ⟨.inr ⟨fun h => by have := HOK.out.1 h; rw [← HA.out] at this; omega, rfl⟩, hbw⟩
          · go_wp2
            repeat rw [Exit.noGoto_ret]
            go_wp2
            go_ret2
            exact ⟨.inl ⟨HOK.out.2 (by rw [← HA.out]; omega), by rw [← HA.out]; rfl⟩, hbw⟩

set_option maxHeartbeats 1000000 in
set_option maxRecDepth 100000 in
theorem number_none (most : Int) (w : World) :
    Calls Tryd.prog 35 #[.string ByteArray.empty, .int .i64 most] w fun e w' => e = .returned (.tuple #[.int .i64 0, .bool false]) ∧ Below w.heap.size w w' := by
  go_enter Tryd.func35, Tryd.ntmps35
  go_wp2
  go_step3
  go_wp2
  go_step3
  go_upto_region 4 with (fail)
  go_loopg [6, 7] 0 (fun _ v6 v7 wx => v6 = .int .i64 0 ∧ v7 = .bool false ∧ wx.heap[w.heap.size]? = some (.stringIter ByteArray.empty 0) ∧ Below w.heap.size w wx)
  case atStart => exact ⟨rfl, rfl, World.iter_heap w _ 0, (Below.refl _ w).alloc (Nat.le_refl _) _⟩
  case round =>
    obtain ⟨rfl, rfl, hit, hbw⟩ := hrel
    have hnx : ∀ ty, (Instr.next (.pointer (some ⟨w.heap.size, 0, none⟩)) true ty).run Tryd.prog wr = _ := fun ty => Lib.run_next_end_at wr w.heap.size ByteArray.empty 0 ty hit (by decide)
    go_wp2
    repeat rw [Exit.noGoto_ret]
    go_wp2
    go_ret2
    exact ⟨rfl, hbw⟩

theorem number_any (s : ByteArray) (most : Int) (w : World) (hm1 : -9223372036854775808 ≤ most) (hm2 : most ≤ 9223372036854775807) :
    Calls Tryd.prog 35 #[.string s, .int .i64 most] w fun e w' =>
      ((NumOk s.data.toList most ∧ e = .returned (.tuple #[.int .i64 (numV s.data.toList), .bool true])) ∨ (¬ NumOk s.data.toList most ∧ e = .returned (.tuple #[.int .i64 0, .bool false]))) ∧ Below w.heap.size w w' := by
  rcases Nat.eq_zero_or_pos s.size with h | h
  · have he : s.data.toList = [] := List.eq_nil_of_length_eq_zero (by rw [← Lib.size_eq]; exact h)
    have hs' : s = ByteArray.empty := by
      apply ByteArray.ext
      apply Array.toList_inj.1
      rw [he]; rfl
    rw [hs']
    exact (number_none most w).mono fun e w' ⟨h1, h2⟩ => ⟨.inr ⟨fun h => h.1.1 rfl, h1⟩, h2⟩
  · exact number_pos s most w h hm1 hm2

end Go.Proofs.YtnejkfccdnadcaaDoor
end

section
namespace Go.Proofs.YtnejkfccdnadcaaDoor
open Go.RowKit Go.Shelf Go.Lib

/-- A word: where, which line, what. -/
structure Wd where
  p : Int
  q : Int
  t : ByteArray

def Wd.enc (x : Wd) : Value := .agg #[.int .i64 x.p, .int .i64 x.q, .string x.t]

def ws (c : UInt8) : Bool := [32, 9].contains c
def nws (c : UInt8) : Bool := !ws c

theorem dropWhile_len (f : UInt8 → Bool) (l : List UInt8) : (l.dropWhile f).length ≤ l.length := (List.dropWhile_suffix f).length_le
theorem takeWhile_len (f : UInt8 → Bool) (l : List UInt8) : (l.takeWhile f).length ≤ l.length := (List.takeWhile_prefix f).length_le

def lw : Nat → Nat → Nat → List UInt8 → List Wd
  | 0, _, _, _ => []
  | _ + 1, _, _, [] => []
  | k + 1, p, q, c :: l =>
    (if ((c :: l).dropWhile ws).takeWhile nws = [] then [] else [⟨((p + ((c :: l).length - ((c :: l).dropWhile ws).length) : Nat) : Int), (q : Int), ⟨(((c :: l).dropWhile ws).takeWhile nws).toArray⟩⟩]) ++
      lw k (p + ((c :: l).length - ((c :: l).dropWhile ws).length) + (((c :: l).dropWhile ws).takeWhile nws).length) q (((c :: l).dropWhile ws).drop (((c :: l).dropWhile ws).takeWhile nws).length)

/-- What is left behind a word is shorter. -/
theorem left_lt (c : UInt8) (l : List UInt8) : (((c :: l).dropWhile ws).drop (((c :: l).dropWhile ws).takeWhile nws).length).length < (c :: l).length := by
  have h1 := dropWhile_len ws (c :: l)
  by_cases hc : ws c
  · have : (c :: l).dropWhile ws = l.dropWhile ws := by simp [List.dropWhile, hc]
    rw [this, List.length_drop]
    have := dropWhile_len ws l
    simp; omega
  · have h2 : (c :: l).dropWhile ws = c :: l := by simp [List.dropWhile, hc]
    rw [h2, List.length_drop]
    have : 0 < ((c :: l).takeWhile nws).length := by simp [List.takeWhile, nws, hc]
    simp at this ⊢
    omega

theorem lw_fuel (q : Nat) : ∀ (k p : Nat) (l : List UInt8), l.length ≤ k → lw k p q l = lw l.length p q l := by
  intro k
  induction k using Nat.strongRecOn with
  | ind k ih =>
    intro p l hl
    cases l with
    | nil => cases k <;> rfl
    | cons c l =>
      obtain ⟨k', rfl⟩ : ∃ k', k = k' + 1 := ⟨k - 1, by simp at hl; omega⟩
      have hlt := left_lt c l
      have h1 := ih k' (by omega) (p + ((c :: l).length - ((c :: l).dropWhile ws).length) + (((c :: l).dropWhile ws).takeWhile nws).length)
        (((c :: l).dropWhile ws).drop (((c :: l).dropWhile ws).takeWhile nws).length) (Nat.le_trans (Nat.le_of_lt_succ hlt) (Nat.le_of_succ_le_succ hl))
      rw [show (c :: l).length = l.length + 1 from rfl]
      by_cases hk : k' = l.length
      · rw [hk]
      · have h2 := ih l.length (by simp at hl; omega) (p + ((c :: l).length - ((c :: l).dropWhile ws).length) + (((c :: l).dropWhile ws).takeWhile nws).length)
          (((c :: l).dropWhile ws).drop (((c :: l).dropWhile ws).takeWhile nws).length) (Nat.le_of_lt_succ hlt)
        unfold lw
        rw [h1, h2]

/-- The words of one line's part ahead of its note, from position p on. -/
def lwc (p q : Nat) (l : List UInt8) : List Wd := lw l.length p q l

theorem lwc_step (p q : Nat) (l : List UInt8) (h : l ≠ []) :
    lwc p q l = (if (l.dropWhile ws).takeWhile nws = [] then [] else [⟨((p + (l.length - (l.dropWhile ws).length) : Nat) : Int), (q : Int), ⟨((l.dropWhile ws).takeWhile nws).toArray⟩⟩]) ++
      lwc (p + (l.length - (l.dropWhile ws).length) + ((l.dropWhile ws).takeWhile nws).length) q ((l.dropWhile ws).drop ((l.dropWhile ws).takeWhile nws).length) := by
  cases l with
  | nil => exact absurd rfl h
  | cons c l =>
    unfold lwc
    have hlt := left_lt c l
    have h := lw_fuel q l.length (p + ((c :: l).length - ((c :: l).dropWhile ws).length) + (((c :: l).dropWhile ws).takeWhile nws).length) _ (Nat.le_of_lt_succ hlt)
    rw [← h]
    rfl

/-- The words of lines. -/
def linesW : Nat → Nat → List ByteArray → List Wd
  | _, _, [] => []
  | f, q, x :: xs => lwc f q (Lib.cut x.data.toList [35]).1 ++ linesW (f + x.size + 1) (q + 1) xs

/-- strings.IndexAny at a blank and a tab: where the word ends. -/
theorem idx_word : ∀ l : List UInt8, (Lib.indexAny l [32, 9] = -1 ∧ (l.takeWhile nws).length = l.length) ∨ Lib.indexAny l [32, 9] = ((l.takeWhile nws).length : Int) := by
  intro l
  induction l with
  | nil => left; exact ⟨rfl, rfl⟩
  | cons c l ih =>
    have hstep : Lib.indexAny (c :: l) [32, 9] = if ws c then 0 else if Lib.indexAny l [32, 9] == -1 then -1 else Lib.indexAny l [32, 9] + 1 := rfl
    rw [hstep]
    by_cases hc : ws c = true
    · right
      rw [if_pos hc]
      simp [List.takeWhile, nws, hc]
    · rw [if_neg hc]
      have ht : ((c :: l).takeWhile nws).length = (l.takeWhile nws).length + 1 := by
        have : nws c = true := by simp [nws, hc]
        rw [List.takeWhile_cons_of_pos this]; rfl
      rw [ht]
      rcases ih with ⟨h1, h2⟩ | h1
      · left; rw [h1]; exact ⟨rfl, by rw [h2]; rfl⟩
      · right
        rw [h1, if_neg (by simp)]
        simp

end Go.Proofs.YtnejkfccdnadcaaDoor
end

section
namespace Go.Proofs.YtnejkfccdnadcaaDoor
open Go.RowKit Go.Shelf Go.Lib

attribute [local go_sem] Oper.semAt_some

theorem ws_ascii : ∀ (j : Nat) b, wsB.data.toList[j]? = some b → b.toNat < 128 := by
  intro j b h
  have hm : b ∈ wsB.data.toList := List.mem_of_getElem? h
  have : wsB.data.toList = [32, 9] := rfl
  rw [this] at hm
  simp at hm
  rcases hm with rfl | rfl <;> decide

theorem trimLeft_any (s : ByteArray) (w : World) :
    Calls Tryd.prog 44 #[.string s, .string wsB] w fun e w' => e = .returned (.string ⟨(s.data.toList.dropWhile ws).toArray⟩) ∧ Below w.heap.size w w' :=
  Any.strings_TrimLeft_laid Tryd.lays161 (by kernel_rfl) s wsB w (by decide) ws_ascii

theorem indexAny_any (s : ByteArray) (w : World) (hs : s.size < 4294967281) :
    Calls Tryd.prog 45 #[.string s, .string wsB] w fun e w' => e = .returned (.int .i64 (Lib.indexAny s.data.toList [32, 9])) ∧ Below w.heap.size w w' := by
  rcases Nat.lt_or_ge 8 s.size with h | h
  · exact (Tryd.strings_IndexAny_long (zero_of_info (P := Tryd.prog) (v := .agg (Array.replicate 256 (.bool false))) (n := 256) (by kernel_rfl)).1 s wsB w (by decide) h hs (by decide) ws_ascii).mono fun e w' ⟨he, hw⟩ =>
      ⟨he, by rw [hw]; exact ((Below.refl _ w).alloc (Nat.le_refl _) _).alloc (by simp) _⟩
  · exact indexAny_short s w h

/-- Every block of cells of the type t stays as_ it is. -/
def KeepsT (t : TypeId) (W W' : World) : Prop := ∀ (k : Nat) (cs : Array Value) (fr : Nat × Nat), W.heap[k]? = some (.cells cs t fr) → W'.heap[k]? = some (.cells cs t fr)

/-- What a round that goes on keeps: what lay below n₀, and every row of strings. -/
def KeepsW (n₀ : Nat) (W W' : World) : Prop := Below n₀ W W' ∧ KeepsT 9 W W'

theorem keepsW_t {n₀ : Nat} {A B C : World} (h : KeepsW n₀ A B) (k : KeepsW n₀ B C) : KeepsW n₀ A C := ⟨h.1.trans k.1, fun i cs fr e => k.2 i cs fr (h.2 i cs fr e)⟩

theorem keepsW_b {n₀ : Nat} {w : World} (hn : n₀ ≤ w.heap.size) (W : World) (l : Nat) (o o' : Obj) (hl : w.heap.size ≤ l) (h : W.heap[l]? = some o) (hc : o.isCells = false) (hw : o.isWalk = false) : KeepsW n₀ W (W.putObj l o') := by
  refine ⟨belowK_b hn W l o o' hl h hc hw, fun k cs fr e => ?_⟩
  have hkl : k ≠ l := by
    rintro rfl
    rw [h] at e
    cases e
    cases hc
  exact (World.putObj_heap_other hkl).trans e

theorem grown_none {w w1 : World} (h : Below w.heap.size w w1) : w.grownBy w1 none := ⟨h.os, h.tape, h.output, h.size, fun i hi _ => h.block i hi⟩

theorem split_any (s : ByteArray) (m : Int) (w : World) (hs : s.size < 4294967281) (hm : w.cell? ⟨1, 0, none⟩ = some (.int .i64 m)) :
    Calls Tryd.prog 42 #[.string s, .string ⟨#[10]⟩] w fun e w' =>
      e = .returned (.slice (some ⟨w.heap.size, 0, none⟩) (Lib.splitB ⟨#[10]⟩ 0 (Lib.countB s ⟨#[10]⟩) s).length (Lib.splitB ⟨#[10]⟩ 0 (Lib.countB s ⟨#[10]⟩) s).length) ∧
      w' = w.alloc (.cells ((Lib.splitB ⟨#[10]⟩ 0 (Lib.countB s ⟨#[10]⟩) s).map Value.string).toArray 9) :=
  (Tryd.strings_Split s ⟨#[10]⟩ m w hs hm (by decide)).mono fun e w' ⟨he, hw⟩ => ⟨by rw [he, Lib.splitB_all ⟨#[10]⟩ (by decide) 0 _ s rfl], hw⟩

theorem cut_any (s : ByteArray) (m : Int) (w : World) (hs : s.size < 4294967281) (hm : w.cell? ⟨1, 0, none⟩ = some (.int .i64 m)) :
    Calls Tryd.prog 43 #[.string s, .string ⟨#[35]⟩] w fun e w' =>
      (∃ r b, e = .returned (.tuple #[.string ⟨(Lib.cut s.data.toList [35]).1.toArray⟩, .string r, .bool b])) ∧ Below w.heap.size w w' :=
  (Tryd.strings_Cut s ⟨#[35]⟩ m w hs hm).mono fun e w' ⟨he, n, hw⟩ => ⟨⟨_, _, he⟩, by rw [hw]; exact below_drewN (Below.refl _ _) _⟩

theorem cut_len (a b : List UInt8) : (Lib.cut a b).1.length ≤ a.length := by
  unfold Lib.cut
  split
  · simp [List.length_take]; omega
  · exact Nat.le_refl _

theorem skip_ok {n a p : Nat} (h : a ≤ n - p) (hn : n ≤ 1000000) : IntKind.i64.wrap ((((n - p : Nat)) : Int) - (a : Int)) = (((n - p - a : Nat)) : Int) := by
  rw [IntKind.wrap_i64]
  omega

theorem drop_suffix {l r : List UInt8} (h : r <:+ l) : l.drop (l.length - r.length) = r := (List.suffix_iff_eq_drop.1 h).symm

theorem word_text (sd : ByteArray) (P1 : Nat) (R1 : List UInt8) (h : sd.data.toList.drop P1 = R1) : (⟨(R1.takeWhile nws).toArray⟩ : ByteArray) = sd.extract P1 (P1 + (R1.takeWhile nws).length) := by
  have h2 : R1.take (R1.takeWhile nws).length = R1.takeWhile nws := (List.prefix_iff_eq_take.1 (List.takeWhile_prefix nws)).symm
  apply ByteArray.ext
  apply Array.toList_inj.1
  rw [ByteArray.data_extract, Array.toList_extract, List.extract_eq_take_drop, h]
  rw [Nat.add_sub_cancel_left, h2]

/-- One word's step, at the part of the line from p on. -/
theorem word_step (f p q : Nat) (sd : ByteArray) (R1 : List UInt8) (hp : p < sd.size) (hR : (sd.data.toList.drop p).dropWhile ws = R1) :
    sd.data.toList.drop (p + (sd.size - p - R1.length)) = R1 ∧
    lwc (f + p) q (sd.data.toList.drop p) = (if (R1.takeWhile nws).length = 0 then [] else [⟨(f : Int) + ((p + (sd.size - p - R1.length) : Nat) : Int), (q : Int), sd.extract (p + (sd.size - p - R1.length)) (p + (sd.size - p - R1.length) + (R1.takeWhile nws).length)⟩]) ++
      lwc (f + (p + (sd.size - p - R1.length) + (R1.takeWhile nws).length)) q (sd.data.toList.drop (p + (sd.size - p - R1.length) + (R1.takeWhile nws).length)) ∧
    R1.length - (R1.takeWhile nws).length < sd.size - p := by
  have hlen : (sd.data.toList.drop p).length = sd.size - p := by rw [List.length_drop, ← Lib.size_eq]
  have hsuf : R1 <:+ sd.data.toList.drop p := by rw [← hR]; exact List.dropWhile_suffix ws
  have hd := drop_suffix hsuf
  rw [hlen, List.drop_drop] at hd
  have hne : sd.data.toList.drop p ≠ [] := by
    intro e
    rw [e] at hlen
    simp at hlen
    omega
  refine ⟨hd, ?_, ?_⟩
  · rw [lwc_step _ _ _ hne, hR, hlen]
    rw [word_text sd _ R1 hd]
    have hdd : sd.data.toList.drop (p + (sd.size - p - R1.length) + (R1.takeWhile nws).length) = R1.drop (R1.takeWhile nws).length := by
      rw [← List.drop_drop, hd]
    rw [hdd]
    have e1 : f + p + (sd.size - p - R1.length) = f + (p + (sd.size - p - R1.length)) := by omega
    have e2 : f + p + (sd.size - p - R1.length) + (R1.takeWhile nws).length = f + (p + (sd.size - p - R1.length) + (R1.takeWhile nws).length) := by omega
    rw [e2, e1]
    congr 1
    simp only [List.length_eq_zero_iff]
    rw [Int.natCast_add f]
  · obtain ⟨c, l, hcl⟩ : ∃ c l, sd.data.toList.drop p = c :: l := by
      cases h : sd.data.toList.drop p with
      | nil => exact absurd h hne
      | cons c l => exact ⟨c, l, rfl⟩
    have h := left_lt c l
    rw [← hcl, hR, hlen, List.length_drop] at h
    exact h

set_option maxRecDepth 100000 in
set_option maxHeartbeats 4000000 in
/-- lex.words's closure, for every loop body that keeps what lay below n₀ and every row of strings. -/
theorem words1_in (l Bs n₀ : Nat) (s : ByteArray) (hs : s.size ≤ 65536) (m : Int) (L : List ByteArray) (hL : Lib.splitB ⟨#[10]⟩ 0 (Lib.countB s ⟨#[10]⟩) s = L) (hsum : (L.map fun x => x.size + 1).sum ≤ 1000000) (hLl : L.length ≤ 1000000)
    (J Jx : List Wd → World → Prop) (hmn : 1 < n₀) (all : List Wd) (hall : linesW 0 1 L = all)
    (hY : ∀ pre x W, J pre W → pre ++ [x] <+: all → YieldAt Fence.wide 0 Tryd.prog l #[x.enc] W fun e W' =>
      (e = .returned (.bool true) ∧ J (pre ++ [x]) W' ∧ KeepsW n₀ W W') ∨ (e = .returned (.bool false) ∧ Jx (pre ++ [x]) W'))
    (W : World) (hJ : AbidesFrom W.heap.size J) (hBs : W.cell? ⟨Bs, 0, none⟩ = some (.string s)) (hn : n₀ ≤ W.heap.size)
    (hm : W.cell? ⟨1, 0, none⟩ = some (.int .i64 m)) (h0 : J [] W) :
    CallsIn Fence.wide 1 Tryd.prog 41 #[.func (.yield l) #[] #[], .pointer (some ⟨Bs, 0, none⟩)] W fun e W' => (∃ v, e = .returned v) ∧
      ((∃ ys, ys = all ∧ J ys W') ∨ (∃ pre, pre <+: all ∧ Jx pre W')) := by
  have hsplit := split_any s m W (by omega) hm
  rw [hL] at hsplit
  have hY' := Lib.hid hY
  have hJ' := Lib.hid hJ
  clear hY hJ
  refine callsIn_of_wp Tryd.func41 rfl trivial ?_ rfl
  simp only [Tryd.ntmps41, List.size_toArray, List.length_cons, List.length_nil, Nat.reduceAdd, Nat.reduceSub, Array.replicate_succ, Array.replicate_zero, List.push_toArray, List.append_toArray, List.nil_append, List.cons_append]
  gi_wp2_with (refine ⟨trivial, ?_⟩; gi_at_call 42; refine (callsIn_wide.2 hsplit).mono ?_; rintro e w' ⟨rfl, rfl⟩)
  obtain ⟨B, hB⟩ : ∃ B, W.heap.size = B := ⟨_, rfl⟩
  have hnew := heap_alloc_new W (.cells (L.map Value.string).toArray 9)
  have hJ0 := hJ'.out [] W (W.alloc (.cells (L.map Value.string).toArray 9)) none h0 (grown_none ((Below.refl _ W).alloc (Nat.le_refl _) _)) (fun r e => by cases e)
  have hall' := Lib.hid hall
  have hsum' := Lib.hid hsum
  have hW0 := (Below.refl n₀ W).alloc hn (.cells (L.map Value.string).toArray 9)
  have hBsz : B < (W.alloc (.cells (L.map Value.string).toArray 9)).heap.size := by simp; omega
  rw [hB] at hnew
  generalize (W.alloc (.cells (L.map Value.string).toArray 9)) = W1 at hnew hJ0 hW0 hBsz
  clear hall hsum hL hsplit
  rw [hB]
  gi_loopw [3, 15] (fun v3 v15 wr => ∃ (i f : Nat) (pre : List Wd), v3 = .int .i64 f ∧ v15 = .int .i64 i ∧ i ≤ L.length ∧ J pre wr ∧ Hid (all = pre ++ linesW f (i + 1) (L.drop i)) ∧
      Hid (f + ((L.drop i).map fun x => x.size + 1).sum ≤ 1000000) ∧ wr.heap[B]? = some (.cells (L.map Value.string).toArray 9 (0, 0)) ∧ Below n₀ W wr)
    (fun _ v15 _ => L.length - (RowKit.intOf v15).toNat)
  case atStart => exact ⟨0, 0, [], rfl, rfl, Nat.zero_le _, hJ0, Lib.hid (by rw [← hall'.out]; rfl), Lib.hid (by simpa using hsum'.out), hnew, hW0⟩
  case round =>
    obtain ⟨i, f, pre, rfl, rfl, hi, hJs, hal, hsm, hblk, hbw⟩ := hrel
    by_cases hil : i < L.length
    · obtain ⟨x, hx⟩ : ∃ x, L[i]? = some x := ⟨L[i], by simp [hil]⟩
      have hcell : wr.cell? ⟨B, i, none⟩ = some (.string x) := by
        simp [World.cell?, hblk, hx]
      have hdrop : L.drop i = x :: L.drop (i + 1) := by
        rw [List.drop_eq_getElem_cons hil]
        rw [List.getElem?_eq_getElem hil] at hx
        cases hx; rfl
      have hsx : f + (x.size + 1 + ((L.drop (i + 1)).map fun x => x.size + 1).sum) ≤ 1000000 := by
        have := hsm.out
        rw [hdrop] at this
        simpa using this
      have hmr : wr.cell? ⟨1, 0, none⟩ = some (.int .i64 m) := (hbw.cell (p := ⟨1, 0, none⟩) hmn).trans hm
      have hcut := Lib.hid (cut_any x m wr (by omega) hmr)
      clear hmr hx
      gi_wp2_with (refine ⟨trivial, ?_⟩; gi_at_call 43; refine (callsIn_wide.2 hcut.out).mono ?_; rintro e wc ⟨⟨r, bb, rfl⟩, hbc⟩)
      have hJc := hJ'.out pre wr wc none hJs (grown_none hbc) (fun r e => by cases e)
      have hblk' : wc.heap[B]? = some (.cells (L.map Value.string).toArray 9 (0, 0)) := (hbc.block B (lt_of_block hblk)).trans hblk
      have hbw' := hbw.trans (hbc.mono (Nat.le_trans hn hbw.size))
      have hcl := cut_len x.data.toList [35]
      have hal' : Hid (all = pre ++ (lwc f (i + 1) (Lib.cut x.data.toList [35]).1 ++ linesW (f + x.size + 1) (i + 1 + 1) (L.drop (i + 1)))) := Lib.hid (by rw [hal.out, hdrop]; rfl)
      clear hcell hdrop hcut hJs hblk hbw hal hsm
      obtain ⟨S, hS⟩ : ∃ S, (Lib.cut x.data.toList [35]).1 = S := ⟨_, rfl⟩
      rw [hS] at hal' hcl ⊢
      clear hS
      obtain ⟨sd, hsd⟩ : ∃ sd : ByteArray, sd = ⟨S.toArray⟩ := ⟨_, rfl⟩
      have hSd : S = sd.data.toList := by rw [hsd]
      rw [← hsd]
      rw [hSd] at hal' hcl
      clear hsd hSd S
      gi_loopw [9] (fun v9 wi => ∃ (p : Nat) (pre : List Wd), v9 = .int .i64 p ∧ p ≤ sd.size ∧ J pre wi ∧
          Hid (all = pre ++ (lwc (f + p) (i + 1) (sd.data.toList.drop p) ++ linesW (f + x.size + 1) (i + 1 + 1) (L.drop (i + 1)))) ∧
          wi.heap[B]? = some (.cells (L.map Value.string).toArray 9 (0, 0)) ∧ Below n₀ W wi)
        (fun v9 _ => sd.size - (RowKit.intOf v9).toNat)
      case atStart => exact ⟨0, pre, rfl, Nat.zero_le _, hJc, hal', hblk', hbw'⟩
      case round =>
        clear hJc hblk' hbw' hal' hbc
        obtain ⟨p, pre', rfl, hp, hJi, hali, hblki, hbwi⟩ := hrel
        rename World => wi
        by_cases hps : p < sd.size
        · obtain ⟨R1, hR1⟩ : ∃ R1, (sd.data.toList.drop p).dropWhile ws = R1 := ⟨_, rfl⟩
          have hR1l : R1.length ≤ sd.size - p := by
            have h := dropWhile_len ws (sd.data.toList.drop p)
            rw [hR1, List.length_drop, ← Lib.size_eq] at h
            exact h
          have htl : Hid (∀ w, Calls Tryd.prog 44 #[.string (sd.extract p sd.size), .string ⟨#[32, 9]⟩] w fun e w' => e = .returned (.string ⟨R1.toArray⟩) ∧ Below w.heap.size w w') :=
            Lib.hid (fun w => (trimLeft_any (sd.extract p sd.size) w).mono fun e w' ⟨he, hb⟩ => ⟨by rw [he, extract_to_end, hR1], hb⟩)
          obtain ⟨tr, htr⟩ : ∃ tr : ByteArray, tr = ⟨R1.toArray⟩ := ⟨_, rfl⟩
          have htrs : tr.size = R1.length := by rw [htr]; rfl
          rw [← htr] at htl
          have HR1 := Lib.hid hR1
          clear hR1 htr
          have hsd6 : sd.size ≤ 1000000 := by rw [← Lib.size_eq, ← Lib.size_eq] at hcl; omega
          gi_upto_region 7 with (fail)
          gi_cut [10] from 81 (fun v10 wx => v10 = .int .i64 ((sd.size - p - R1.length : Nat) : Int) ∧ Below wi.heap.size wi wx)
          case first =>
            gi_region_with (refine ⟨trivial, ?_⟩; gi_at_call 44; refine (callsIn_wide.2 (htl.out _)).mono ?_; rintro e wt ⟨rfl, hbt⟩)
            all_goals gi_wp2
            all_goals gi_meet
            all_goals exact ⟨by rw [skip_ok hR1l hsd6], (below_drewN (Below.refl _ wi) 1).trans hbt⟩
          case rest =>
            obtain ⟨rfl, hbx⟩ := hcut
            rename World => wx
            have hJx := hJ'.out pre' wi wx none hJi (grown_none hbx) (fun r e => by cases e)
            have hblkx := (hbx.block B (lt_of_block hblki)).trans hblki
            have hbwx := hbwi.trans (hbx.mono (Nat.le_trans hn hbwi.size))
            obtain ⟨N, hN⟩ : ∃ N, (R1.takeWhile nws).length = N := ⟨_, rfl⟩
            have hword := word_step f p (i + 1) sd R1 hps HR1.out
            rw [hN] at hword
            have hNR : N ≤ R1.length := by rw [← hN]; exact takeWhile_len nws R1
            obtain ⟨P1, hP1⟩ : ∃ P1, p + (sd.size - p - R1.length) = P1 := ⟨_, rfl⟩
            rw [hP1] at hword
            have hP1s : P1 + R1.length = sd.size := by omega
            obtain ⟨K, hK⟩ : ∃ K, sd.size - p - R1.length = K := ⟨_, rfl⟩
            rw [hK] at hP1 ⊢
            have hPK : (p : Int) + (K : Int) = (P1 : Int) := by omega
            have hidx : Hid (∀ w, Calls Tryd.prog 45 #[.string (sd.extract P1 sd.size), .string ⟨#[32, 9]⟩] w fun e w' => (∃ k : Int, e = .returned (.int .i64 k) ∧ (k = -1 ∧ N = R1.length ∨ k = (N : Int))) ∧ Below w.heap.size w w') :=
              Lib.hid (fun w => (indexAny_any (sd.extract P1 sd.size) w (by simp; omega)).mono fun e w' ⟨he, hb⟩ => ⟨⟨_, he, by
                rw [extract_to_end, hword.1]
                rcases idx_word R1 with ⟨h1, h2⟩ | h1
                · left; exact ⟨h1, by rw [← hN, h2]⟩
                · right; rw [h1, hN]⟩, hb⟩)
            have hWD := Lib.hid hword
            clear hword htl hbx hJi hblki hbwi htrs
            gi_upto_if 48 with (refine ⟨trivial, ?_⟩; gi_at_call 45; refine (callsIn_wide.2 (hidx.out _)).mono ?_; rintro e wt ⟨⟨k, rfl, hk⟩, hbt⟩)
            gi_cut [11] from 81 (fun v11 wy => v11 = .int .i64 (N : Int) ∧ wt = wy)
            case first =>
              rcases hk with ⟨rfl, hk⟩ | rfl
              · gi_wp2
                gi_meet
                have e : (sd.size : Int) - (P1 : Int) = (N : Int) := by omega
                exact ⟨by rw [e], rfl⟩
              · gi_wp2
                gi_meet
                exact ⟨rfl, rfl⟩
            case rest =>
              obtain ⟨rfl, rfl⟩ := hcut
              have hJt := hJ'.out pre' wx wt none hJx (grown_none hbt) (fun r e => by cases e)
              have hblkt := (hbt.block B (lt_of_block hblkx)).trans hblkx
              have hbwt := hbwx.trans (hbt.mono (Nat.le_trans hn hbwx.size))
              clear hbt hJx hblkx hbwx hk hidx
              have hWD2 := hWD.out.2
              by_cases hN0 : N = 0
              · rw [if_pos hN0, List.nil_append] at hWD2
                have hal3 : Hid (all = pre' ++ (lwc (f + (P1 + N)) (i + 1) (sd.data.toList.drop (P1 + N)) ++ linesW (f + x.size + 1) (i + 1 + 1) (L.drop (i + 1)))) := Lib.hid (by rw [hali.out, hWD2.1])
                have hlt := hWD2.2
                clear hWD2
                subst hN0
                gi_wp2
                refine ⟨fun _ h => (by cases h), ?_⟩
                gi_wp2
                go_roundw
                case rel => exact ⟨P1, pre', rfl, by omega, hJt, hal3, hblkt, hbwt⟩
                case measure => simp [RowKit.intOf]; omega
              · rw [if_neg hN0] at hWD2
                have hal3 : Hid (all = (pre' ++ [⟨(f : Int) + (P1 : Int), ((i + 1 : Nat) : Int), sd.extract P1 (P1 + N)⟩]) ++ (lwc (f + (P1 + N)) (i + 1) (sd.data.toList.drop (P1 + N)) ++ linesW (f + x.size + 1) (i + 1 + 1) (L.drop (i + 1)))) :=
                  Lib.hid (by rw [hali.out, hWD2.1]; simp [List.append_assoc])
                have hlt := hWD2.2
                clear hWD2
                have hP2 : P1 + N ≤ sd.size := by omega
                obtain ⟨fn, tmps, assign, body, hy, hR⟩ := hY'.out pre' ⟨(f : Int) + (P1 : Int), ((i + 1 : Nat) : Int), sd.extract P1 (P1 + N)⟩ wt hJt (by rw [hal3.out]; simp)
                dsimp only [Wd.enc] at hy
                have hq : ((i + 1 : Nat) : Int) = (i : Int) + 1 := by omega
                rw [hq] at hy
                have hxx : sd.size ≤ x.size := by rw [← Lib.size_eq, ← Lib.size_eq] at hcl; exact hcl
                gi_wp2
                refine hR.mono ?_
                rintro e W3 (⟨rfl, hJ3, hk3⟩ | ⟨rfl, hJx3⟩)
                · gi_wp2
                  go_roundw
                  case rel => exact ⟨P1 + N, _, by simp, hP2, hJ3, hal3, hk3.2 _ _ _ hblkt, hbwt.trans hk3.1⟩
                  case measure => simp [RowKit.intOf]; omega
                · gi_wp2
                  refine bodyPost_ret (results_none rfl _ _ _) rfl ?_
                  exact ⟨⟨_, rfl⟩, .inr ⟨_, ⟨_, hal3.out.symm⟩, hJx3⟩⟩
        · have hps' : p = sd.size := by omega
          subst hps'
          have hal4 : Hid (all = pre' ++ linesW (f + x.size + 1) (i + 1 + 1) (L.drop (i + 1))) := Lib.hid (by
            have h := hali.out
            rw [List.drop_eq_nil_of_le (by rw [← Lib.size_eq]; exact Nat.le_refl _)] at h
            exact h)
          gi_wp2
          go_roundw
          case rel => exact ⟨i + 1, f + x.size + 1, pre', by congr 1, by congr 1, hil, hJi, hal4, Lib.hid (by omega), hblki, hbwi⟩
          case measure => simp [RowKit.intOf]; omega
    · have hil' : i = L.length := by omega
      subst hil'
      have hal5 : all = pre := by
        have h := hal.out
        rw [List.drop_length] at h
        simpa [linesW] using h
      clear hal hsm
      gi_wp2
      go_end0
      exact ⟨⟨_, rfl⟩, .inl ⟨_, rfl, by rw [hal5]; exact hJs⟩⟩

end Go.Proofs.YtnejkfccdnadcaaDoor
end

section
namespace Go.Proofs.YtnejkfccdnadcaaDoor
open Go.RowKit Go.Shelf Go.Lib

attribute [local go_sem] Oper.semAt_some

def Wd.cells (x : Wd) : List Value := [.int .i64 x.p, .int .i64 x.q, .string x.t]

/-- The words of a text. -/
def textW (s : ByteArray) : List Wd := linesW 0 1 (Lib.splitB ⟨#[10]⟩ 0 (Lib.countB s ⟨#[10]⟩) s)

theorem keepsT_alloc {q : TypeId} (W : World) (o : Obj) : KeepsT q W (W.alloc o) := fun k _ _ h => (Below.heap_alloc W o k (lt_of_block h)).trans h

set_option maxHeartbeats 1000000 in
/-- lex.words(s): the text is boxed; the function value captures the box. -/
theorem words_in (n : Nat) (s : ByteArray) (w : World) :
    CallsIn Fence.wide n Tryd.prog 34 #[.string s] w fun e w' => e = .returned (.func (.func 41) #[] #[.pointer (some ⟨w.heap.size, 0, none⟩)]) ∧ w' = w.alloc (.cells #[.string s] 9) := by
  refine callsIn_of_wp Tryd.func34 rfl trivial ?_ rfl
  simp only [Tryd.ntmps34, List.size_toArray, List.length_cons, List.length_nil, Nat.reduceAdd, Nat.reduceSub, Array.replicate_succ, Array.replicate_zero, List.push_toArray, List.append_toArray, List.nil_append, List.cons_append]
  gi_wp2
  go_ret
  exact ⟨rfl, rfl⟩

theorem infoW : (Tryd.prog.info? 77).map (fun i => (i.zero, i.size, i.bytes)) = some (some (.agg #[.int .i64 0, .int .i64 0, .string ⟨#[]⟩]), 3, 32) := by kernel_rfl

theorem three_new (W : World) (a b c : Value) (t : TypeId) : ∀ (j : Nat) (u : Value), [a, b, c][j]? = some u → (W.alloc (.cells #[a, b, c] t)).cell? (Addr.add ⟨W.heap.size, 0, none⟩ j) = some u := by
  intro j u h
  have hb := heap_alloc_new W (.cells #[a, b, c] t)
  generalize W.alloc (.cells #[a, b, c] t) = W1 at hb ⊢
  rcases j with _ | _ | _ | j
  · simpa [World.cell?, Addr.add, hb] using h
  · simpa [World.cell?, Addr.add, hb] using h
  · simpa [World.cell?, Addr.add, hb] using h
  · simp at h

theorem ownsRow_base {w : World} {b c : Nat} {e : TypeId} {size : Nat} {v : Value} {n : Nat} {xs : List Value} (h : w.ownsRow b e size v n xs) (hc : c ≤ b) : w.ownsRow c e size v n xs := by
  obtain ⟨h1, h2⟩ := h
  refine ⟨h1, ?_⟩
  rcases h2 with h2 | ⟨g, cap, cur, hv, hg, r⟩
  · exact .inl h2
  · exact .inr ⟨g, cap, cur, hv, Nat.le_trans hc hg, r⟩

theorem cell_lt {w : World} {p : Addr} {v : Value} (h : w.cell? p = some v) : p.block < w.heap.size := by
  obtain ⟨o, ho, _⟩ := not_walk_of_cell h
  exact (Array.getElem?_eq_some_iff.1 ho).1

theorem splitB_sum : ∀ (k : Nat) (s : ByteArray), ((Lib.splitB ⟨#[10]⟩ 0 k s).map fun x => x.size + 1).sum ≤ s.size + 1 := by
  intro k
  induction k with
  | zero => intro s; simp [Lib.splitB_zero]
  | succ k ih =>
    intro s
    rcases indexB_cases s ⟨#[10]⟩ with hix | ⟨i, hix, hroom⟩
    · rw [Lib.splitB_miss _ _ _ _ hix]; simp
    · rw [Lib.splitB_hit _ _ _ _ i hix]
      have h1 : (ByteArray.mk #[10]).size = 1 := rfl
      rw [h1] at hroom ⊢
      have h2 := ih (s.extract (i + 1) s.size)
      simp at h2 ⊢
      omega

theorem sum_len (L : List ByteArray) : L.length ≤ (L.map fun x => x.size + 1).sum := by
  induction L with
  | nil => simp
  | cons x L ih => simp at ih ⊢; omega

theorem lw_len (q : Nat) : ∀ (k p : Nat) (l : List UInt8), (lw k p q l).length ≤ k := by
  intro k
  induction k with
  | zero => intro p l; exact Nat.le_refl 0
  | succ k ih =>
    intro p l
    cases l with
    | nil => exact Nat.zero_le _
    | cons c l =>
      unfold lw
      rw [List.length_append]
      have := ih (p + ((c :: l).length - ((c :: l).dropWhile ws).length) + (((c :: l).dropWhile ws).takeWhile nws).length) (((c :: l).dropWhile ws).drop (((c :: l).dropWhile ws).takeWhile nws).length)
      split
      · rw [List.length_nil]; omega
      · rw [List.length_singleton]; omega

theorem linesW_len : ∀ (L : List ByteArray) (f q : Nat), (linesW f q L).length ≤ (L.map fun x => x.size + 1).sum := by
  intro L
  induction L with
  | nil => intro f q; exact Nat.le_refl 0
  | cons x L ih =>
    intro f q
    unfold linesW
    rw [List.length_append]
    have h1 := lw_len q (Lib.cut x.data.toList [35]).1.length f (Lib.cut x.data.toList [35]).1
    have h2 := cut_len x.data.toList [35]
    rw [← Lib.size_eq] at h2
    have h3 := ih (f + x.size + 1) (q + 1)
    unfold lwc
    simp at h3 ⊢
    omega

theorem textW_len (s : ByteArray) : (textW s).length ≤ s.size + 1 := Nat.le_trans (linesW_len _ _ _) (splitB_sum _ s)

end Go.Proofs.YtnejkfccdnadcaaDoor
end

section
namespace Go.Proofs.YtnejkfccdnadcaaDoor
open Go.RowKit Go.Shelf Go.Lib

/-- A slice of words in memory, below block B. -/
def WRow (w : World) (B : Nat) (A : Option Addr) (L : List Wd) : Prop :=
  0 < L.length → ∃ b off, A = some ⟨b, off, none⟩ ∧ b < B ∧ ∀ i (h : i < L.length),
    w.cell? ⟨b, off + i * 3, none⟩ = some (.int .i64 L[i].p) ∧ w.cell? ⟨b, off + i * 3 + 1, none⟩ = some (.int .i64 L[i].q) ∧ w.cell? ⟨b, off + i * 3 + 2, none⟩ = some (.string L[i].t)

theorem WRow.below {w w' : World} {B C : Nat} {A : Option Addr} {L : List Wd} (h : WRow w B A L) (hb : Below C w w') (hBC : B ≤ C) : WRow w' B A L := by
  intro hl
  obtain ⟨b, off, e, hlt, hc⟩ := h hl
  refine ⟨b, off, e, hlt, fun i hi => ?_⟩
  obtain ⟨h0, h1, h2⟩ := hc i hi
  exact ⟨(hb.cell (p := ⟨b, _, none⟩) (by show b < C; omega)).trans h0, (hb.cell (p := ⟨b, _, none⟩) (by show b < C; omega)).trans h1, (hb.cell (p := ⟨b, _, none⟩) (by show b < C; omega)).trans h2⟩

theorem WRow.more {w : World} {B C : Nat} {A : Option Addr} {L : List Wd} (h : WRow w B A L) (hBC : B ≤ C) : WRow w C A L := by
  intro hl
  obtain ⟨b, off, e, hlt, hc⟩ := h hl
  exact ⟨b, off, e, by omega, hc⟩

theorem wcells_at (L : List Wd) : ∀ i (h : i < L.length), (L.flatMap Wd.cells)[i * 3]? = some (.int .i64 L[i].p) ∧ (L.flatMap Wd.cells)[i * 3 + 1]? = some (.int .i64 L[i].q) ∧ (L.flatMap Wd.cells)[i * 3 + 2]? = some (.string L[i].t) := by
  induction L with
  | nil => intro i h; simp at h
  | cons x r ih =>
    intro i h
    cases i with
    | zero => simp [Wd.cells]
    | succ j =>
      obtain ⟨a, b, c⟩ := ih j (by simpa using h)
      have e : ∀ m, (Wd.cells x ++ List.flatMap Wd.cells r)[m + 3]? = (List.flatMap Wd.cells r)[m]? := fun m => by simp [Wd.cells]
      simp only [List.flatMap_cons, List.getElem_cons_succ]
      refine ⟨?_, ?_, ?_⟩
      · rw [show (j + 1) * 3 = j * 3 + 3 by omega, e]; exact a
      · rw [show (j + 1) * 3 + 1 = (j * 3 + 1) + 3 by omega, e]; exact b
      · rw [show (j + 1) * 3 + 2 = (j * 3 + 2) + 3 by omega, e]; exact c

/-- What the call's own row of words gives to a reader. -/
theorem wrow_own {w : World} {base : Nat} {e : TypeId} {v : Value} {L : List Wd} (h : w.ownsRow base e 3 v L.length (L.flatMap Wd.cells)) :
    ∃ A cap, v = .slice A L.length cap ∧ L.length ≤ cap ∧ (A = none → cap = 0) ∧ WRow w w.heap.size A L := by
  rcases h.2 with ⟨rfl, h0⟩ | ⟨g, cap, cur, rfl, _, hg, hnc, _⟩
  · exact ⟨_, _, by rw [h0], by omega, fun _ => rfl, fun h => by omega⟩
  · refine ⟨_, cap, rfl, hnc, (fun h => by cases h), fun _ => ⟨g, 0, rfl, lt_of_block hg, fun i hi => ?_⟩⟩
    obtain ⟨a, b, c⟩ := wcells_at L i hi
    have hc := h.cells (g := g) rfl
    have ha : ∀ j, (⟨g, 0, none⟩ : Addr).add j = ⟨g, 0 + j, none⟩ := fun j => by unfold Addr.add; split <;> simp_all
    exact ⟨by have := hc _ _ a; rwa [ha] at this, by have := hc _ _ b; rwa [ha] at this, by have := hc _ _ c; rwa [ha] at this⟩

end Go.Proofs.YtnejkfccdnadcaaDoor
end

section
namespace Go.Proofs.YtnejkfccdnadcaaDoor
open Go.RowKit Go.Shelf Go.Lib

/-- A word under way. -/
def emit (q : Nat) : Option (Nat × List UInt8) → List Wd
  | none => []
  | some (p, t) => [⟨p, q, ⟨t.toArray⟩⟩]

def grow (i : Nat) (c : UInt8) : Option (Nat × List UInt8) → Option (Nat × List UInt8)
  | none => some (i, [c])
  | some (p, t) => some (p, t ++ [c])

/-- The text byte by byte, as_ the document says it. -/
def scan (q : Nat) (off : Bool) (cur : Option (Nat × List UInt8)) (i : Nat) : List UInt8 → List Wd
  | [] => emit q cur
  | c :: l =>
    if c = 10 then emit q cur ++ scan (q + 1) false none (i + 1) l
    else if (off || c == 35) = true then emit q cur ++ scan q true none (i + 1) l
    else if ws c = true then emit q cur ++ scan q off none (i + 1) l
    else scan q off (grow i c cur) (i + 1) l

/-- A line's part ahead of its note. -/
def scanL (q : Nat) (cur : Option (Nat × List UInt8)) (i : Nat) : List UInt8 → List Wd
  | [] => emit q cur
  | c :: l => if ws c = true then emit q cur ++ scanL q none (i + 1) l else scanL q (grow i c cur) (i + 1) l

theorem scanL_blank (q : Nat) : ∀ (l : List UInt8) (i : Nat), scanL q none i l = scanL q none (i + (l.length - (l.dropWhile ws).length)) (l.dropWhile ws) := by
  intro l
  induction l with
  | nil => intro i; rfl
  | cons c l ih =>
    intro i
    by_cases hc : ws c = true
    · have h1 : (c :: l).dropWhile ws = l.dropWhile ws := List.dropWhile_cons_of_pos hc
      have h2 := dropWhile_len ws l
      rw [h1]
      have h3 : i + ((c :: l).length - (l.dropWhile ws).length) = (i + 1) + (l.length - (l.dropWhile ws).length) := by simp; omega
      rw [h3, ← ih (i + 1)]
      simp [scanL, hc, emit]
    · have h1 : (c :: l).dropWhile ws = c :: l := List.dropWhile_cons_of_neg hc
      rw [h1]
      simp

theorem scanL_word (q : Nat) : ∀ (l : List UInt8) (p i : Nat) (t : List UInt8), scanL q (some (p, t)) i l = ⟨p, q, ⟨(t ++ l.takeWhile nws).toArray⟩⟩ :: scanL q none (i + (l.takeWhile nws).length) (l.drop (l.takeWhile nws).length) := by
  intro l
  induction l with
  | nil => intro p i t; simp [scanL, emit]
  | cons c l ih =>
    intro p i t
    by_cases hc : ws c = true
    · have h1 : (c :: l).takeWhile nws = [] := by simp [nws, hc]
      rw [h1]
      simp [scanL, hc, emit]
    · have h1 : (c :: l).takeWhile nws = c :: l.takeWhile nws := by
        have : nws c = true := by simp [nws, hc]
        rw [List.takeWhile_cons_of_pos this]
      rw [h1]
      have h2 := ih p (i + 1) (t ++ [c])
      have h3 : i + 1 + (l.takeWhile nws).length = i + (c :: l.takeWhile nws).length := by simp; omega
      rw [h3] at h2
      simp only [scanL, hc, grow]
      simpa [List.append_assoc] using h2

theorem scanL_new (q : Nat) (c : UInt8) (l : List UInt8) (i : Nat) (hc : ws c = false) :
    scanL q none i (c :: l) = ⟨i, q, ⟨((c :: l).takeWhile nws).toArray⟩⟩ :: scanL q none (i + ((c :: l).takeWhile nws).length) ((c :: l).drop ((c :: l).takeWhile nws).length) := by
  have h1 : (c :: l).takeWhile nws = c :: l.takeWhile nws := by
    have : nws c = true := by simp [nws, hc]
    rw [List.takeWhile_cons_of_pos this]
  have h2 := scanL_word q l i (i + 1) [c]
  rw [h1]
  have h3 : i + 1 + (l.takeWhile nws).length = i + (c :: l.takeWhile nws).length := by simp; omega
  rw [h3] at h2
  simp only [scanL, hc, grow]
  simpa using h2

theorem lwc_scan (q : Nat) : ∀ (k p : Nat) (l : List UInt8), l.length ≤ k → lwc p q l = scanL q none p l := by
  intro k
  induction k with
  | zero =>
    intro p l h
    obtain rfl : l = [] := List.eq_nil_of_length_eq_zero (by omega)
    rfl
  | succ k ih =>
    intro p l h
    cases l with
    | nil => rfl
    | cons c l =>
      rw [lwc_step p q (c :: l) (by simp), scanL_blank]
      have hlt := left_lt c l
      rw [ih _ _ (by simp at h hlt ⊢; omega)]
      cases hd : (c :: l).dropWhile ws with
      | nil => simp
      | cons d r =>
        have hd' : ws d = false := by
          have h5 := List.head_dropWhile_not (p := ws) (l := c :: l) (by rw [hd]; simp)
          simp only [hd, List.head_cons] at h5
          simpa using h5
        rw [scanL_new q d r _ hd']
        have hne : ¬ ((d :: r).takeWhile nws = []) := by simp [nws, hd']
        rw [if_neg hne]
        rfl

/-- A text's lines. -/
def sl : List UInt8 → List (List UInt8)
  | [] => [[]]
  | c :: l => if c = 10 then [] :: sl l else (c :: (sl l).headD []) :: (sl l).tail

theorem sl_cons (l : List UInt8) : ∃ h t, sl l = h :: t := by
  cases l with
  | nil => exact ⟨[], [], rfl⟩
  | cons c l =>
    by_cases hc : c = 10
    · exact ⟨[], sl l, by simp [sl, hc]⟩
    · exact ⟨_, _, by simp [sl, hc]; exact ⟨rfl, rfl⟩⟩

theorem indexByte_cons (c b : UInt8) (l : List UInt8) : Lib.indexByte (b :: l) c = if b = c then 0 else if Lib.indexByte l c = -1 then -1 else Lib.indexByte l c + 1 := by
  simp [Lib.indexByte]

theorem splitK_sl : ∀ l : List UInt8, Lib.splitK [10] 0 (Lib.count l [10]) l = sl l := by
  intro l
  induction l with
  | nil => rfl
  | cons c l ih =>
    by_cases hc : c = 10
    · subst hc
      rw [Lib.count_cons_eq, Nat.add_comm]
      have hi : Lib.index (10 :: l) [10] = 0 := by rw [Lib.index_one, indexByte_cons, if_pos rfl]
      rw [Lib.splitK, hi]
      simp [sl, ih]
    · rw [Lib.count_cons_ne c 10 l hc]
      have hs : sl (c :: l) = (c :: (sl l).headD []) :: (sl l).tail := by simp [sl, hc]
      rw [hs, ← ih]
      have hi : Lib.index (c :: l) [10] = if Lib.indexByte l 10 = -1 then -1 else Lib.indexByte l 10 + 1 := by rw [Lib.index_one, indexByte_cons, if_neg hc]
      cases hk : Lib.count l [10] with
      | zero => simp [Lib.splitK]
      | succ k =>
        rw [Lib.splitK, Lib.splitK, hi, Lib.index_one]
        by_cases h1 : Lib.indexByte l 10 = -1
        · simp [h1]
        · have h2 := Lib.indexByte_ge l 10
          obtain ⟨i, h3⟩ : ∃ i : Nat, Lib.indexByte l 10 = i := ⟨(Lib.indexByte l 10).toNat, by omega⟩
          rw [h3]
          have h4 : ¬ ((i : Int) = -1) := by omega
          have h5 : ¬ ((i : Int) + 1 = -1) := by omega
          have h6 : ((i : Int) + 1).toNat = i + 1 := by omega
          simp [h4, h5, h6]

/-- A line's part ahead of its note. -/
theorem cut_note : ∀ l : List UInt8, (Lib.cut l [35]).1 = l.takeWhile (fun c => c != 35) := by
  intro l
  have key : ∀ l : List UInt8, (Lib.indexByte l 35 = -1 ∧ l.takeWhile (fun c => c != 35) = l) ∨ (∃ i : Nat, Lib.indexByte l 35 = i ∧ l.takeWhile (fun c => c != 35) = l.take i) := by
    intro l
    induction l with
    | nil => left; exact ⟨rfl, rfl⟩
    | cons c l ih =>
      rw [indexByte_cons]
      by_cases hc : c = 35
      · right
        exact ⟨0, by rw [if_pos hc]; rfl, by simp [hc]⟩
      · rw [if_neg hc]
        have hn : (c != 35) = true := by simp [hc]
        rw [List.takeWhile_cons_of_pos (p := fun c => c != 35) hn]
        rcases ih with ⟨h1, h2⟩ | ⟨i, h1, h2⟩
        · left; rw [if_pos h1, h2]; exact ⟨rfl, rfl⟩
        · right
          refine ⟨i + 1, ?_, by rw [h2]; rfl⟩
          rw [if_neg (by rw [h1]; omega), h1]; rfl
  unfold Lib.cut
  rw [Lib.index_one]
  rcases key l with ⟨h1, h2⟩ | ⟨i, h1, h2⟩
  · rw [h1, if_neg (by omega), h2]
  · rw [h1, if_pos (by omega), h2]; simp

/-- The words of lines, over lists. -/
def linesL : Nat → Nat → List (List UInt8) → List Wd
  | _, _, [] => []
  | f, q, x :: xs => scanL q none f (x.takeWhile (fun c => c != 35)) ++ linesL (f + x.length + 1) (q + 1) xs

theorem linesW_L : ∀ (L : List ByteArray) (f q : Nat), linesW f q L = linesL f q (L.map (·.data.toList)) := by
  intro L
  induction L with
  | nil => intro f q; rfl
  | cons x L ih =>
    intro f q
    simp only [linesW, List.map_cons, linesL]
    rw [ih, lwc_scan q _ f _ (Nat.le_refl _), cut_note, Lib.size_eq]

theorem scan_lines : ∀ (s : List UInt8) (q i : Nat), (∀ cur, scan q false cur i s = scanL q cur i (((sl s).headD []).takeWhile (fun c => c != 35)) ++ linesL (i + ((sl s).headD []).length + 1) (q + 1) (sl s).tail) ∧
    scan q true none i s = linesL (i + ((sl s).headD []).length + 1) (q + 1) (sl s).tail := by
  intro s
  induction s with
  | nil => intro q i; exact ⟨fun cur => by simp [scan, sl, scanL, linesL], by simp [scan, sl, linesL, emit]⟩
  | cons c l ih =>
    intro q i
    by_cases hc : c = 10
    · have hlines : linesL (i + 1) (q + 1) (sl l) = scan (q + 1) false none (i + 1) l := by
        obtain ⟨h, t, he⟩ := sl_cons l
        have h1 := (ih (q + 1) (i + 1)).1 none
        rw [h1, he]
        rfl
      refine ⟨fun cur => ?_, ?_⟩
      · simp only [scan, if_pos hc, sl]
        rw [← hlines]
        simp [scanL]
      · simp only [scan, if_pos hc, sl]
        rw [← hlines]
        simp [emit]
    · have hs : sl (c :: l) = (c :: (sl l).headD []) :: (sl l).tail := by simp [sl, hc]
      have hlen : i + (c :: (sl l).headD []).length + 1 = (i + 1) + ((sl l).headD []).length + 1 := by simp; omega
      rw [hs]
      simp only [List.headD_cons, List.tail_cons]
      rw [hlen]
      refine ⟨fun cur => ?_, ?_⟩
      · by_cases hn : c = 35
        · have h2 := (ih q (i + 1)).2
          have ht : (c :: (sl l).headD []).takeWhile (fun c => c != 35) = [] := by simp [hn]
          rw [ht]
          have hstep : scan q false cur i (c :: l) = emit q cur ++ scan q true none (i + 1) l := by simp [scan, hn]
          rw [hstep, h2]
          rfl
        · have ht : (c :: (sl l).headD []).takeWhile (fun c => c != 35) = c :: ((sl l).headD []).takeWhile (fun c => c != 35) := by
            have : (c != 35) = true := by simp [hn]
            rw [List.takeWhile_cons_of_pos (p := fun c => c != 35) this]
          rw [ht]
          by_cases hw : ws c = true
          · have hstep : scan q false cur i (c :: l) = emit q cur ++ scan q false none (i + 1) l := by simp [scan, hc, hn, hw]
            rw [hstep, (ih q (i + 1)).1 none]
            simp [scanL, hw]
          · have hstep : scan q false cur i (c :: l) = scan q false (grow i c cur) (i + 1) l := by simp [scan, hc, hn, hw]
            rw [hstep, (ih q (i + 1)).1 _]
            simp [scanL, hw]
      · have hstep : scan q true none i (c :: l) = scan q true none (i + 1) l := by simp [scan, hc, emit]
        rw [hstep, (ih q (i + 1)).2]

/-- What lex.Words gives is what stands in the document. -/
theorem textW_scan (s : ByteArray) : textW s = scan 1 false none 0 s.data.toList := by
  unfold textW
  rw [linesW_L, Lib.splitB_data]
  have h : (ByteArray.mk #[10]).data.toList = [10] := rfl
  rw [h]
  have hc : Lib.countB s ⟨#[10]⟩ = Lib.count s.data.toList [10] := rfl
  rw [hc, splitK_sl, (scan_lines s.data.toList 1 0).1 none]
  obtain ⟨a, t, he⟩ := sl_cons s.data.toList
  rw [he]
  rfl

end Go.Proofs.YtnejkfccdnadcaaDoor
end

section
namespace Go.Proofs.YtnejkfccdnadcaaDoor
open Go.RowKit Go.Shelf Go.Lib

theorem WRow.left {w : World} {B : Nat} {A : Option Addr} {L M : List Wd} (h : WRow w B A (L ++ M)) : WRow w B A L := by
  intro hl
  obtain ⟨b, off, e, hlt, hc⟩ := h (by rw [List.length_append]; omega)
  refine ⟨b, off, e, hlt, fun i hi => ?_⟩
  have := hc i (by rw [List.length_append]; omega)
  simpa [List.getElem_append_left hi] using this

theorem emit_bd {q : Nat} {cur : Option (Nat × List UInt8)} {i : Nat} (h : ∀ p t, cur = some (p, t) → p ≤ i) : ∀ x ∈ emit q cur, (0 ≤ x.p ∧ x.p ≤ (i : Int)) ∧ x.q = (q : Int) := by
  intro x hx
  cases cur with
  | none => simp [emit] at hx
  | some y =>
    obtain ⟨p, t⟩ := y
    simp [emit] at hx
    subst hx
    have := h p t rfl
    exact ⟨⟨by simp, by simp; omega⟩, rfl⟩

theorem scan_bd : ∀ (l : List UInt8) (q : Nat) (off : Bool) (cur : Option (Nat × List UInt8)) (i : Nat), (∀ p t, cur = some (p, t) → p ≤ i) →
    ∀ x ∈ scan q off cur i l, (0 ≤ x.p ∧ x.p ≤ ((i + l.length : Nat) : Int)) ∧ ((q : Int) ≤ x.q ∧ x.q ≤ ((q + l.length : Nat) : Int)) := by
  intro l
  induction l with
  | nil =>
    intro q off cur i h x hx
    obtain ⟨h1, h2⟩ := emit_bd h x hx
    exact ⟨⟨h1.1, by simpa using h1.2⟩, by omega, by simp; omega⟩
  | cons c l ih =>
    intro q off cur i h x hx
    have hlen : (c :: l).length = l.length + 1 := rfl
    have hnone : ∀ (p : Nat) (t : List UInt8), (none : Option (Nat × List UInt8)) = some (p, t) → p ≤ i + 1 := fun _ _ h => by cases h
    have hem : x ∈ emit q cur → (0 ≤ x.p ∧ x.p ≤ ((i + (c :: l).length : Nat) : Int)) ∧ ((q : Int) ≤ x.q ∧ x.q ≤ ((q + (c :: l).length : Nat) : Int)) := by
      intro he
      obtain ⟨h1, h2⟩ := emit_bd h x he
      rw [hlen]
      exact ⟨⟨h1.1, by omega⟩, by omega, by omega⟩
    simp only [scan] at hx
    split at hx
    · rcases List.mem_append.1 hx with hx | hx
      · exact hem hx
      · obtain ⟨⟨a1, a2⟩, a3, a4⟩ := ih (q + 1) false none (i + 1) hnone x hx
        rw [hlen]
        exact ⟨⟨a1, by omega⟩, by omega, by omega⟩
    · split at hx
      · rcases List.mem_append.1 hx with hx | hx
        · exact hem hx
        · obtain ⟨⟨a1, a2⟩, a3, a4⟩ := ih q true none (i + 1) hnone x hx
          rw [hlen]
          exact ⟨⟨a1, by omega⟩, by omega, by omega⟩
      · split at hx
        · rcases List.mem_append.1 hx with hx | hx
          · exact hem hx
          · obtain ⟨⟨a1, a2⟩, a3, a4⟩ := ih q off none (i + 1) hnone x hx
            rw [hlen]
            exact ⟨⟨a1, by omega⟩, by omega, by omega⟩
        · have hg : ∀ p t, grow i c cur = some (p, t) → p ≤ i + 1 := by
            intro p t e
            cases cur with
            | none => simp [grow] at e; omega
            | some y =>
              obtain ⟨p', t'⟩ := y
              have := h p' t' rfl
              simp [grow] at e
              omega
          obtain ⟨⟨a1, a2⟩, a3, a4⟩ := ih q off _ (i + 1) hg x hx
          rw [hlen]
          exact ⟨⟨a1, by omega⟩, by omega, by omega⟩

theorem text_bd (s : ByteArray) : ∀ x ∈ textW s, (0 ≤ x.p ∧ x.p ≤ (s.size : Int)) ∧ (1 ≤ x.q ∧ x.q ≤ ((s.size + 1 : Nat) : Int)) := by
  intro x hx
  rw [textW_scan] at hx
  obtain ⟨⟨a1, a2⟩, a3, a4⟩ := scan_bd s.data.toList 1 false none 0 (fun _ _ h => by cases h) x hx
  rw [← Lib.size_eq] at a2 a4
  exact ⟨⟨a1, by omega⟩, by omega, by omega⟩

end Go.Proofs.YtnejkfccdnadcaaDoor
end

section
namespace Go.Proofs.YtnejkfccdnadcaaDoor
open Go.RowKit Go.Shelf Go.Lib

set_option maxHeartbeats 1000000 in
theorem digits_any (n : Int) (w : World) (h0 : -9223372036854775808 ≤ n) (h1 : n ≤ 9223372036854775807) (htab : Lib.TabIs Tryd.prog w "internal/strconv.uint64pow10" .u64 Lib.pow10Tab) :
    Calls Tryd.prog 32 #[.int .i64 n] w fun e w' => e = .returned (.string ⟨(Lib.itoa n).toArray⟩) ∧ Below w.heap.size w w' := by
  have hd := Lib.hid (Tryd.strconv_FormatInt_10 n h0 h1 w htab)
  go_enter Tryd.func32, Tryd.ntmps32
  go_wp2_with (go_at_call 39; refine hd.out.mono ?_; rintro e w' ⟨rfl, k, os, rfl⟩)
  go_ret
  exact ⟨rfl, Lib.below_grow _ w (Nat.le_refl _) k os⟩

end Go.Proofs.YtnejkfccdnadcaaDoor
end

section
namespace Go.Proofs.YtnejkfccdnadcaaDoor
open Go.RowKit Go.Shelf Go.Lib

theorem dig_nat {d : Nat} (h : d < 10) : (UInt8.ofNat (48 + d)).toNat = 48 + d := by
  rw [UInt8.toNat_ofNat']
  omega

theorem dec_num : ∀ u : Nat, numV (decDigits u) = u ∧ (∀ c ∈ decDigits u, isD c) ∧ decDigits u ≠ [] ∧ (u < 10 → (decDigits u).length = 1) ∧ (u ≠ 0 → (decDigits u)[0]? ≠ some 48) := by
  intro u
  induction u using Nat.strongRecOn with
  | ind u ih =>
    by_cases h : u < 10
    · rw [decDigits_one h]
      refine ⟨?_, ?_, by simp, fun _ => rfl, ?_⟩
      · simp [numV, numF]
        have := dig_nat h
        simp at this
        omega
      · intro c hc
        simp at hc
        subst hc
        have := dig_nat h
        simp at this
        unfold isD
        simp
        omega
      · intro h0 he
        have h1 : UInt8.ofNat (48 + u) = 48 := by simpa using he
        have h2 := dig_nat h
        rw [h1] at h2
        have : (48 : UInt8).toNat = 48 := rfl
        omega
    · have e : decDigits u = decDigits (u / 10) ++ [UInt8.ofNat (48 + u % 10)] := by rw [decDigits, dif_neg h]
      obtain ⟨i1, i2, i3, _, i5⟩ := ih (u / 10) (by omega)
      have hd := dig_nat (d := u % 10) (by omega)
      rw [e]
      refine ⟨?_, ?_, by simp, fun h2 => absurd h2 h, ?_⟩
      · unfold numV at i1 ⊢
        rw [List.foldl_append, i1]
        simp only [List.foldl_cons, List.foldl_nil, numF]
        rw [hd]
        omega
      · intro c hc
        rcases List.mem_append.1 hc with hc | hc
        · exact i2 c hc
        · simp only [List.mem_singleton] at hc
          subst hc
          unfold isD
          rw [hd]
          omega
      · intro _
        have hl : 0 < (decDigits (u / 10)).length := by
          cases hx : decDigits (u / 10) with
          | nil => exact absurd hx i3
          | cons a b => simp
        rw [List.getElem?_append_left hl]
        exact i5 (by omega)

/-- A number's digits say it, up to any bound that is not below it. -/
theorem itoa_num (n : Int) (h : 0 ≤ n) (most : Int) : numV (itoa n) = n.toNat ∧ (NumOk (itoa n) most ↔ n ≤ most) := by
  have e : itoa n = decDigits n.toNat := by unfold itoa; rw [if_neg (by omega)]
  obtain ⟨h1, h2, h3, h4, h5⟩ := dec_num n.toNat
  rw [e]
  refine ⟨h1, fun hn => ?_, fun hn => ⟨⟨h3, ?_⟩, ?_, ?_⟩⟩
  · have := hn.2.2
    rw [h1] at this
    omega
  · by_cases h0 : n.toNat = 0
    · exact .inl (h4 (by omega))
    · exact .inr (h5 h0)
  · intro i c hc
    exact h2 c (List.mem_of_getElem? hc)
  · rw [h1]; omega

end Go.Proofs.YtnejkfccdnadcaaDoor
end

section
namespace Go.Proofs.YtnejkfccdnadcaaDoor
open Go.RowKit

/-- Block x is o. -/
def Has (w : World) (x : Nat) (o : Obj) : Prop := w.heap[x]? = some o

section
variable {w w' : World} {x : Nat} {o : Obj}
theorem Has.lt (h : Has w x o) : x < w.heap.size := lt_of_block h
theorem Has.new (w : World) (x : Nat) (o : Obj) (hx : x = w.heap.size) : Has (w.alloc o) x o := by subst hx; exact heap_alloc_new w o
theorem Has.alloc (h : Has w x o) (u : Obj) : Has (w.alloc u) x o := (Below.heap_alloc w u x h.lt).trans h
theorem Has.drew (h : Has w x o) : Has w.drew x o := h
theorem Has.below {B : Nat} (h : Has w x o) (hb : Below B w w') (hx : x < B) : Has w' x o := (hb.block x hx).trans h
theorem Has.grown {row : Option Nat} (h : Has w x o) (hg : w.grownBy w' row) (hr : some x ≠ row) : Has w' x o := (hg.block x h.lt hr).trans h
end

theorem ownsRow_below {w w' : World} {base B : Nat} {e : TypeId} {size : Nat} {v : Value} {n : Nat} {xs : List Value} (h : w.ownsRow base e size v n xs) (hb : Below B w w') (hB : w.heap.size ≤ B) : w'.ownsRow base e size v n xs := by
  obtain ⟨h1, h2⟩ := h
  refine ⟨h1, ?_⟩
  rcases h2 with h2 | ⟨g, cap, cur, hv, hg, hh, r⟩
  · exact .inl h2
  · exact .inr ⟨g, cap, cur, hv, hg, (hb.block g (Nat.lt_of_lt_of_le (lt_of_block hh) hB)).trans hh, r⟩

end Go.Proofs.YtnejkfccdnadcaaDoor
end

section
namespace Go.Proofs.YtnejkfccdnadcaaDoor
open Go.RowKit Go.Shelf Go.Lib

/-- A slice of int64 in memory, below block B. -/
def NRow (w : World) (B : Nat) (A : Option Addr) (L : List Int) : Prop :=
  0 < L.length → ∃ b off, A = some ⟨b, off, none⟩ ∧ b < B ∧ ∀ i (h : i < L.length), w.cell? ⟨b, off + i, none⟩ = some (.int .i64 L[i])

theorem NRow.below {w w' : World} {B C : Nat} {A : Option Addr} {L : List Int} (h : NRow w B A L) (hb : Below C w w') (hBC : B ≤ C) : NRow w' B A L := by
  intro hl
  obtain ⟨b, off, e, hlt, hc⟩ := h hl
  exact ⟨b, off, e, hlt, fun i hi => (hb.cell (p := ⟨b, _, none⟩) (by show b < C; omega)).trans (hc i hi)⟩

theorem NRow.more {w : World} {B C : Nat} {A : Option Addr} {L : List Int} (h : NRow w B A L) (hBC : B ≤ C) : NRow w C A L := by
  intro hl
  obtain ⟨b, off, e, hlt, hc⟩ := h hl
  exact ⟨b, off, e, by omega, hc⟩

end Go.Proofs.YtnejkfccdnadcaaDoor
end

section
namespace Go.Proofs.YtnejkfccdnadcaaDoor
open Go.RowKit Go.Shelf Go.Lib

theorem nDig_le : ∀ (k u : Nat), u < 10 ^ (k + 1) → nDigits u ≤ k + 1 := by
  intro k
  induction k with
  | zero => intro u h; rw [nDigits, dif_pos (by simpa using h)]; exact Nat.le_refl 1
  | succ k ih =>
    intro u h
    by_cases h10 : u < 10
    · rw [nDigits, dif_pos h10]; omega
    · rw [nDigits, dif_neg h10]
      have := ih (u / 10) (by rw [Nat.pow_succ] at h; omega)
      omega

theorem itoa_len (n : Int) (h0 : -9223372036854775808 ≤ n) (h1 : n ≤ 9223372036854775807) : (itoa n).length ≤ 21 := by
  have key : ∀ u : Nat, u < 10 ^ 20 → (decDigits u).length ≤ 20 := fun u hu => by rw [decDigits_length]; exact nDig_le 19 u hu
  unfold itoa
  split
  · have := key n.natAbs (by omega)
    simp only [List.length_cons]
    omega
  · have := key n.toNat (by omega)
    omega

theorem tail_len (sep : List UInt8) : ∀ (L : List (List UInt8)), (∀ x ∈ L, x.length ≤ 21) → (Lib.joinTail sep L).length ≤ L.length * (21 + sep.length) := by
  intro L
  induction L with
  | nil => intro _; simp [Lib.joinTail]
  | cons x L ih =>
    intro h
    have h1 := ih (fun y hy => h y (List.mem_cons_of_mem _ hy))
    have h2 := h x List.mem_cons_self
    have e : Lib.joinTail sep (x :: L) = (sep ++ x) ++ Lib.joinTail sep L := by simp [Lib.joinTail]
    rw [e, List.length_append, List.length_append, List.length_cons, Nat.add_mul]
    omega

theorem join_len (sep : List UInt8) (L : List (List UInt8)) (h : ∀ x ∈ L, x.length ≤ 21) : (Lib.join L sep).length ≤ 21 + L.length * (21 + sep.length) := by
  cases L with
  | nil => simp [Lib.join_nil]
  | cons x r =>
    rw [Lib.join_cons, List.length_append]
    have h1 := tail_len sep r (fun y hy => h y (List.mem_cons_of_mem _ hy))
    have h2 := h x List.mem_cons_self
    rw [List.length_cons, Nat.add_mul]
    omega

theorem tab_below {B : Nat} {w w' : World} (h : Lib.TabIs Tryd.prog w "internal/strconv.uint64pow10" .u64 Lib.pow10Tab) (hb : Below B w w') (hB : 0 < B) : Lib.TabIs Tryd.prog w' "internal/strconv.uint64pow10" .u64 Lib.pow10Tab :=
  var?_below hb (by kernel_rfl) hB h

theorem infoS : (Tryd.prog.info? 9).map (fun i => (i.zero, i.size, i.bytes)) = some (some (.string ByteArray.empty), 1, 16) := by kernel_rfl

/-- The digits of numbers. -/
def digs (L : List Int) : List ByteArray := L.map fun n => ⟨(itoa n).toArray⟩

theorem digs_data (L : List Int) : (digs L).map (·.data.toList) = L.map itoa := by
  unfold digs
  rw [List.map_map]
  rfl

theorem full_block {w : World} {base B n c : Nat} {e : TypeId} {size : Nat} {xs : Array Value} (h : w.ownsRow base e size (.slice (some ⟨B, 0, none⟩) n c) n xs.toList) (hx : xs.size = c * size) : w.heap[B]? = some (.cells xs e (0, 0)) := by
  rcases h.2 with ⟨h1, _⟩ | ⟨g, cap, cur, h1, _, hg, _, _, hs, ht⟩
  · cases h1
  · cases h1
    have hl := h.1
    rw [hg]
    have : cur = xs := by
      apply Array.toList_inj.1
      rw [← ht, List.take_of_length_le]
      simp only [Array.length_toList] at hl ⊢
      omega
    rw [this]

theorem str_cell {w : World} {B n i : Nat} {D : List ByteArray} (h : w.heap[B]? = some (.cells (Lib.cellsOf D n) 9 (0, 0))) (hD : D.length = i) (hi : i < n) :
    w.cell? ⟨B, i, none⟩ = some (.string ByteArray.empty) ∧ w.frozen? ⟨B, i, none⟩ = false := by
  have h1 := Lib.cellsOf_next (done := D) (N := n) (by omega)
  rw [hD] at h1
  exact ⟨by simp [World.cell?, h, h1], by simp [World.frozen?, h]⟩

theorem str_set {w : World} {B n i : Nat} {D : List ByteArray} (h : w.heap[B]? = some (.cells (Lib.cellsOf D n) 9 (0, 0))) (hD : D.length = i) (hi : i < n) (x : ByteArray) :
    (w.setCell ⟨B, i, none⟩ (.string x)).heap[B]? = some (.cells (Lib.cellsOf (D ++ [x]) n) 9 (0, 0)) := by
  obtain ⟨hlt, hk⟩ := Array.getElem?_eq_some_iff.1 h
  have h2 := Lib.cellsOf_set (done := D) (N := n) (by omega) x
  rw [hD] at h2
  rw [← h2]
  show (w.heap.modify B _)[B]? = _
  rw [Array.getElem?_eq_getElem (by rw [Array.size_modify]; exact hlt), Array.getElem_modify_self, hk]
  rfl

theorem take_digs {L : List Int} {i : Nat} (h : i < L.length) : digs (L.take (i + 1)) = digs (L.take i) ++ [⟨(itoa L[i]).toArray⟩] := by
  unfold digs
  rw [List.take_succ_eq_append_getElem h, List.map_append]
  rfl

end Go.Proofs.YtnejkfccdnadcaaDoor
end

section
namespace Go.Proofs.YtnejkfccdnadcaaDoor
open Go.RowKit Go.Lib

def Tabs (w : World) : Prop := (Lib.TabIs Tryd.prog w "internal/strconv.uint64pow10" .u64 Lib.pow10Tab ∧ 0 < w.heap.size) ∧ ∃ m, w.cell? ⟨1, 0, none⟩ = some (.int .i64 m)

theorem Tabs.below {w w' : World} (h : Tabs w) (hb : Below w.heap.size w w') : Tabs w' := by
  obtain ⟨⟨h1, h2⟩, m, h3⟩ := h
  exact ⟨⟨tab_below h1 hb h2, Nat.lt_of_lt_of_le h2 hb.size⟩, m, (hb.cell (p := ⟨1, 0, none⟩) (World.block_lt_of_cell? _ _ h3)).trans h3⟩

end Go.Proofs.YtnejkfccdnadcaaDoor
end

section
namespace Go.Proofs.YtnejkfccdnadcaaDoor
open Go.RowKit Go.Shelf Go.Lib

theorem ch1 {w a : World} (h : Below w.drew.heap.size w.drew a) : Below w.heap.size w a := ((Below.refl w.heap.size w).drew).trans h
end Go.Proofs.YtnejkfccdnadcaaDoor
end

section
namespace Go.Proofs.YtnejkfccdnadcaaDoor
open Go.RowKit Go.Shelf Go.Lib

set_option maxHeartbeats 2000000 in
set_option maxRecDepth 100000 in
theorem words_any (A : Option Addr) (cap : Nat) (L : List Int) (w : World) (hL : ∀ x ∈ L, -9223372036854775808 ≤ x ∧ x ≤ 9223372036854775807) (hn : L.length ≤ 1000) (hr : NRow w w.heap.size A L)
    (htab : Lib.TabIs Tryd.prog w "internal/strconv.uint64pow10" .u64 Lib.pow10Tab) (hg : 0 < w.heap.size) :
    Calls Tryd.prog 20 #[.slice A L.length cap] w fun e w' => e = .returned (.string ⟨(Lib.join (L.map itoa) [32]).toArray⟩) ∧ Below w.heap.size w w' := by
  obtain ⟨i0, hi0, hz0, hz1, hz2⟩ := info_parts infoS
  obtain ⟨n, hn'⟩ : ∃ n, n = L.length := ⟨_, rfl⟩
  rw [← hn'] at hn ⊢
  have HN := Lib.hid hn'
  clear hn'
  go_enter Tryd.func20, Tryd.ntmps20
  go_wp2_with (at_make; refine wpList_make_full _ rfl _ _ 89 rfl w.heap.size 9 i0 _ 1 Tryd.underlying89 hi0 hz0 hz1 _ _ _ _ n rfl rfl rfl rfl (by rw [hz2]; omega) (by unfold maxLen; omega) (Nat.le_refl _) ?_; intro w1 hown1 hg1)
  have hb1 : Below w.heap.size w w1 := ⟨hg1.os, hg1.tape, hg1.output, hg1.size, fun k hk => hg1.block k hk (by simp)⟩
  obtain ⟨B, hB⟩ : ∃ B, w.heap.size = B := ⟨_, rfl⟩
  have hblk0 : w1.heap[B]? = some (.cells (Lib.cellsOf [] n) 9 (0, 0)) := by
    rw [Lib.cellsOf_nil, ← hB]
    have h9 : w1.ownsRow w.heap.size 9 1 (.slice (some ⟨w.heap.size, 0, none⟩) n n) n (madeCells #[.string ByteArray.empty] n).toList := by
      rw [Nat.mul_one] at hown1
      exact hown1
    exact full_block h9 (by simp [madeCells])
  rw [hB] at hb1 hr hg ⊢
  go_loopw [11] (fun v11 wr => ∃ i : Nat, v11 = .int .i64 i ∧ i ≤ n ∧ wr.heap[B]? = some (.cells (Lib.cellsOf (digs (L.take i)) n) 9 (0, 0)) ∧ Below B w wr) (fun v11 _ => n - (RowKit.intOf v11).toNat)
  case atStart => exact ⟨0, rfl, Nat.zero_le _, hblk0, hb1⟩
  case round =>
    obtain ⟨i, rfl, hi, hblk, hbw⟩ := hrel
    by_cases hin : i < n
    · have hil : i < L.length := by rw [← HN.out]; exact hin
      obtain ⟨b1, o1, rfl, hlt1, hc1⟩ := hr (by omega)
      have a0 := (hbw.cell (p := ⟨b1, _, none⟩) hlt1).trans (hc1 i hil)
      obtain ⟨x1, x2⟩ := hL L[i] (List.getElem_mem hil)
      have HT := Lib.hid (take_digs hil)
      have hlt := lt_of_block hblk
      generalize hxx : L[i] = x at *
      clear hc1 hxx
      have hlen : (digs (L.take i)).length = i := by unfold digs; rw [List.length_map, List.length_take]; omega
      have hd := Lib.hid (digits_any x wr x1 x2 (tab_below htab hbw hg))
      go_upto_region 6 with (go_at_call 32; refine hd.out.mono ?_; rintro e w2 ⟨rfl, hb2⟩; have hblk2 := (hb2.block B hlt).trans hblk; obtain ⟨hc2, hf2⟩ := str_cell hblk2 hlen hin)
      have hblk3 := str_set hblk2 hlen hin ⟨(itoa x).toArray⟩
      rw [← HT.out] at hblk3
      have hbw3 : Below B w (w2.setCell ⟨B, i, none⟩ (.string ⟨(itoa x).toArray⟩)) := (hbw.trans (hb2.mono (Nat.le_of_lt hlt))).setCell (p := ⟨B, i, none⟩) (Nat.le_refl _) _
      go_wp2
      go_roundw
      case rel => exact ⟨i + 1, by simp, hin, hblk3, hbw3⟩
      case measure => simp [RowKit.intOf]; omega
    · obtain rfl : i = n := by omega
      rw [HN.out, List.take_length] at hblk
      have hlen2 : (digs L).length = L.length := by unfold digs; rw [List.length_map]
      have hfull : Lib.cellsOf (digs L) L.length = ((digs L).map Value.string).toArray := by unfold Lib.cellsOf; rw [hlen2]; simp
      rw [hfull] at hblk
      have hcells : ∀ (j : Nat) x, (digs L)[j]? = some x → wr.cell? ⟨B, 0 + j, none⟩ = some (.string x) := fun j x hx => by simp [World.cell?, hblk, hx]
      have hj := Tryd.strings_Join B 0 L.length (digs L) ⟨#[32]⟩ wr hcells (lt_of_block hblk) (by rw [hlen2, ← HN.out]; omega) (by omega) (by
        rw [digs_data]
        have h1 := join_len [32] (L.map itoa) (fun y hy => by
          obtain ⟨z, hz, rfl⟩ := List.mem_map.1 hy
          exact itoa_len z (hL z hz).1 (hL z hz).2)
        rw [List.length_map, ← HN.out] at h1
        have h2 : (ByteArray.mk #[32]).data.toList = [32] := rfl
        rw [h2]
        simp at h1
        omega)
      rw [digs_data, hlen2, ← HN.out] at hj
      have hj' := Lib.hid hj
      have hltB := lt_of_block hblk
      clear hj hcells hblk hfull hlen2
      go_wp2_with (go_at_call 33; refine hj'.out.mono ?_; rintro e w9 ⟨rfl, hb9⟩)
      go_ret
      exact ⟨rfl, by rw [hB]; exact hbw.trans (hb9.mono (Nat.le_of_lt hltB))⟩

set_option maxHeartbeats 1000000 in
theorem within_any (n a b : Int) (w : World) :
    Calls Tryd.prog 30 #[.int .i64 n, .int .i64 a, .int .i64 b] w fun e w' => e = .returned (.bool (decide (a ≤ n ∧ n ≤ b))) ∧ w = w' := by
  go_enter Tryd.func30, Tryd.ntmps30
  by_cases h1 : a ≤ n
  · go_wp2
    go_ret
    exact ⟨by simp [h1], rfl⟩
  · go_wp2
    go_ret
    exact ⟨by simp; omega, rfl⟩

/-- May a request be written? -/
def rightV (a t d : Int) : Bool := decide (0 ≤ a ∧ a ≤ 2147483648) && (decide (1 ≤ t ∧ t ≤ 99) && decide (1 ≤ d ∧ d ≤ 1073741824))

set_option maxHeartbeats 1000000 in
theorem right_any (a t d : Int) (ht : -9223372036854775808 ≤ t ∧ t ≤ 9223372036854775807) (w : World) :
    Calls Tryd.prog 18 #[.agg #[.int .i64 a, .int .i64 t, .int .i64 d]] w fun e w' => e = .returned (.bool (rightV a t d)) ∧ Below w.heap.size w w' := by
  have hw : IntKind.i64.wrap t = t := by rw [IntKind.wrap_i64]; omega
  go_enter Tryd.func18, Tryd.ntmps18
  go_wp2_with (go_at_call 30; refine (within_any _ _ _ _).mono ?_; rintro e w1 ⟨rfl, rfl⟩)
  all_goals
    go_ret
    refine ⟨?_, (Below.refl _ w).alloc (Nat.le_refl _) _⟩
    unfold rightV
    simp_all <;> (intros; omega)

end Go.Proofs.YtnejkfccdnadcaaDoor
end

section
namespace Go.Proofs.YtnejkfccdnadcaaDoor
open Go.RowKit Go.Shelf Go.Lib

theorem own_notcell {W W' : World} {base : Nat} {e : TypeId} {size n : Nat} {v : Value} {xs : List Value} {row : Option Nat} (h : W.ownsRow base e size v n xs) (hg : W.grownBy W' row)
    (hr : ∀ r, row = some r → ∃ o : Obj, W.heap[r]? = some o ∧ o.isCells = false) : W'.ownsRow base e size v n xs := by
  refine h.kept hg ?_
  rcases h.2 with ⟨rfl, _⟩ | ⟨g, cap, cur, rfl, _, hgb, _⟩
  · exact .inl rfl
  · refine .inr fun e' => ?_
    obtain ⟨o, ho, hc⟩ := hr g (by simpa [Value.ownBlock] using e'.symm)
    rw [hgb] at ho; cases ho; cases hc

/-- What one row owns stays while another one, of another type, grows. -/
theorem ownOtherM {W W' : World} {base base' : Nat} {e e' : TypeId} {size size' n n' : Nat} {v v' : Value} {xs xs' : List Value} (h : W.ownsRow base e size v n xs) (h' : W.ownsRow base' e' size' v' n' xs') (hee : e ≠ e')
    (hg : W.grownBy W' v'.ownBlock) : W'.ownsRow base e size v n xs := by
  refine h.kept hg ?_
  rcases h.2 with ⟨rfl, _⟩ | ⟨g, cap, cur, rfl, _, hgb, _⟩
  · exact .inl rfl
  · refine .inr fun e1 => ?_
    rcases h'.2 with ⟨rfl, _⟩ | ⟨g', cap', cur', rfl, _, hgb', _⟩
    · cases e1
    · have : g = g' := by simpa [Value.ownBlock] using e1
      subst this
      rw [hgb] at hgb'
      cases hgb'
      exact hee rfl

/-- Rows G are done, with the values V; row g, with the value v, grows; vo is the row of all. -/
structure MS (n0 : Nat) (eo ei : TypeId) (G : List (List Wd)) (g : List Wd) (V : List Value) (v : Value) (hs : Nat) (vo : Value) (W : World) : Prop where
  out : W.ownsRow n0 eo 1 vo (V.length + 1) (V ++ [v])
  len : V.length = G.length
  low : n0 ≤ hs
  high : hs ≤ W.heap.size
  done : ∀ (j : Nat) x y, V[j]? = some x → G[j]? = some y → W.ownsRow n0 ei 3 x y.length (y.flatMap Wd.cells) ∧ ∀ b, x.ownBlock = some b → b < hs
  cur : W.ownsRow hs ei 3 v g.length (g.flatMap Wd.cells)

section
variable {n0 : Nat} {eo ei : TypeId} {G : List (List Wd)} {g : List Wd} {V : List Value} {v : Value} {hs : Nat} {vo : Value} {W W' : World}

theorem MS.kept {row : Option Nat} (h : MS n0 eo ei G g V v hs vo W) (hg : W.grownBy W' row) (hr : ∀ r, row = some r → ∃ o : Obj, W.heap[r]? = some o ∧ o.isCells = false) : MS n0 eo ei G g V v hs vo W' where
  out := own_notcell h.out hg hr
  len := h.len
  low := h.low
  high := Nat.le_trans h.high hg.size
  done := fun j x y hx hy => ⟨own_notcell (h.done j x y hx hy).1 hg hr, (h.done j x y hx hy).2⟩
  cur := own_notcell h.cur hg hr

theorem MS.alloc (h : MS n0 eo ei G g V v hs vo W) (o : Obj) : MS n0 eo ei G g V v hs vo (W.alloc o) :=
  h.kept (World.grownBy_alloc W o none) (fun r e => by cases e)

theorem MS.drew (h : MS n0 eo ei G g V v hs vo W) : MS n0 eo ei G g V v hs vo W.drew where
  out := h.out
  len := h.len
  low := h.low
  high := h.high
  done := h.done
  cur := h.cur

/-- A store elsewhere. -/
theorem MS.set (h : MS n0 eo ei G g V v hs vo W) {B : Nat} {t : TypeId} {u : Value} (hb : Boxed W B t u) (hto : t ≠ eo) (hti : t ≠ ei) (u' : Value) : MS n0 eo ei G g V v hs vo (W.setCell ⟨B, 0, none⟩ u') where
  out := h.out.kept (grownBy_setCell' W B u') (.inr (hb.not_row hto h.out).symm)
  len := h.len
  low := h.low
  high := Nat.le_trans h.high (grownBy_setCell' W B u').size
  done := fun j x y hx hy => ⟨(h.done j x y hx hy).1.kept (grownBy_setCell' W B u') (.inr (hb.not_row hti (h.done j x y hx hy).1).symm), (h.done j x y hx hy).2⟩
  cur := h.cur.kept (grownBy_setCell' W B u') (.inr (hb.not_row hti h.cur).symm)

/-- The first line begins. -/
theorem ms_first {w1 : World} {vo' : Value} (ho : w1.ownsRow n0 eo 1 vo' (0 + 1) ([] ++ [.slice none 0 0])) (hn : n0 ≤ w1.heap.size) : MS n0 eo ei [] [] [] (.slice none 0 0) w1.heap.size vo' w1 where
  out := by simpa using ho
  len := rfl
  low := hn
  high := Nat.le_refl _
  done := fun j x y hx => by simp at hx
  cur := World.ownsRow_nil _ _ _ _

/-- A line more begins. -/
theorem MS.next {w1 : World} {vo' : Value} (h : MS n0 eo ei G g V v hs vo W) (hee : eo ≠ ei) {tmp : Obj} (hg : (W.alloc tmp).grownBy w1 vo.ownBlock)
    (ho : w1.ownsRow n0 eo 1 vo' (V.length + 1 + 1) (V ++ [v] ++ [.slice none 0 0])) : MS n0 eo ei (G ++ [g]) [] (V ++ [v]) (.slice none 0 0) w1.heap.size vo' w1 where
  out := by simpa using ho
  len := by simp [h.len]
  low := by
    have h1 := h.low
    have h2 := h.high
    have h3 := hg.size
    simp at h3
    omega
  high := Nat.le_refl _
  done := fun j x y hx hy => by
    have hsz : W.heap.size ≤ w1.heap.size := by have h3 := hg.size; simp at h3; omega
    rcases Nat.lt_or_ge j V.length with hj | hj
    · rw [List.getElem?_append_left hj] at hx
      rw [List.getElem?_append_left (by rw [← h.len]; exact hj)] at hy
      obtain ⟨h1, h2⟩ := h.done j x y hx hy
      refine ⟨ownOtherM (h1.alloc tmp) (h.out.alloc tmp) hee.symm hg, fun b hb => ?_⟩
      have := h2 b hb
      have := h.high
      omega
    · rw [List.getElem?_append_right hj] at hx
      rw [List.getElem?_append_right (by rw [← h.len]; exact hj)] at hy
      have hj0 : j - V.length = 0 := by
        obtain ⟨h1, _⟩ := List.getElem?_eq_some_iff.1 hx
        simp at h1
        omega
      rw [hj0] at hx
      rw [← h.len, hj0] at hy
      simp at hx hy
      subst hx
      subst hy
      refine ⟨ownsRow_base (ownOtherM (h.cur.alloc tmp) (h.out.alloc tmp) hee.symm hg) h.low, fun b hb => ?_⟩
      have := (h.cur.lt b hb).2
      omega
  cur := World.ownsRow_nil _ _ _ _

/-- Where the growing line's value lies. -/
theorem MS.at (h : MS n0 eo ei G g V v hs vo W) : ∃ bo cap, vo = .slice (some ⟨bo, 0, none⟩) (V.length + 1) cap ∧ n0 ≤ bo ∧ bo < W.heap.size ∧ W.cell? ⟨bo, V.length, none⟩ = some v ∧ W.frozen? ⟨bo, V.length, none⟩ = false := by
  obtain ⟨bo, cap, rfl, hb, hlt⟩ := h.out.form (by omega)
  refine ⟨bo, cap, rfl, hb, hlt, ?_, h.out.frozenAt _⟩
  rw [h.out.cellAt V.length (by omega)]
  simp

/-- The growing line's value. -/
theorem MS.val (h : MS n0 eo ei G g V v hs vo W) : ∃ A c, v = .slice A g.length c := by
  rcases h.cur.2 with ⟨rfl, h0⟩ | ⟨g', cap, cur, rfl, _⟩
  · exact ⟨_, _, by rw [h0]⟩
  · exact ⟨_, _, rfl⟩

/-- A word more: behind the append. -/
theorem MS.mid {w1 : World} {bo cap : Nat} (h : MS n0 eo ei G g V v hs (.slice (some ⟨bo, 0, none⟩) (V.length + 1) cap) W) (hee : eo ≠ ei) {tmp : Obj} (hg : (W.alloc tmp).grownBy w1 v.ownBlock) :
    w1.ownsRow n0 eo 1 (.slice (some ⟨bo, 0, none⟩) (V.length + 1) cap) (V.length + 1) (V ++ [v]) ∧ w1.cell? ⟨bo, V.length, none⟩ = some v ∧ w1.frozen? ⟨bo, V.length, none⟩ = false := by
  have h1 := ownOtherM (h.out.alloc tmp) (h.cur.alloc tmp) hee hg
  refine ⟨h1, ?_, h1.frozenAt _⟩
  rw [h1.cellAt V.length (by omega)]
  simp

/-- A word more: behind the store. -/
theorem MS.add {w1 : World} {v' : Value} {x : Wd} {bo cap : Nat} (h : MS n0 eo ei G g V v hs (.slice (some ⟨bo, 0, none⟩) (V.length + 1) cap) W) (hee : eo ≠ ei) {tmp : Obj} (hg : (W.alloc tmp).grownBy w1 v.ownBlock)
    (ho : w1.ownsRow hs ei 3 v' (g.length + 1) (g.flatMap Wd.cells ++ Wd.cells x)) : MS n0 eo ei G (g ++ [x]) V v' hs (.slice (some ⟨bo, 0, none⟩) (V.length + 1) cap) (w1.setCell ⟨bo, V.length, none⟩ v') := by
  have h1 := ownOtherM (h.out.alloc tmp) (h.cur.alloc tmp) hee hg
  obtain ⟨h2, h3⟩ := h1.stored V.length v'
  have hlow := h.low
  have hhigh := h.high
  have hsz : W.heap.size ≤ w1.heap.size := by have h3 := hg.size; simp at h3; omega
  have hob : (Value.slice (some ⟨bo, 0, none⟩) (V.length + 1) cap).ownBlock = some bo := rfl
  refine ⟨?_, h.len, h.low, by have := h3.size; omega, fun j y z hy hz => ?_, ?_⟩
  · simpa using h2
  · obtain ⟨h4, h5⟩ := h.done j y z hy hz
    refine ⟨?_, h5⟩
    have h6 : w1.ownsRow n0 ei 3 y z.length (z.flatMap Wd.cells) := by
      refine (h4.alloc tmp).kept hg ?_
      cases hyb : y.ownBlock with
      | none => exact .inl rfl
      | some b =>
        refine .inr fun e => ?_
        have := h5 b hyb
        have := (h.cur.lt b e.symm).1
        omega
    exact ownOtherM h6 h1 hee.symm (by rw [hob]; exact h3)
  · have h7 : w1.ownsRow hs ei 3 v' (g ++ [x]).length ((g ++ [x]).flatMap Wd.cells) := by simpa [List.flatMap_append] using ho
    exact ownOtherM h7 h1 hee.symm (by rw [hob]; exact h3)

end

/-- Words by lines: one more word. -/
def lnStep (acc : List (List Wd)) (x : Wd) : List (List Wd) :=
  match acc.getLast? with
  | none => [[x]]
  | some g => if g.getLast?.map Wd.q = some x.q then acc.dropLast ++ [g ++ [x]] else acc ++ [[x]]

/-- Words by lines. -/
def lns (l : List Wd) : List (List Wd) := l.foldl lnStep []

theorem lns_snoc (l : List Wd) (x : Wd) : lns (l ++ [x]) = lnStep (lns l) x := by
  unfold lns
  rw [List.foldl_append]
  rfl

theorem lns_same {l : List Wd} {G : List (List Wd)} {g : List Wd} {x y : Wd} (h : lns l = G ++ [g ++ [y]]) (hq : y.q = x.q) : lns (l ++ [x]) = G ++ [(g ++ [y]) ++ [x]] := by
  rw [lns_snoc, h]
  unfold lnStep
  simp [hq]

theorem lns_new {l : List Wd} {G : List (List Wd)} {g : List Wd} {x y : Wd} (h : lns l = G ++ [g ++ [y]]) (hq : y.q ≠ x.q) : lns (l ++ [x]) = (G ++ [g ++ [y]]) ++ [[x]] := by
  rw [lns_snoc, h]
  unfold lnStep
  simp [hq]

/-- The lines of the words pre, in the value vo; y is the last word. -/
def LS (n0 : Nat) (eo ei : TypeId) (pre : List Wd) (vo : Value) (W : World) : Prop :=
  (pre = [] ∧ vo = .slice none 0 0) ∨ ∃ G g y V v hs, lns pre = G ++ [g ++ [y]] ∧ pre.getLast? = some y ∧ G.length + 1 ≤ pre.length ∧ g.length + 1 ≤ pre.length ∧ MS n0 eo ei G (g ++ [y]) V v hs vo W

theorem LS.kept {n0 : Nat} {eo ei : TypeId} {pre : List Wd} {vo : Value} {W W' : World} {row : Option Nat} (h : LS n0 eo ei pre vo W) (hg : W.grownBy W' row) (hr : ∀ r, row = some r → ∃ o : Obj, W.heap[r]? = some o ∧ o.isCells = false) : LS n0 eo ei pre vo W' := by
  rcases h with h | ⟨G, g, y, V, v, hs, h1, h2, h3, h4, h5⟩
  · exact .inl h
  · exact .inr ⟨G, g, y, V, v, hs, h1, h2, h3, h4, h5.kept hg hr⟩

end Go.Proofs.YtnejkfccdnadcaaDoor
end

section
namespace Go.Proofs.YtnejkfccdnadcaaDoor
open Go.RowKit Go.Shelf Go.Lib

theorem keepsT_r (q : TypeId) (W : World) : KeepsT q W W := fun _ _ _ h => h
theorem keepsT_t {q : TypeId} {A B C : World} (h : KeepsT q A B) (k : KeepsT q B C) : KeepsT q A C := fun i cs fr e => k i cs fr (h i cs fr e)

theorem keepsT_set {q t : TypeId} {W : World} {B : Nat} {v : Value} (hb : Boxed W B t v) (hqt : q ≠ t) (u : Value) : KeepsT q W (W.setCell ⟨B, 0, none⟩ u) := by
  intro k cs fr h
  refine (Below.heap_setCell W _ _ k fun e => ?_).trans h
  subst e
  have h2 : W.heap[k]? = some (.cells #[v] t (0, 0)) := hb
  rw [h] at h2
  cases h2
  exact hqt rfl

theorem keepsT_grown {q e : TypeId} {W w1 : World} {base size n : Nat} {v : Value} {xs : List Value} (hr : W.ownsRow base e size v n xs) (hqe : q ≠ e) (hg : W.grownBy w1 v.ownBlock) : KeepsT q W w1 := by
  intro k cs fr h
  refine (hg.block k (lt_of_block h) fun e1 => ?_).trans h
  rcases hr.2 with ⟨rfl, _⟩ | ⟨g, cap, cur, rfl, _, hgb, _⟩
  · cases e1
  · have : k = g := by simpa [Value.ownBlock] using e1
    subst this
    rw [h] at hgb
    cases hgb
    exact hqe rfl

theorem boxed_other {W w1 : World} {B : Nat} {t e : TypeId} {u : Value} {base size n : Nat} {v : Value} {xs : List Value} (hb : Boxed W B t u) (hr : W.ownsRow base e size v n xs) (hte : t ≠ e) (hg : W.grownBy w1 v.ownBlock) : Boxed w1 B t u :=
  hb.kept hg (hb.not_row hte hr)

theorem others_grown {e : TypeId} {W w1 : World} {base size n : Nat} {v : Value} {xs : List Value} (hr : W.ownsRow base e size v n xs) (hg : W.grownBy w1 v.ownBlock) : KeepsOthers W w1 := by
  refine KeepsOthers.of_grownBy hg fun j o ej hj => ?_
  rcases hr.2 with ⟨rfl, _⟩ | ⟨g, cap, cur, rfl, _, hgb, _⟩
  · simp [Value.ownBlock] at ej
  · obtain rfl : g = j := by simpa [Value.ownBlock] using ej
    rw [hgb] at hj; cases hj; rfl

section
variable {n0 : Nat} {t3 t4 eo ei q : TypeId} {vo u4 vo' : Value} {W w1 : World} {Bx : Nat} {cs : Array Value} {tmp : Obj} {n k : Nat} {xs ys : List Value}

/-- A new line in the boxed row of all: what holds behind the store. -/
theorem new_line (b3 : Boxed W n0 t3 vo) (b4 : Boxed W (n0 + 1) t4 u4) (bX : W.heap[Bx]? = some (.cells cs ei (0, 0))) (hr : W.ownsRow n0 eo 1 vo n xs) (hn : n0 ≤ W.heap.size) (hg : (W.alloc tmp).grownBy w1 vo.ownBlock)
    (h1 : t3 ≠ eo) (h2 : t4 ≠ eo) (h3 : ei ≠ eo) (h4 : t3 ≠ ei) (h5 : q ≠ eo) (h6 : q ≠ t3) :
    Boxed w1 n0 t3 vo ∧ Boxed (w1.setCell ⟨n0, 0, none⟩ vo') n0 t3 vo' ∧ Boxed (w1.setCell ⟨n0, 0, none⟩ vo') (n0 + 1) t4 u4 ∧ (w1.setCell ⟨n0, 0, none⟩ vo').heap[Bx]? = some (.cells cs ei (0, 0)) ∧
      KeepsOthers W (w1.setCell ⟨n0, 0, none⟩ vo') ∧ KeepsT q W (w1.setCell ⟨n0, 0, none⟩ vo') ∧ Below n0 W (w1.setCell ⟨n0, 0, none⟩ vo') := by
  have hra := hr.alloc tmp
  have a3 := boxed_other (b3.alloc tmp) hra h1 hg
  have a4 := boxed_other (b4.alloc tmp) hra h2 hg
  have aX : w1.heap[Bx]? = some (.cells cs ei (0, 0)) := by
    have hx : (W.alloc tmp).heap[Bx]? = some (.cells cs ei (0, 0)) := (Below.heap_alloc W tmp Bx (lt_of_block bX)).trans bX
    refine (hg.block Bx (lt_of_block hx) fun e => ?_).trans hx
    rcases hra.2 with ⟨rfl, _⟩ | ⟨g, cap, cur, rfl, _, hgb, _⟩
    · cases e
    · have : Bx = g := by simpa [Value.ownBlock] using e
      subst this
      rw [hx] at hgb
      cases hgb
      exact h3 rfl
  refine ⟨a3, a3.set vo', a4.kept (grownBy_setCell' w1 n0 vo') (by simp), ?_, ?_, ?_, ?_⟩
  · refine (Below.heap_setCell w1 _ _ Bx fun e => ?_).trans aX
    subst e
    have h2 : w1.heap[Bx]? = some (.cells #[vo] t3 (0, 0)) := a3
    rw [aX] at h2
    cases h2
    exact h4 rfl
  · exact ((KeepsOthers.alloc W tmp).trans (others_grown hra hg)).trans (KeepsOthers.setCell _ _ _)
  · exact keepsT_t (keepsT_t (fun k _ _ h => (Below.heap_alloc W tmp k (lt_of_block h)).trans h) (keepsT_grown hra h5 hg)) (keepsT_set a3 h6 vo')
  · exact (((Below.refl n0 W).alloc hn tmp).grown hg (by simp; omega) (fun j e => (hra.lt j e).1)).setCell (p := ⟨n0, 0, none⟩) (Nat.le_refl _) vo'

/-- The last line's number is stored. -/
theorem new_last {G : List (List Wd)} {g : List Wd} {V : List Value} {v : Value} {hs : Nat} (b3 : Boxed W n0 t3 vo) (b4 : Boxed W (n0 + 1) t4 u4) (bX : W.heap[Bx]? = some (.cells cs ei (0, 0))) (h4 : t4 ≠ ei) (h5 : t4 ≠ eo) (h6 : q ≠ t4) (u : Value)
    (hms : MS n0 eo ei G g V v hs vo W) :
    Boxed (W.setCell ⟨n0 + 1, 0, none⟩ u) n0 t3 vo ∧ Boxed (W.setCell ⟨n0 + 1, 0, none⟩ u) (n0 + 1) t4 u ∧ (W.setCell ⟨n0 + 1, 0, none⟩ u).heap[Bx]? = some (.cells cs ei (0, 0)) ∧ MS n0 eo ei G g V v hs vo (W.setCell ⟨n0 + 1, 0, none⟩ u) ∧
      KeepsOthers W (W.setCell ⟨n0 + 1, 0, none⟩ u) ∧ KeepsT q W (W.setCell ⟨n0 + 1, 0, none⟩ u) ∧ Below n0 W (W.setCell ⟨n0 + 1, 0, none⟩ u) := by
  refine ⟨b3.kept (grownBy_setCell' W (n0 + 1) u) (by simp), b4.set u, ?_, hms.set b4 h5 h4 u, KeepsOthers.setCell _ _ _, keepsT_set b4 h6 u, (Below.refl n0 W).setCell (p := ⟨n0 + 1, 0, none⟩) (Nat.le_succ _) u⟩
  refine (Below.heap_setCell W _ _ Bx fun e => ?_).trans bX
  subst e
  have h2 : W.heap[n0 + 1]? = some (.cells #[u4] t4 (0, 0)) := b4
  rw [bX] at h2
  cases h2
  exact h4 rfl

/-- A new word in the last line: what holds behind the store. -/
theorem new_word {G : List (List Wd)} {g : List Wd} {x : Wd} {V : List Value} {v v' : Value} {hs bo cap : Nat} (b3 : Boxed W n0 t3 vo) (b4 : Boxed W (n0 + 1) t4 u4) (hms : MS n0 eo ei G g V v hs (.slice (some ⟨bo, 0, none⟩) (V.length + 1) cap) W) (hn : n0 ≤ W.heap.size)
    (hg : (W.alloc tmp).grownBy w1 v.ownBlock) (ho : w1.ownsRow hs ei 3 v' (g.length + 1) (g.flatMap Wd.cells ++ Wd.cells x))
    (h1 : t3 ≠ eo) (h2 : t4 ≠ eo) (h3 : eo ≠ ei) (h4 : t3 ≠ ei) (h5 : t4 ≠ ei) (h6 : q ≠ eo) (h7 : q ≠ ei) :
    MS n0 eo ei G (g ++ [x]) V v' hs (.slice (some ⟨bo, 0, none⟩) (V.length + 1) cap) (w1.setCell ⟨bo, V.length, none⟩ v') ∧ Boxed (w1.setCell ⟨bo, V.length, none⟩ v') n0 t3 vo ∧ Boxed (w1.setCell ⟨bo, V.length, none⟩ v') (n0 + 1) t4 u4 ∧
      KeepsOthers W (w1.setCell ⟨bo, V.length, none⟩ v') ∧ KeepsT q W (w1.setCell ⟨bo, V.length, none⟩ v') ∧ Below n0 W (w1.setCell ⟨bo, V.length, none⟩ v') := by
  have hra := hms.cur.alloc tmp
  have a3 := boxed_other (b3.alloc tmp) hra h4 hg
  have a4 := boxed_other (b4.alloc tmp) hra h5 hg
  obtain ⟨hrow, _, _⟩ := hms.mid h3 hg
  obtain ⟨hst, hgs⟩ := hrow.stored V.length v'
  have hob : (Value.slice (some ⟨bo, 0, none⟩) (V.length + 1) cap).ownBlock = some bo := rfl
  rw [← hob] at hgs
  have hlow := hms.low
  refine ⟨hms.add h3 hg ho, boxed_other a3 hrow h1 hgs, boxed_other a4 hrow h2 hgs, ?_, ?_, ?_⟩
  · exact ((KeepsOthers.alloc W tmp).trans (others_grown hra hg)).trans (KeepsOthers.setCell _ _ _)
  · exact keepsT_t (keepsT_t (fun k _ _ h => (Below.heap_alloc W tmp k (lt_of_block h)).trans h) (keepsT_grown hra h7 hg)) (keepsT_grown hrow h6 hgs)
  · exact (((Below.refl n0 W).alloc hn tmp).grown hg (by simp; omega) (fun j e => by have := (hra.lt j e).1; omega)).setCell (p := ⟨bo, V.length, none⟩) ((hrow.lt bo hob).1) v'
end

end Go.Proofs.YtnejkfccdnadcaaDoor
end

section
namespace Go.Proofs.YtnejkfccdnadcaaDoor
open Go.RowKit

/-- Plain: it calls no function of Go, defers nothing, starts nothing. -/
def plainB (o : Oper) : Bool :=
  match o.op with
  | .move _ => true
  | .assign _ => true
  | .binOp .. => true
  | .load .. => true
  | .store .. => true
  | .indexAddr .. => true
  | .fieldAddr .. => true
  | .buildSlice .. => true
  | .call c => match c.callee with
    | .builtin .append => true
    | .builtin .len => true
    | _ => false
  | _ => false

theorem run_val {P : Program} {w : World} (s : Sem Value) : ((do pure (Next.value (← s)) : Sem Next)).run P w = match s.run P w with
    | .ok x w' => .ok (.value x) w'
    | .halt e w' => .halt e w' := by
  rw [Sem.run_bind]
  cases s.run P w <;> rfl

theorem run_unit {P : Program} {w : World} (s : Sem Unit) : ((do s; pure Next.skip : Sem Next)).run P w = match s.run P w with
    | .ok _ w' => .ok .skip w'
    | .halt e w' => .halt e w' := by
  rw [Sem.run_bind]
  cases s.run P w <;> rfl

theorem plain_run {P : Program} {o : Oper} (h : plainB o = true) (ρ : Operand → Value) (w : World) :
    (∃ v w', (execOp ρ o).run P w = .ok (.value v) w') ∨ (∃ w', (execOp ρ o).run P w = .ok .skip w') ∨ (∃ e w', (execOp ρ o).run P w = .halt e w') := by
  have hv : ∀ s : Sem Value, (execOp ρ o = do pure (Next.value (← s))) → (∃ v w', (execOp ρ o).run P w = .ok (.value v) w') ∨ (∃ w', (execOp ρ o).run P w = .ok .skip w') ∨ (∃ e w', (execOp ρ o).run P w = .halt e w') := by
    intro s hs
    rw [hs, run_val]
    cases s.run P w with
    | ok x w' => exact .inl ⟨_, _, rfl⟩
    | halt e w' => exact .inr (.inr ⟨_, _, rfl⟩)
  have hu : ∀ s : Sem Unit, (execOp ρ o = do s; pure Next.skip) → (∃ v w', (execOp ρ o).run P w = .ok (.value v) w') ∨ (∃ w', (execOp ρ o).run P w = .ok .skip w') ∨ (∃ e w', (execOp ρ o).run P w = .halt e w') := by
    intro s hs
    rw [hs, run_unit]
    cases s.run P w with
    | ok x w' => exact .inr (.inl ⟨_, rfl⟩)
    | halt e w' => exact .inr (.inr ⟨_, _, rfl⟩)
  unfold plainB at h
  split at h
  case h_1 x ho => exact .inl ⟨_, _, by simp only [execOp, ho]; rfl⟩
  case h_2 x ho => exact .inl ⟨_, _, by simp only [execOp, ho]; rfl⟩
  case h_3 op ty x y yt ho => exact hv (do eqGuard op ty x y (ρ x) (ρ y); binOp op ty (ρ x) (ρ y)) (by simp only [execOp, ho])
  case h_4 ty x ho => exact hv (Instr.loadAt ty (ρ x)) (by simp only [execOp, ho])
  case h_5 ty x y ho => exact hu (Instr.storeAt ty (ρ x) (ρ y)) (by simp only [execOp, ho])
  case h_6 ty x ix ho => exact hv (Instr.indexAt ty (ρ x) (ρ ix)) (by simp only [execOp, ho])
  case h_7 s x f ho => exact hv (Instr.fieldAt s (ρ x) f) (by simp only [execOp, ho])
  case h_8 ty len parts ho => exact hv (Instr.buildSlice ty len (parts.map fun (i, x) => (i, ρ x))) (by simp only [execOp, ho])
  case h_9 c ho =>
    split at h
    case h_1 hc => exact hv (Builtin.append_ c.argTypes o.type (c.args.map ρ)) (by simp only [execOp, ho, resolve, hc, invoke, builtin, pure_bind])
    case h_2 hc => exact hv (Builtin.len_ c.argTypes o.type (c.args.map ρ)) (by simp only [execOp, ho, resolve, hc, invoke, builtin, pure_bind])
    case h_3 => cases h
  case h_10 => cases h

theorem plain_about {P : Program} {o : Oper} (h : plainB o = true) (ρ : Operand → Value) (w : World) : o.about P w ρ = none := by
  unfold plainB at h
  split at h
  case h_9 c ho =>
    split at h
    case h_1 hc => simp [Oper.about, ho, resolve, hc, Target.leads, Sem.run_pure]
    case h_2 hc => simp [Oper.about, ho, resolve, hc, Target.leads, Sem.run_pure]
    case h_3 => cases h
  case h_10 => cases h
  all_goals (rename_i ho; simp [Oper.about, ho])

theorem plain_defer {o : Oper} (h : plainB o = true) : ∀ c, o.op ≠ .defer c := by
  intro c hc
  unfold plainB at h
  rw [hc] at h
  cases h

theorem wp_in {F : Fence} {n : Nat} {P : Program} {o : Oper} {a : Act} {w : World} {K : Act → World → Prop} {Q : Exit → Act → World → Prop} (h : plainB o = true) (hw : o.wp P a w K Q) : o.wpIn F n P a w K Q := by
  refine ⟨fun f hf => (by rw [plain_about h] at hf; cases hf), ?_⟩
  rw [Oper.semAt_plain F _ _ (plain_defer h)]
  unfold Oper.wp at hw
  rcases plain_run (P := P) h a.eval w with ⟨v, w', e⟩ | ⟨w', e⟩ | ⟨e', w', e⟩
  · rw [e] at hw ⊢; exact hw
  · rw [e] at hw ⊢; exact hw
  · rw [e] at hw ⊢
    cases e' <;> first | exact hw | exact hw.elim

theorem any_in {F : Fence} {n : Nat} {P : Program} {ops : Array Oper} {md : Region.Mode} {Q : Exit → Act → World → Prop} (hp : ∀ (i : Nat) o, ops[i]? = some o → plainB o = true) (hQ : ¬ LetsOut Q) :
    ∀ (fuel : Nat) (listed : Array Bool) (a : Act) (w : World), wpAny P md ops Q fuel listed a w → wpAnyIn F n P md ops Q fuel listed a w
  | 0, _, _, _, h => h
  | fuel + 1, listed, a, w, h => ⟨h.1, fun i hi => by
      have h2 := h.2 i hi
      unfold wpOp at h2
      unfold wpOpIn
      cases ho : ops[i]? with
      | none => rw [ho] at h2; exact any_in hp hQ fuel _ _ _ h2
      | some o =>
        rw [ho] at h2
        simp only at h2 ⊢
        split at h2
        · rename_i hw
          rw [if_pos hw]
          rcases h2 with h2 | h2
          · exact Oper.wpIn_mono (fun a' w' h' => any_in hp hQ fuel _ a' w' h') (wp_in (hp i o ho) h2)
          · exact absurd h2.2 hQ
        · rename_i hw
          rw [if_neg hw]
          exact ⟨fun f hf => (by rw [plain_about (hp i o ho)] at hf; cases hf), any_in hp hQ fuel _ _ _ h2⟩⟩

theorem wpIn_region_plain {F : Fence} {n : Nat} {P : Program} {ops : Array Oper} {Q : Exit → Act → World → Prop} {S : World → Prop} {id : Nat} {a : Act} {w : World} (hm : P.follows .mixedOrders = true) (hp : ops.all plainB = true) (hQ : ¬ LetsOut Q)
    (h : wpAnyH P .any ops Q S ops.size (Array.replicate ops.size false) a w.drew) : (Code.region id ops true).wpIn F n P Q a w :=
  wpIn_region_any hm (any_in (fun i o ho => by
    obtain ⟨hi, rfl⟩ := Array.getElem?_eq_some_iff.1 ho
    exact (Array.all_eq_true.1 hp) i hi) hQ _ _ _ _ (wpAny_of_held _ _ _ _ h))

end Go.Proofs.YtnejkfccdnadcaaDoor
end

section
namespace Go.Proofs.YtnejkfccdnadcaaDoor
open Go.RowKit Go.Shelf Go.Lib

attribute [local go_sem] Oper.semAt_some

/-- A word with a line. -/
abbrev Wq := { x : Wd // 1 ≤ x.q ∧ x.q ≤ 100000 }

theorem abides_map {α β : Type} (f : α → β) {B : Nat} {J : List α → World → Prop} (h : AbidesFrom B J) : AbidesFrom B (fun (l : List β) W => ∃ l', l'.map f = l ∧ J l' W) :=
  fun _ W W' row ⟨l', e, hj⟩ hg hr => ⟨l', e, h l' W W' row hj hg hr⟩

/-- What lex.words hands back yields words with lines. -/
theorem words_stopsQ (Bs n₀ : Nat) (s : ByteArray) (hs : s.size ≤ 65536) (m : Int) (w : World)
    (hmn : 1 < n₀) (hn : n₀ ≤ w.heap.size) (hBl : Bs < w.heap.size) (hBs : w.cell? ⟨Bs, 0, none⟩ = some (.string s))
    (hm : w.cell? ⟨1, 0, none⟩ = some (.int .i64 m)) :
    SeqStopsK Fence.wide 1 Tryd.prog 41 #[.pointer (some ⟨Bs, 0, none⟩)] (fun x : Wq => #[x.1.enc]) (KeepsW n₀) (fun ys => ys.map Subtype.val = textW s) (fun pre => pre.map Subtype.val <+: textW s) (textW s).length w := fun l J Jx W hW hJ hJx hY h0 => by
  have h1 := splitB_sum (Lib.countB s ⟨#[10]⟩) s
  have h2 := sum_len (Lib.splitB ⟨#[10]⟩ 0 (Lib.countB s ⟨#[10]⟩) s)
  refine (words1_in l Bs n₀ s hs m _ rfl (by omega) (by omega) (fun (l : List Wd) W => ∃ l' : List Wq, l'.map Subtype.val = l ∧ J l' W) (fun (l : List Wd) W => ∃ l' : List Wq, l'.map Subtype.val = l ∧ Jx l' W) hmn (textW s) rfl ?_ W (abides_map Subtype.val hJ)
    ((hW.cell (p := ⟨Bs, 0, none⟩) hBl).trans hBs) (Nat.le_trans hn hW.size) ((hW.cell (p := ⟨1, 0, none⟩) (by simp; omega)).trans hm) ⟨[], rfl, h0⟩).mono ?_
  · rintro pre x W1 ⟨pre', rfl, hj⟩ hp
    have hx : x ∈ textW s := hp.subset (by simp)
    have hb := text_bd s x hx
    have hlen := hp.length_le
    simp at hlen
    have hy := hY pre' ⟨x, hb.2.1, by have := hb.2.2; omega⟩ W1 hj (by omega)
    refine YieldAt.mono hy ?_
    rintro e W' (⟨he, hj2, hk⟩ | ⟨he, hj2⟩)
    · exact .inl ⟨he, ⟨_, by simp, hj2⟩, hk⟩
    · exact .inr ⟨he, ⟨_, by simp, hj2⟩⟩
  · rintro e W' ⟨hv, ⟨ys, rfl', ⟨ys', e1, hj⟩⟩ | ⟨pre, hp, ⟨pre', e1, hj⟩⟩⟩
    · exact ⟨hv, .inl ⟨ys', e1.trans rfl', hj⟩⟩
    · exact ⟨hv, .inr ⟨pre', (e1 ▸ hp : pre'.map Subtype.val <+: textW s), hj⟩⟩

/-- The last word's line. -/
def lastq (l : List Wd) : Int := match l.getLast? with
  | none => 0
  | some y => y.q

theorem lastq_snoc (l : List Wd) (x : Wd) : lastq (l ++ [x]) = x.q := by simp [lastq]

theorem boxed_notcell {W W' : World} {B : Nat} {t : TypeId} {v : Value} {row : Option Nat} (h : Boxed W B t v) (hg : W.grownBy W' row) (hr : ∀ r, row = some r → ∃ o : Obj, W.heap[r]? = some o ∧ o.isCells = false) : Boxed W' B t v := by
  refine h.kept hg fun e => ?_
  obtain ⟨o, ho, hc⟩ := hr B e.symm
  rw [show W.heap[B]? = _ from h] at ho
  cases ho
  cases hc

theorem infoR : (Tryd.prog.info? 73).map (fun i => (i.zero, i.size, i.bytes)) = some (some (.slice none 0 0), 1, 24) := by kernel_rfl

/-- What the rounds of lex.Lines keep. -/
def LI (n0 B3 B4 : Nat) (pre : List Wq) (W : World) : Prop :=
  ∃ vo, Boxed W B3 71 vo ∧ Boxed W B4 3 (.int .i64 (lastq (pre.map Subtype.val))) ∧ LS n0 73 77 (pre.map Subtype.val) vo W

theorem li_own (n0 B3 B4 : Nat) : Own (LI n0 B3 B4) := fun _ _ _ _ ⟨vo, h1, h2, h3⟩ hg hr =>
  ⟨vo, boxed_notcell h1 hg hr, boxed_notcell h2 hg hr, h3.kept hg hr⟩

set_option maxRecDepth 100000 in
set_option maxHeartbeats 4000000 in
/-- lex.Lines: the words of the text, line by line. -/
theorem lines_in (s : ByteArray) (hs : s.size ≤ 65536) (m : Int) (w : World) (hm : w.cell? ⟨1, 0, none⟩ = some (.int .i64 m)) :
    CallsIn Fence.wide 2 Tryd.prog 22 #[.string s] w fun e W' =>
      ∃ v, e = .returned v ∧ LS w.heap.size 73 77 (textW s) v W' ∧ Below w.heap.size w W' := by
  have hmn : 1 < w.heap.size := cell_lt hm
  have hN := textW_len s
  obtain ⟨i0, hi, hz0, hz1, hz2⟩ := info_parts infoW
  obtain ⟨j0, hj, hy0, hy1, hy2⟩ := info_parts infoR
  refine callsIn_of_wp_marks Tryd.func22 rfl trivial ?_ rfl
  simp only [Tryd.ntmps22, List.size_toArray, List.length_cons, List.length_nil, Nat.reduceAdd, Nat.reduceSub, Array.replicate_succ, Array.replicate_zero, List.push_toArray, List.append_toArray, List.nil_append, List.cons_append]
  gi_wp2_with (refine ⟨trivial, ?_⟩; gi_at_call 34; refine (words_in _ s _).mono ?_; rintro e w' ⟨rfl, rfl⟩)
  have b3 := ((Boxed.new w 71 (.slice none 0 0)).alloc (.cells #[.int .i64 0] 3)).alloc (.cells #[.string s] 9)
  have b4 := (Boxed.new (w.alloc (.cells #[.slice none 0 0] 71)) 3 (.int .i64 0)).alloc (.cells #[.string s] 9)
  have bs := (Boxed.new ((w.alloc (.cells #[.slice none 0 0] 71)).alloc (.cells #[.int .i64 0] 3)) 9 (.string s)).cell
  have hB0 : Below w.heap.size w (((w.alloc (.cells #[.slice none 0 0] 71)).alloc (.cells #[.int .i64 0] 3)).alloc (.cells #[.string s] 9)) := (((Below.refl _ w).alloc (Nat.le_refl _) _).alloc (by simp) _).alloc (by simp; omega) _
  have hsz : (((w.alloc (.cells #[.slice none 0 0] 71)).alloc (.cells #[.int .i64 0] 3)).alloc (.cells #[.string s] 9)).heap.size = w.heap.size + 3 := by simp
  have hs1 : (w.alloc (.cells #[.slice none 0 0] 71)).heap.size = w.heap.size + 1 := by simp
  have hs2 : ((w.alloc (.cells #[.slice none 0 0] 71)).alloc (.cells #[.int .i64 0] 3)).heap.size = w.heap.size + 1 + 1 := by simp
  rw [hs1] at b4
  rw [hs2] at bs
  generalize ((w.alloc (.cells #[.slice none 0 0] 71)).alloc (.cells #[.int .i64 0] 3)).alloc (.cells #[.string s] 9) = W0 at b3 b4 bs hB0 hsz ⊢
  clear hs1 hs2
  refine wpIn_rangeFunc_ownH rfl (by omega) (gf := 41) (lb := #[.pointer (some ⟨w.heap.size + 1 + 1, 0, none⟩)]) rfl trivial (enters_of Tryd.func41 (by kernel_rfl) rfl)
    (words_stopsQ (w.heap.size + 1 + 1) w.heap.size s hs m W0 hmn (by omega) (by omega) bs ((hB0.cell (p := ⟨1, 0, none⟩) hmn).trans hm))
    keepsW_t (keepsW_b (by omega)) (Below.refl _ _) (fun _ => rfl)
    (fun (pre : List Wq) W => LI w.heap.size w.heap.size (w.heap.size + 1) pre W ∧ Below w.heap.size w W)
    (fun _ _ _ => False)
    (OwnFrom.and (Own.from (li_own w.heap.size w.heap.size (w.heap.size + 1)) _) (ownFrom_below (Nat.le_refl _) (by omega)))
    (fun _ _ _ _ _ hs _ _ => hs)
    ⟨⟨_, b3, b4, .inl ⟨rfl, rfl⟩⟩, hB0⟩
    (fun x a' W => ∃ Bx, w.heap.size + 1 < Bx ∧ W.heap[Bx]? = some (.cells #[.int .i64 x.1.p, .int .i64 x.1.q, .string x.1.t] 77 (0, 0)) ∧ a' = { tmps := #[.string s, undef, .slice none 0 0, .pointer (some ⟨w.heap.size, 0, none⟩), .pointer (some ⟨w.heap.size + 1, 0, none⟩), .pointer (some ⟨Bx, 0, none⟩), .string s, .func (.func 41) #[] #[.pointer (some ⟨w.heap.size + 1 + 1, 0, none⟩)], x.1.enc, undef, undef, undef, undef, undef, undef, undef, undef, undef, undef, undef, undef, undef, undef, undef, undef, undef, undef, undef, undef, undef, undef, undef, undef], defers := [] })
    (fun x a' _ X Y row hs hg hr => by
      obtain ⟨Bx, h1, h2, h3⟩ := hs
      refine ⟨Bx, h1, (hg.block Bx (lt_of_block h2) (fun e => ?_)).trans h2, h3⟩
      obtain ⟨_, o, ho, hc⟩ := hr _ e.symm
      rw [h2] at ho
      cases ho
      cases hc)
    ?assign ?body ?done ?stop
  case assign =>
    rintro l pre ⟨⟨xp, xq, xt⟩, hq⟩ W K ⟨⟨vo, bv3, bv4, hls⟩, hB1⟩ hK
    dsimp only [Wd.enc] at hK ⊢
    gi_wp2
    exact hK _ _ ((KeepsOthers.alloc _ _).from _) ⟨(Below.refl _ W).alloc hB1.size _, keepsT_alloc _ _⟩ ⟨⟨vo, bv3.alloc _, bv4.alloc _, hls.kept (World.grownBy_alloc W _ none) (fun r e => by cases e)⟩, hB1.alloc hB1.size _⟩ ⟨W.heap.size, bv4.lt, heap_alloc_new W _, rfl⟩
  case body =>
    rintro l pre ⟨⟨xp, xq, xt⟩, hq⟩ a' W hl ⟨r, hr⟩ ⟨⟨vo, bv3, bv4, hls⟩, hB1⟩ ⟨Bx, hBx, bX, rfl⟩ hlt
    dsimp only [Wd.enc] at bX ⊢
    have hx0 : W.cell? ⟨Bx, 0, none⟩ = some (.int .i64 xp) := by simp [World.cell?, bX]
    have hx1 : W.cell? ⟨Bx, 1, none⟩ = some (.int .i64 xq) := by simp [World.cell?, bX]
    have hx2 : W.cell? ⟨Bx, 2, none⟩ = some (.string xt) := by simp [World.cell?, bX]
    have hc3 := bv3.cell
    have hc4 := bv4.cell
    have hf3 := bv3.frozen
    have hf4 := bv4.frozen
    have hmap : (pre ++ [(⟨⟨xp, xq, xt⟩, hq⟩ : Wq)]).map Subtype.val = pre.map Subtype.val ++ [⟨xp, xq, xt⟩] := by simp
    have hplen : (pre.map Subtype.val).length < (textW s).length := by rw [List.length_map]; exact hlt
    have HMAP := Lib.hid hmap
    clear hmap
    generalize pre.map Subtype.val = P at *
    obtain ⟨ql, hql⟩ : ∃ q, lastq P = q := ⟨_, rfl⟩
    rw [hql] at bv4 hc4
    have HQL := Lib.hid hql
    clear hql
    gi_upto_if 12 with (fail)
    obtain ⟨bq, hbq⟩ : ∃ b, (xq != ql) = b := ⟨_, rfl⟩
    rw [hbq]
    have HBQ := Lib.hid hbq
    clear hbq
    gi_cut [13] from 33 (fun _ W' => ∃ G g V v hs vo, Hid (lns (P ++ [⟨xp, xq, xt⟩]) = G ++ [g ++ [⟨xp, xq, xt⟩]]) ∧ G.length ≤ P.length ∧ g.length ≤ P.length ∧ Boxed W' w.heap.size 71 vo ∧ Boxed W' (w.heap.size + 1) 3 (.int .i64 xq) ∧
      MS w.heap.size 73 77 G g V v hs vo W' ∧ W'.heap[Bx]? = some (.cells #[.int .i64 xp, .int .i64 xq, .string xt] 77 (0, 0)) ∧ KeepsOthers W W' ∧ KeepsW w.heap.size W W' ∧ Below w.heap.size w W')
    case first =>
      rcases hls with ⟨hp0, rfl⟩ | ⟨G, g, y, V, v, hs', h1, h2, h3, h4, hms⟩
      · subst hp0
        have hl0 : ql = 0 := HQL.out.symm
        obtain rfl : bq = true := by rw [← HBQ.out, hl0]; have := hq.1; simp at this ⊢; omega
        clear hl0
        have hrow := World.ownsRow_nil W w.heap.size 73 1
        gi_wp2_with (gi_at_builtin; refine wpListIn_append_own _ rfl _ _ 71 rfl w.heap.size 73 j0 _ 1 24 Tryd.underlying71 hj hy0 hy1 hy2 rfl (by decide) _ 0 [] rfl (hrow.alloc _) ⟨W.heap.size, 0, none⟩ 1 1 [.slice none 0 0] rfl rfl (cell_one_new _ _ _) (by simp [Value.oneCell']) (by unfold maxLen; omega) (by omega) (by have := hB1.size; simp; omega) ?_; intro v' w1 hown' hgrow _; obtain ⟨g', cap', rfl⟩ := ownsRow_succ hown'; obtain ⟨n1, n2, n3, n4, n5, n6, n7⟩ := new_line (q := 9) (vo' := .slice (some ⟨g', 0, none⟩) (0 + 1) cap') bv3 bv4 bX hrow hB1.size hgrow (by decide) (by decide) (by decide) (by decide) (by decide) (by decide); have hc1 := n1.cell; have hf1 := n1.frozen; have hx1' := cell_of_row _ Bx 1 _ _ _ n4; have hc4' := n3.cell; have hf4' := n3.frozen)
        obtain ⟨l1, l2, l3, l4, l5, l6, l7⟩ := new_last (q := 9) n2 n3 n4 (by decide) (by decide) (by decide) (.int .i64 xq) ((ms_first hown' (by have h9 := hgrow.size; have := hB1.size; simp at h9; omega)).set n1 (by decide) (by decide) (.slice (some ⟨g', 0, none⟩) (0 + 1) cap'))
        gi_meet
        exact ⟨[], [], [], .slice none 0 0, _, _, Lib.hid rfl, by simp, by simp, l1, l2, l4, l3, n5.trans l5, ⟨n7.trans l7, keepsT_t n6 l6⟩, hB1.trans (n7.trans l7)⟩
      · have hql : lastq P = y.q := by unfold lastq; rw [h2]
        have hyl : ql = y.q := HQL.out.symm.trans hql
        clear hql
        cases hbq : bq with
        | false =>
          subst hbq
          have hyq : y.q = xq := by have := HBQ.out; simp at this; omega
          subst hyl
          clear HQL HBQ
          gi_wp2
          gi_meet
          exact ⟨G, g ++ [y], V, v, hs', vo, Lib.hid (lns_same h1 hyq), by omega, by simp; omega, bv3, (hyq ▸ bv4), hms, bX, KeepsOthers.refl _, ⟨Below.refl _ _, keepsT_r _ _⟩, hB1⟩
        | true =>
          subst hbq
          have hyq : y.q ≠ xq := by have := HBQ.out; simp at this; omega
          clear hyl
          have hrow := hms.out
          have HLN := Lib.hid hms.len
          gi_wp2_with (gi_at_builtin; refine wpListIn_append_own _ rfl _ _ 71 rfl w.heap.size 73 j0 _ 1 24 Tryd.underlying71 hj hy0 hy1 hy2 rfl (by decide) _ (V.length + 1) (V ++ [v]) rfl (hrow.alloc _) ⟨W.heap.size, 0, none⟩ 1 1 [.slice none 0 0] rfl rfl (cell_one_new _ _ _) (by simp [Value.oneCell']) (by have := HLN.out; unfold maxLen; omega) (by have := HLN.out; omega) (by have := hB1.size; simp; omega) ?_; intro v' w1 hown' hgrow _; obtain ⟨g', cap', rfl⟩ := ownsRow_succ hown'; obtain ⟨n1, n2, n3, n4, n5, n6, n7⟩ := new_line (q := 9) (vo' := .slice (some ⟨g', 0, none⟩) (V.length + 1 + 1) cap') bv3 bv4 bX hrow hB1.size hgrow (by decide) (by decide) (by decide) (by decide) (by decide) (by decide); have hc1 := n1.cell; have hf1 := n1.frozen; have hx1' := cell_of_row _ Bx 1 _ _ _ n4; have hc4' := n3.cell; have hf4' := n3.frozen)
          obtain ⟨l1, l2, l3, l4, l5, l6, l7⟩ := new_last (q := 9) n2 n3 n4 (by decide) (by decide) (by decide) (.int .i64 xq) ((hms.next (by decide) hgrow hown').set n1 (by decide) (by decide) (.slice (some ⟨g', 0, none⟩) (V.length + 1 + 1) cap'))
          gi_meet
          exact ⟨G ++ [g ++ [y]], [], V ++ [v], .slice none 0 0, _, _, Lib.hid (lns_new h1 hyq), by simp; omega, by simp, l1, l2, l4, l3, n5.trans l5, ⟨n7.trans l7, keepsT_t n6 l6⟩, hB1.trans (n7.trans l7)⟩
    case rest =>
      obtain ⟨G, g, V, v, hs', vo, HL, hG, hg, c3, c4, hms, cX, hko, hkw, hB2⟩ := hcut
      obtain ⟨bo, cap, rfl, hbo1, hbo2, hcb, hfb⟩ := hms.at
      obtain ⟨A, c, rfl⟩ := hms.val
      have HLN := Lib.hid hms.len
      have hkb : V.length ≤ 65537 := by rw [HLN.out]; omega
      have HMS := Lib.hid hms
      have hcur := hms.cur
      obtain ⟨k, hk⟩ : ∃ k, V.length = k := ⟨_, rfl⟩
      rw [hk] at c3 hcb hfb hkb
      have HK := Lib.hid hk
      obtain ⟨gl, hgl⟩ : ∃ k, g.length = k := ⟨_, rfl⟩
      rw [hgl] at hcb hcur
      have HGL := Lib.hid hgl
      have hcurd : wc.drew.ownsRow hs' 77 3 (.slice A gl c) gl (g.flatMap Wd.cells) := hcur
      have HCUR := Lib.hid hcurd
      clear hcur hcurd
      have hgb : gl ≤ 65537 := by rw [← hgl]; omega
      clear hk hms hgl
      have hk1 : IntKind.i64.wrap (k : Int) = (k : Int) := by rw [IntKind.wrap_i64]; omega
      have hk2 : (k : Int) < (k : Int) + 1 := by omega
      have hcd : wc.drew.cell? ⟨bo, k, none⟩ = some (.slice A gl c) := hcb
      have d3 : Boxed wc.drew w.heap.size 71 (.slice (some ⟨bo, 0, none⟩) (k + 1) cap) := c3
      have d4 : Boxed wc.drew (w.heap.size + 1) 3 (.int .i64 xq) := c4
      have hx0' : wc.drew.cell? ⟨Bx, 0, none⟩ = some (.int .i64 xp) := cell_of_row _ Bx 0 _ _ _ cX
      have hx1' : wc.drew.cell? ⟨Bx, 1, none⟩ = some (.int .i64 xq) := cell_of_row _ Bx 1 _ _ _ cX
      have hx2' : wc.drew.cell? ⟨Bx, 2, none⟩ = some (.string xt) := cell_of_row _ Bx 2 _ _ _ cX
      have hS0 : wc.drew.cell? ⟨w.heap.size, 0, none⟩ = some (.slice (some ⟨bo, 0, none⟩) (k + 1) cap) := c3.cell
      gi_upto_region 8 with (fail)
      refine wpIn_region_plain (S := fun W' => W'.cell? ⟨w.heap.size, 0, none⟩ = some (.slice (some ⟨bo, 0, none⟩) (k + 1) cap)) (by kernel_rfl) (by kernel_rfl) (by rintro ⟨_, _, h⟩; exact h) ?_
      refine wpAnyH_take (i := 0) (v := ?_) rfl (by kernel_rfl) (by kernel_rfl) (by kernel_rfl) (fun _ _ _ h => h) (Or.inl ⟨by rfl, fun W' hS => ?_⟩) hS0 ?_
      rotate_left
      · go_simp
        try with_reducible rfl
      refine wpAnyH_take (i := 1) (v := ?_) rfl (by kernel_rfl) (by kernel_rfl) (by kernel_rfl) (fun _ _ _ h => h) (Or.inl ⟨by rfl, fun W' hS => ?_⟩) hS0 ?_
      rotate_left
      · go_simp
        try with_reducible rfl
      refine wpAnyH_take (i := 2) (v := ?_) rfl (by kernel_rfl) (by kernel_rfl) (by kernel_rfl) (fun _ _ _ h => h) (Or.inl ⟨by rfl, fun W' hS => ?_⟩) hS0 ?_
      rotate_left
      · go_simp
        try with_reducible rfl
      refine wpAnyH_take (i := 3) (v := ?_) rfl (by kernel_rfl) (by kernel_rfl) (by kernel_rfl) (fun _ _ _ h => h) (Or.inl ⟨by rfl, fun W' hS => ?_⟩) hS0 ?_
      rotate_left
      · go_simp
        try with_reducible rfl
      refine wpAnyH_take (i := 4) (v := ?_) rfl (by kernel_rfl) (by kernel_rfl) (by kernel_rfl) (fun _ _ _ h => h) (Or.inl ⟨by rfl, fun W' hS => ?_⟩) hS0 ?_
      rotate_left
      · go_simp
        try with_reducible rfl
      refine wpAnyH_take (i := 5) (v := ?_) rfl (by kernel_rfl) (by kernel_rfl) (by kernel_rfl) (fun _ _ _ h => h) (Or.inl ⟨by rfl, fun W' hS => ?_⟩) hS0 ?_
      rotate_left
      · go_simp
        try with_reducible rfl
      refine wpAnyH_take (i := 6) (v := ?_) rfl (by kernel_rfl) (by kernel_rfl) (by kernel_rfl) (fun _ _ _ h => h) (Or.inl ⟨by rfl, fun W' hS => ?_⟩) hS0 ?_
      rotate_left
      · go_simp
        try with_reducible rfl
      refine wpAnyH_take (i := 7) (v := ?_) rfl (by kernel_rfl) (by kernel_rfl) (by kernel_rfl) (fun _ _ _ h => h) (Or.inl ⟨by rfl, fun W' hS => ?_⟩) hS0 ?_
      rotate_left
      · go_simp
        try with_reducible rfl
      refine wpAnyH_take (i := 8) (v := ?_) rfl (by kernel_rfl) (by kernel_rfl) (by kernel_rfl) (fun _ _ _ h => h) (Or.inl ⟨by rfl, fun W' hS => ?_⟩) hS0 ?_
      rotate_left
      · go_simp
        try with_reducible rfl
      refine wpAnyH_ready (rs := [9, 10]) (by kernel_rfl) (by simp) ?_
      refine AllReadyH.cons rfl (fun K9 hK9 => ?_) (AllReadyH.cons rfl (fun K9 hK9 => ?_) AllReadyH.nil)
      · skip
        go_simp
        refine hK9.out _ _ (by first | exact hS0 | exact hS1) (fun _ => ?_)
        refine wpAnyH_ready (rs := [10]) (by kernel_rfl) (by simp) ?_
        refine AllReadyH.cons rfl (fun K9 hK9 => ?_) AllReadyH.nil
        go_simp
        refine hK9.out _ _ hS0 (fun _ => ?_)
        refine wpAnyH_ready (rs := [11]) (by kernel_rfl) (by simp) ?_
        refine AllReadyH.cons rfl (fun K9 hK9 => ?_) AllReadyH.nil
        go_simp
        have hS1 := (d3.alloc (.cells #[.int .i64 xp, .int .i64 xq, .string xt] 77)).cell
        have hcd1 : (wc.drew.alloc (.cells #[.int .i64 xp, .int .i64 xq, .string xt] 77)).cell? ⟨bo, k, none⟩ = some (.slice A gl c) := (World.cell?_alloc_lt _ _ _ hbo2).trans hcd
        refine hK9.out _ _ hS1 (fun _ => ?_)
        refine wpAnyH_ready (rs := [12]) (by kernel_rfl) (by simp) ?_
        refine AllReadyH.cons rfl (fun K9 hK9 => ?_) AllReadyH.nil
        refine step_append_lies _ (by rfl) (.tmp 27) (.tmp 29) 73 (by rfl) hs' 77 i0 _ 3 32 Tryd.underlying73 hi hz0 hz1 hz2 rfl (by decide) (.slice A gl c) gl (g.flatMap Wd.cells) (by rfl) ((HCUR.out).alloc _) ⟨wc.heap.size, 0, none⟩ 1 1 [.int .i64 xp, .int .i64 xq, .string xt] (by rfl) rfl (three_new wc.drew _ _ _ _) (by simp [Value.oneCell']) (by decide) (by unfold maxLen; omega) (by omega) (by have := HMS.out.high; simp; omega) _ rfl ?_
        intro g' cap' w1 hown' hgrow _ _
        have hgrow2 : (wc.drew.alloc (.cells #[.int .i64 xp, .int .i64 xq, .string xt] 77)).grownBy w1 (Value.slice A g.length c).ownBlock := by rw [HGL.out]; exact hgrow
        obtain ⟨_, m2, m3⟩ := HMS.out.drew.mid (by decide) hgrow2
        have nw := new_word (q := 9) (x := ⟨xp, xq, xt⟩) d3 d4 HMS.out.drew hB2.size hgrow2 (by rw [HGL.out]; exact hown') (by decide) (by decide) (by decide) (by decide) (by decide) (by decide) (by decide)
        rw [HK.out] at m2 m3 nw
        obtain ⟨nw1, nw2, nw3, nw4, nw5, nw6⟩ := nw
        have e3 := boxed_other (d3.alloc _) (HCUR.out.alloc _) (by decide) hgrow
        refine hK9.out _ _ e3.cell (fun _ => ?_)
        clear hK9 K9
        refine wpAnyH_ready (rs := [13]) (by kernel_rfl) (by simp) ?_
        refine AllReadyH.cons rfl (fun K9 hK9 => ?_) AllReadyH.nil
        go_simp
        refine hK9.out _ _ e3.cell (fun _ => ?_)
        clear hK9 K9
        refine wpAnyH_ready (rs := [14]) (by kernel_rfl) (by simp) ?_
        refine AllReadyH.cons rfl (fun K9 hK9 => ?_) AllReadyH.nil
        go_simp
        refine hK9.out _ _ nw2.cell (fun _ => ?_)
        refine wpAnyH_done (by kernel_rfl) ?_ _
        refine ⟨((hko.trans (KeepsOthers.drew _)).trans nw4).from _, keepsW_t hkw ⟨((Below.refl _ wc).drew).trans nw6, fun k cs fr h => nw5 k cs fr h⟩, ⟨_, nw2, ?_, ?_⟩, hB2.drew.trans nw6⟩
        · rw [HMAP.out, lastq_snoc]; exact nw3
        · rw [HMAP.out]; exact .inr ⟨G, g, ⟨xp, xq, xt⟩, V, _, hs', HL.out, by simp, by simp; omega, by have := HGL.out; simp; omega, nw1⟩
      · skip
        go_simp
        refine hK9.out _ _ hS0 (fun _ => ?_)
        refine wpAnyH_ready (rs := [9, 11]) (by kernel_rfl) (by simp) ?_
        refine AllReadyH.cons rfl (fun K9 hK9 => ?_) (AllReadyH.cons rfl (fun K9 hK9 => ?_) AllReadyH.nil)
        · skip
          go_simp
          refine hK9.out _ _ (by first | exact hS0 | exact hS1) (fun _ => ?_)
          refine wpAnyH_ready (rs := [11]) (by kernel_rfl) (by simp) ?_
          refine AllReadyH.cons rfl (fun K9 hK9 => ?_) AllReadyH.nil
          go_simp
          have hS1 := (d3.alloc (.cells #[.int .i64 xp, .int .i64 xq, .string xt] 77)).cell
          have hcd1 : (wc.drew.alloc (.cells #[.int .i64 xp, .int .i64 xq, .string xt] 77)).cell? ⟨bo, k, none⟩ = some (.slice A gl c) := (World.cell?_alloc_lt _ _ _ hbo2).trans hcd
          refine hK9.out _ _ hS1 (fun _ => ?_)
          refine wpAnyH_ready (rs := [12]) (by kernel_rfl) (by simp) ?_
          refine AllReadyH.cons rfl (fun K9 hK9 => ?_) AllReadyH.nil
          refine step_append_lies _ (by rfl) (.tmp 27) (.tmp 29) 73 (by rfl) hs' 77 i0 _ 3 32 Tryd.underlying73 hi hz0 hz1 hz2 rfl (by decide) (.slice A gl c) gl (g.flatMap Wd.cells) (by rfl) ((HCUR.out).alloc _) ⟨wc.heap.size, 0, none⟩ 1 1 [.int .i64 xp, .int .i64 xq, .string xt] (by rfl) rfl (three_new wc.drew _ _ _ _) (by simp [Value.oneCell']) (by decide) (by unfold maxLen; omega) (by omega) (by have := HMS.out.high; simp; omega) _ rfl ?_
          intro g' cap' w1 hown' hgrow _ _
          have hgrow2 : (wc.drew.alloc (.cells #[.int .i64 xp, .int .i64 xq, .string xt] 77)).grownBy w1 (Value.slice A g.length c).ownBlock := by rw [HGL.out]; exact hgrow
          obtain ⟨_, m2, m3⟩ := HMS.out.drew.mid (by decide) hgrow2
          have nw := new_word (q := 9) (x := ⟨xp, xq, xt⟩) d3 d4 HMS.out.drew hB2.size hgrow2 (by rw [HGL.out]; exact hown') (by decide) (by decide) (by decide) (by decide) (by decide) (by decide) (by decide)
          rw [HK.out] at m2 m3 nw
          obtain ⟨nw1, nw2, nw3, nw4, nw5, nw6⟩ := nw
          have e3 := boxed_other (d3.alloc _) (HCUR.out.alloc _) (by decide) hgrow
          refine hK9.out _ _ e3.cell (fun _ => ?_)
          clear hK9 K9
          refine wpAnyH_ready (rs := [13]) (by kernel_rfl) (by simp) ?_
          refine AllReadyH.cons rfl (fun K9 hK9 => ?_) AllReadyH.nil
          go_simp
          refine hK9.out _ _ e3.cell (fun _ => ?_)
          clear hK9 K9
          refine wpAnyH_ready (rs := [14]) (by kernel_rfl) (by simp) ?_
          refine AllReadyH.cons rfl (fun K9 hK9 => ?_) AllReadyH.nil
          go_simp
          refine hK9.out _ _ nw2.cell (fun _ => ?_)
          refine wpAnyH_done (by kernel_rfl) ?_ _
          refine ⟨((hko.trans (KeepsOthers.drew _)).trans nw4).from _, keepsW_t hkw ⟨((Below.refl _ wc).drew).trans nw6, fun k cs fr h => nw5 k cs fr h⟩, ⟨_, nw2, ?_, ?_⟩, hB2.drew.trans nw6⟩
          · rw [HMAP.out, lastq_snoc]; exact nw3
          · rw [HMAP.out]; exact .inr ⟨G, g, ⟨xp, xq, xt⟩, V, _, hs', HL.out, by simp, by simp; omega, by have := HGL.out; simp; omega, nw1⟩
        · skip
          go_simp
          have hS1 := (d3.alloc (.cells #[.int .i64 xp, .int .i64 xq, .string xt] 77)).cell
          have hcd1 : (wc.drew.alloc (.cells #[.int .i64 xp, .int .i64 xq, .string xt] 77)).cell? ⟨bo, k, none⟩ = some (.slice A gl c) := (World.cell?_alloc_lt _ _ _ hbo2).trans hcd
          refine hK9.out _ _ hS1 (fun _ => ?_)
          refine wpAnyH_ready (rs := [9]) (by kernel_rfl) (by simp) ?_
          refine AllReadyH.cons rfl (fun K9 hK9 => ?_) AllReadyH.nil
          go_simp
          refine hK9.out _ _ (by first | exact hS0 | exact hS1) (fun _ => ?_)
          refine wpAnyH_ready (rs := [12]) (by kernel_rfl) (by simp) ?_
          refine AllReadyH.cons rfl (fun K9 hK9 => ?_) AllReadyH.nil
          refine step_append_lies _ (by rfl) (.tmp 27) (.tmp 29) 73 (by rfl) hs' 77 i0 _ 3 32 Tryd.underlying73 hi hz0 hz1 hz2 rfl (by decide) (.slice A gl c) gl (g.flatMap Wd.cells) (by rfl) ((HCUR.out).alloc _) ⟨wc.heap.size, 0, none⟩ 1 1 [.int .i64 xp, .int .i64 xq, .string xt] (by rfl) rfl (three_new wc.drew _ _ _ _) (by simp [Value.oneCell']) (by decide) (by unfold maxLen; omega) (by omega) (by have := HMS.out.high; simp; omega) _ rfl ?_
          intro g' cap' w1 hown' hgrow _ _
          have hgrow2 : (wc.drew.alloc (.cells #[.int .i64 xp, .int .i64 xq, .string xt] 77)).grownBy w1 (Value.slice A g.length c).ownBlock := by rw [HGL.out]; exact hgrow
          obtain ⟨_, m2, m3⟩ := HMS.out.drew.mid (by decide) hgrow2
          have nw := new_word (q := 9) (x := ⟨xp, xq, xt⟩) d3 d4 HMS.out.drew hB2.size hgrow2 (by rw [HGL.out]; exact hown') (by decide) (by decide) (by decide) (by decide) (by decide) (by decide) (by decide)
          rw [HK.out] at m2 m3 nw
          obtain ⟨nw1, nw2, nw3, nw4, nw5, nw6⟩ := nw
          have e3 := boxed_other (d3.alloc _) (HCUR.out.alloc _) (by decide) hgrow
          refine hK9.out _ _ e3.cell (fun _ => ?_)
          clear hK9 K9
          refine wpAnyH_ready (rs := [13]) (by kernel_rfl) (by simp) ?_
          refine AllReadyH.cons rfl (fun K9 hK9 => ?_) AllReadyH.nil
          go_simp
          refine hK9.out _ _ e3.cell (fun _ => ?_)
          clear hK9 K9
          refine wpAnyH_ready (rs := [14]) (by kernel_rfl) (by simp) ?_
          refine AllReadyH.cons rfl (fun K9 hK9 => ?_) AllReadyH.nil
          go_simp
          refine hK9.out _ _ nw2.cell (fun _ => ?_)
          refine wpAnyH_done (by kernel_rfl) ?_ _
          refine ⟨((hko.trans (KeepsOthers.drew _)).trans nw4).from _, keepsW_t hkw ⟨((Below.refl _ wc).drew).trans nw6, fun k cs fr h => nw5 k cs fr h⟩, ⟨_, nw2, ?_, ?_⟩, hB2.drew.trans nw6⟩
          · rw [HMAP.out, lastq_snoc]; exact nw3
          · rw [HMAP.out]; exact .inr ⟨G, g, ⟨xp, xq, xt⟩, V, _, hs', HL.out, by simp, by simp; omega, by have := HGL.out; simp; omega, nw1⟩
  case done =>
    rintro D ys W hD hys ⟨⟨vo, bv3, bv4, hls⟩, hB1⟩ hK
    have hc := bv3.cell
    gi_wp2
    refine ⟨by simp, .inl ⟨_, _, rfl, run_takeDeferred hK, ?_⟩⟩
    exact ⟨_, results_tmp rfl _ _ _, vo, rfl, hys ▸ hls.kept (grownBy_putObj' W D _) (fun r e => by cases e; exact ⟨_, hK, rfl⟩), hB1.trans (belowK_b (w := w) (Nat.le_refl _) W D _ _ (by omega) hK rfl rfl)⟩
  case stop =>
    rintro D c pre W _ _ h _
    exact h.elim

end Go.Proofs.YtnejkfccdnadcaaDoor
end

section
namespace Go.Proofs.YtnejkfccdnadcaaDoor
open Go.RowKit Go.Shelf Go.Lib

theorem lns_len (l : List Wd) : (lns l).length ≤ l.length := by
  have : ∀ (m : List Wd) (acc : List (List Wd)), (m.foldl lnStep acc).length ≤ acc.length + m.length := by
    intro m
    induction m with
    | nil => intro acc; simp
    | cons x m ih =>
      intro acc
      have h1 := ih (lnStep acc x)
      have h2 : (lnStep acc x).length ≤ acc.length + 1 := by
        unfold lnStep
        split
        · simp
        · split
          · simp
          · simp
      simp only [List.foldl_cons, List.length_cons]
      omega
  have h := this l []
  simpa [lns] using h

theorem cellKeptM {w w' : World} {p : Addr} {v : Value} (h : w.cell? p = some v) (hb : Below w.heap.size w w') : w'.cell? p = some v :=
  (hb.cell (cell_lt h)).trans h

/-- Lines in memory, below block B. -/
def LRow (w : World) (B : Nat) (A : Option Addr) (L : List (List Wd)) : Prop :=
  0 < L.length → ∃ b off, A = some ⟨b, off, none⟩ ∧ b < B ∧ ∀ i (h : i < L.length), ∃ Ai ci, w.cell? ⟨b, off + i, none⟩ = some (.slice Ai L[i].length ci) ∧ WRow w B Ai L[i]

theorem LRow.below {w w' : World} {B C : Nat} {A : Option Addr} {L : List (List Wd)} (h : LRow w B A L) (hb : Below C w w') (hBC : B ≤ C) : LRow w' B A L := by
  intro hl
  obtain ⟨b, off, e, hlt, hc⟩ := h hl
  refine ⟨b, off, e, hlt, fun i hi => ?_⟩
  obtain ⟨Ai, ci, h1, h2⟩ := hc i hi
  exact ⟨Ai, ci, (hb.cell (p := ⟨b, _, none⟩) (by show b < C; omega)).trans h1, h2.below hb hBC⟩

theorem LRow.more {w : World} {B C : Nat} {A : Option Addr} {L : List (List Wd)} (h : LRow w B A L) (hBC : B ≤ C) : LRow w C A L := by
  intro hl
  obtain ⟨b, off, e, hlt, hc⟩ := h hl
  refine ⟨b, off, e, by omega, fun i hi => ?_⟩
  obtain ⟨Ai, ci, h1, h2⟩ := hc i hi
  exact ⟨Ai, ci, h1, h2.more hBC⟩

/-- What the lines give to a reader. -/
theorem lrow_own {n0 : Nat} {eo ei : TypeId} {l : List Wd} {vo : Value} {w : World} (h : LS n0 eo ei l vo w) : ∃ A cap, vo = .slice A (lns l).length cap ∧ LRow w w.heap.size A (lns l) := by
  rcases h with ⟨rfl, rfl⟩ | ⟨G, g, y, V, v, hs, h1, h2, h3, h4, hms⟩
  · exact ⟨none, 0, rfl, fun h => by simp [lns] at h⟩
  · obtain ⟨bo, cap, rfl, hb, hlt, _, _⟩ := hms.at
    have hlen : V.length + 1 = (lns l).length := by rw [h1, List.length_append, hms.len]; rfl
    refine ⟨_, cap, by rw [← hlen], fun _ => ⟨bo, 0, rfl, hlt, fun i hi => ?_⟩⟩
    have hget : (lns l)[i]? = some (lns l)[i] := List.getElem?_eq_getElem hi
    generalize (lns l)[i] = L at hget ⊢
    rw [h1] at hget
    have hiV : i < V.length + 1 := by rw [hlen]; exact hi
    have hcell := hms.out.cellAt i (by omega)
    rw [Nat.zero_add, hcell]
    rcases Nat.lt_or_ge i V.length with hi2 | hi2
    · rw [List.getElem?_append_left (by rw [← hms.len]; exact hi2)] at hget
      rw [List.getElem?_append_left hi2, List.getElem?_eq_getElem hi2]
      obtain ⟨Ai, ci, e1, _, _, e2⟩ := wrow_own (hms.done i _ _ (List.getElem?_eq_getElem hi2) hget).1
      exact ⟨Ai, ci, by rw [e1], e2⟩
    · obtain rfl : i = V.length := by omega
      rw [List.getElem?_append_right (by rw [hms.len]; exact Nat.le_refl _), hms.len] at hget
      rw [List.getElem?_append_right (Nat.le_refl _)]
      simp only [Nat.sub_self, List.getElem?_cons_zero, Option.some.injEq] at hget ⊢
      subst hget
      obtain ⟨Ai, ci, e1, _, _, e2⟩ := wrow_own hms.cur
      exact ⟨Ai, ci, e1, e2⟩

set_option maxHeartbeats 1000000 in
theorem lexLines_any (s : ByteArray) (hs : s.size ≤ 65536) (m : Int) (w : World) (hm : w.cell? ⟨1, 0, none⟩ = some (.int .i64 m)) :
    Calls Tryd.prog 22 #[.string s] w fun e w' => (∃ A cap, e = .returned (.slice A (lns (textW s)).length cap) ∧ LRow w' w'.heap.size A (lns (textW s))) ∧ Below w.heap.size w w' :=
  (callsIn_wide.1 (lines_in s hs m w hm)).mono fun e w' ⟨v, he, hls, hb⟩ => by
    obtain ⟨A, cap, rfl, hr⟩ := lrow_own hls
    exact ⟨⟨A, cap, he, hr⟩, hb⟩

end Go.Proofs.YtnejkfccdnadcaaDoor
end

section
namespace Go.Proofs.YtnejkfccdnadcaaDoor
open Go.RowKit Go.Shelf Go.Lib

/-- A request. -/
structure Ak where
  a : Int
  t : Int
  d : Int

def Ak.cells (x : Ak) : List Value := [.int .i64 x.a, .int .i64 x.t, .int .i64 x.d]

/-- A slice of requests in memory, below block B. -/
def ARow (w : World) (B : Nat) (A : Option Addr) (L : List Ak) : Prop :=
  0 < L.length → ∃ b off, A = some ⟨b, off, none⟩ ∧ b < B ∧ ∀ i (h : i < L.length),
    w.cell? ⟨b, off + i * 3, none⟩ = some (.int .i64 L[i].a) ∧ w.cell? ⟨b, off + i * 3 + 1, none⟩ = some (.int .i64 L[i].t) ∧ w.cell? ⟨b, off + i * 3 + 2, none⟩ = some (.int .i64 L[i].d)

theorem ARow.below {w w' : World} {B C : Nat} {A : Option Addr} {L : List Ak} (h : ARow w B A L) (hb : Below C w w') (hBC : B ≤ C) : ARow w' B A L := by
  intro hl
  obtain ⟨b, off, e, hlt, hc⟩ := h hl
  refine ⟨b, off, e, hlt, fun i hi => ?_⟩
  obtain ⟨h0, h1, h2⟩ := hc i hi
  exact ⟨(hb.cell (p := ⟨b, _, none⟩) (by show b < C; omega)).trans h0, (hb.cell (p := ⟨b, _, none⟩) (by show b < C; omega)).trans h1, (hb.cell (p := ⟨b, _, none⟩) (by show b < C; omega)).trans h2⟩

theorem ARow.more {w : World} {B C : Nat} {A : Option Addr} {L : List Ak} (h : ARow w B A L) (hBC : B ≤ C) : ARow w C A L := by
  intro hl
  obtain ⟨b, off, e, hlt, hc⟩ := h hl
  exact ⟨b, off, e, by omega, hc⟩

theorem ARow.take {w : World} {B : Nat} {A : Option Addr} {L : List Ak} (h : ARow w B A L) (k : Nat) : ARow w B A (L.take k) := by
  intro hl
  rw [List.length_take] at hl
  obtain ⟨b, off, e, hlt, hc⟩ := h (by omega)
  refine ⟨b, off, e, hlt, fun i hi => ?_⟩
  rw [List.length_take] at hi
  obtain ⟨h0, h1, h2⟩ := hc i (by omega)
  rw [List.getElem_take]
  exact ⟨h0, h1, h2⟩

theorem infoA : (Tryd.prog.info? 46).map (fun i => (i.zero, i.size, i.bytes)) = some (some (.agg #[.int .i64 0, .int .i64 0, .int .i64 0]), 3, 24) := by kernel_rfl

/-- Requests, one behind the other in time. -/
def sortedV (last : Int) : List Ak → Bool
  | [] => true
  | x :: r => decide (last ≤ x.a) && sortedV x.a r

theorem sorted_step {L : List Ak} {i : Nat} {last : Int} (h : i < L.length) : sortedV last (L.drop i) = (decide (last ≤ L[i].a) && sortedV L[i].a (L.drop (i + 1))) := by
  rw [List.drop_eq_getElem_cons h]
  rfl

set_option maxHeartbeats 1000000 in
set_option maxRecDepth 100000 in
theorem script_any (A : Option Addr) (cap : Nat) (L : List Ak) (w : World) (hn : L.length ≤ 1000000) (hr : ARow w w.heap.size A L) :
    Calls Tryd.prog 17 #[.slice A L.length cap] w fun e w' => e = .returned (.bool (sortedV 0 L)) ∧ Below w.heap.size w w' := by
  obtain ⟨n, hn'⟩ : ∃ n, n = L.length := ⟨_, rfl⟩
  rw [← hn'] at hn ⊢
  have HN := Lib.hid hn'
  clear hn'
  obtain ⟨R, hR⟩ : ∃ R, R = sortedV 0 L := ⟨_, rfl⟩
  rw [← hR]
  have HR : Hid (R = sortedV 0 (L.drop 0)) := Lib.hid hR
  clear hR
  go_enter Tryd.func17, Tryd.ntmps17
  go_wp2
  go_loopw [3, 8] (fun v3 v8 wr => ∃ (i : Nat) (last : Int), v3 = .int .i64 last ∧ v8 = .int .i64 i ∧ i ≤ n ∧ Hid (R = sortedV last (L.drop i)) ∧ Below w.heap.size w wr) (fun _ v8 _ => n - (RowKit.intOf v8).toNat)
  case atStart => exact ⟨0, 0, rfl, rfl, Nat.zero_le _, HR, Below.refl _ _⟩
  case round =>
    obtain ⟨i, last, rfl, rfl, hi, hS, hbr⟩ := hrel
    by_cases hin : i < n
    · have hil : i < L.length := by rw [← HN.out]; exact hin
      obtain ⟨b1, o1, rfl, hlt1, hc1⟩ := hr (by omega)
      obtain ⟨x0, x1, x2⟩ := hc1 i hil
      have a0 := (hbr.cell (p := ⟨b1, _, none⟩) hlt1).trans x0
      have a1 := (hbr.cell (p := ⟨b1, _, none⟩) hlt1).trans x1
      have a2 := (hbr.cell (p := ⟨b1, _, none⟩) hlt1).trans x2
      have HST := Lib.hid (hS.out.trans (sorted_step hil))
      clear x0 x1 x2 hc1
      generalize L[i].a = xa at *
      generalize L[i].t = xt at *
      generalize L[i].d = xd at *
      by_cases hlt : xa < last
      · have HB : Hid (R = false) := Lib.hid (by rw [HST.out, decide_eq_false (by omega)]; rfl)
        go_wp2
        go_ret
        exact ⟨by rw [HB.out]; rfl, hbr.alloc hbr.size _⟩
      · have HB : Hid (R = sortedV xa (L.drop (i + 1))) := Lib.hid (by rw [HST.out, decide_eq_true (by omega)]; rfl)
        go_wp2
        go_roundw
        case rel => exact ⟨i + 1, xa, rfl, by simp, hin, HB, hbr.alloc hbr.size _⟩
        case measure => simp [RowKit.intOf] <;> omega
    · obtain rfl : i = n := by omega
      have HB : Hid (R = true) := Lib.hid (by rw [hS.out, HN.out, List.drop_eq_nil_of_le (Nat.le_refl _)]; rfl)
      go_wp2
      go_ret
      exact ⟨by rw [HB.out]; rfl, hbr⟩

end Go.Proofs.YtnejkfccdnadcaaDoor
end

section
namespace Go.Proofs.YtnejkfccdnadcaaDoor
open Go.RowKit Go.Shelf Go.Lib

theorem numOk_mono {l : List UInt8} {a b : Int} (h : NumOk l a) (hab : a ≤ b) : NumOk l b := ⟨h.1, h.2.1, Int.le_trans h.2.2 hab⟩
theorem numOk_iff {l : List UInt8} {a b : Int} (h : NumOk l b) : NumOk l a ↔ (numV l : Int) ≤ a := ⟨fun h2 => h2.2.2, fun h2 => ⟨h.1, h.2.1, h2⟩⟩

open Classical in
/-- What a line asks for. -/
noncomputable def lineV : List Wd → Option Ak
  | [x, y, z] => if NumOk x.t.data.toList 2147483648 ∧ NumOk y.t.data.toList 99 ∧ NumOk z.t.data.toList 1073741824 ∧ (1 ≤ (numV y.t.data.toList : Int) ∧ 1 ≤ (numV z.t.data.toList : Int)) then some ⟨numV x.t.data.toList, numV y.t.data.toList, numV z.t.data.toList⟩ else none
  | _ => none

open Classical in
theorem lineV_three (x y z : Wd) : lineV [x, y, z] = if NumOk x.t.data.toList 2147483648 ∧ NumOk y.t.data.toList 99 ∧ NumOk z.t.data.toList 1073741824 ∧ (1 ≤ (numV y.t.data.toList : Int) ∧ 1 ≤ (numV z.t.data.toList : Int)) then some ⟨numV x.t.data.toList, numV y.t.data.toList, numV z.t.data.toList⟩ else none := rfl

theorem lineV_len {ws : List Wd} (h : ws.length ≠ 3) : lineV ws = none := by
  match ws, h with
  | [], _ => rfl
  | [_], _ => rfl
  | [_, _], _ => rfl
  | [_, _, _], h => exact absurd rfl h
  | _ :: _ :: _ :: _ :: _, _ => rfl

theorem lineV_bad {ws : List Wd} {i : Nat} {x : Wd} (hx : ws[i]? = some x) (hl : ws.length = 3) (h : ¬ NumOk x.t.data.toList 2147483648) : lineV ws = none := by
  match ws, hl with
  | [a, b, c], _ =>
    rw [lineV_three, if_neg]
    rintro ⟨h1, h2, h3, _⟩
    rcases i with _ | _ | _ | i
    · simp at hx; subst hx; exact h h1
    · simp at hx; subst hx; exact h (numOk_mono h2 (by omega))
    · simp at hx; subst hx; exact h (numOk_mono h3 (by omega))
    · simp at hx

theorem lineV_right {x y z : Wd} (h1 : NumOk x.t.data.toList 2147483648) (h2 : NumOk y.t.data.toList 2147483648) (h3 : NumOk z.t.data.toList 2147483648) :
    lineV [x, y, z] = if rightV (numV x.t.data.toList : Nat) (numV y.t.data.toList : Nat) (numV z.t.data.toList : Nat) = true then some ⟨numV x.t.data.toList, numV y.t.data.toList, numV z.t.data.toList⟩ else none := by
  rw [lineV_three]
  have e1 := numOk_iff (a := 99) h2
  have e2 := numOk_iff (a := 1073741824) h3
  have e3 := h1.2.2
  by_cases h : rightV (numV x.t.data.toList : Nat) (numV y.t.data.toList : Nat) (numV z.t.data.toList : Nat) = true
  · have h' := h
    unfold rightV at h'
    simp only [Bool.and_eq_true, decide_eq_true_eq] at h'
    rw [if_pos ⟨h1, e1.2 (by omega), e2.2 (by omega), by omega, by omega⟩, if_pos h]
  · rw [if_neg, if_neg h]
    rintro ⟨_, k2, k3, k4, k5⟩
    refine h ?_
    unfold rightV
    simp only [Bool.and_eq_true, decide_eq_true_eq]
    have := e1.1 k2
    have := e2.1 k3
    omega

theorem req_ret {R : Ending → World → Prop} {tmps : Array Value} {W : World} {bk : Nat} {t : TypeId} {a b c v : Value} (ht : tmps[2]?.getD undef = .pointer (some ⟨bk, 0, none⟩)) (hv : tmps[3]?.getD undef = v) (hb : W.heap[bk]? = some (.cells #[a, b, c] t (0, 0)))
    (hR : R (.returned (.tuple #[.agg #[a, b, c], v])) W) :
    bodyPost Tryd.prog Tryd.f23 R .ret { tmps := tmps, defers := [] } W := by
  refine bodyPost_ret ?_ rfl hR
  have h0 : W.cell? ⟨bk, 0, none⟩ = some a := by simp [World.cell?, hb]
  have h1 : W.cell? ⟨bk, 1, none⟩ = some b := by simp [World.cell?, hb]
  have h2 : W.cell? ⟨bk, 2, none⟩ = some c := by simp [World.cell?, hb]
  simp [results, Tryd.f23, go_sem, ht, hv, h0, h1, h2]

/-- The array of numbers, i of them set. -/
def arrC (K : Nat → Int) (i : Nat) : Array Value := #[.int .i64 (if 0 < i then K 0 else 0), .int .i64 (if 1 < i then K 1 else 0), .int .i64 (if 2 < i then K 2 else 0)]

theorem arrSetM {w : World} {B : Nat} {t : TypeId} {K : Nat → Int} {i : Nat} (h : w.heap[B]? = some (.cells (arrC K i) t (0, 0))) (hi : i < 3) : (w.setCell ⟨B, i, none⟩ (.int .i64 (K i))).heap[B]? = some (.cells (arrC K (i + 1)) t (0, 0)) := by
  rw [heap_setCell_same w B i _ t _ h]
  rcases i with _ | _ | _ | i
  · simp [arrC]
  · simp [arrC]
  · simp [arrC]
  · omega

theorem arr_cell {w : World} {B : Nat} {t : TypeId} {K : Nat → Int} {i : Nat} (h : w.heap[B]? = some (.cells (arrC K i) t (0, 0))) (j : Nat) (hj : j < 3) : ∃ x, w.cell? ⟨B, j, none⟩ = some (.int .i64 x) ∧ (j < i → x = K j) := by
  rcases j with _ | _ | _ | j
  · exact ⟨_, cell_of_row w B 0 _ _ _ h, fun h => by simp [h]⟩
  · exact ⟨_, cell_of_row w B 1 _ _ _ h, fun h => by simp [h]⟩
  · exact ⟨_, cell_of_row w B 2 _ _ _ h, fun h => by simp [h]⟩
  · omega

theorem set3 {W : World} {b : Nat} {t : TypeId} {a0 a1 a2 x y z : Value} (h : W.heap[b]? = some (.cells #[a0, a1, a2] t (0, 0))) : (((W.setCell ⟨b, 0, none⟩ x).setCell ⟨b, 1, none⟩ y).setCell ⟨b, 2, none⟩ z).heap[b]? = some (.cells #[x, y, z] t (0, 0)) := by
  have h1 := heap_setCell_same W b 0 _ t x h
  have h2 := heap_setCell_same _ b 1 _ t y h1
  have h3 := heap_setCell_same _ b 2 _ t z h2
  rw [h3]
  simp

theorem below3 {B b : Nat} {w W : World} (h : Below B w W) (hb : B ≤ b) (x y z : Value) : Below B w (((W.setCell ⟨b, 0, none⟩ x).setCell ⟨b, 1, none⟩ y).setCell ⟨b, 2, none⟩ z) :=
  ((h.setCell (p := ⟨b, 0, none⟩) hb x).setCell (p := ⟨b, 1, none⟩) hb y).setCell (p := ⟨b, 2, none⟩) hb z

set_option maxHeartbeats 4000000 in
set_option maxRecDepth 100000 in
theorem request_any (A : Option Addr) (cap : Nat) (ws : List Wd) (w : World) (hn : ws.length ≤ 1000000) (hr : WRow w w.heap.size A ws) :
    Calls Tryd.prog 23 #[.slice A ws.length cap] w fun e w' => (∃ xa xt xd ok, e = .returned (.tuple #[.agg #[.int .i64 xa, .int .i64 xt, .int .i64 xd], .bool ok]) ∧ (ok = true → lineV ws = some ⟨xa, xt, xd⟩) ∧ (ok = false → lineV ws = none)) ∧ Below w.heap.size w w' := by
  obtain ⟨n, hn'⟩ : ∃ n, n = ws.length := ⟨_, rfl⟩
  rw [← hn'] at hn ⊢
  have HN := Lib.hid hn'
  clear hn'
  go_enter Tryd.func23, Tryd.ntmps23
  by_cases h3 : n = 3
  · subst h3
    have hlen : ws.length = 3 := HN.out.symm
    obtain ⟨K, hK⟩ : ∃ K : Nat → Int, ∀ i (h : i < ws.length), K i = (numV ws[i].t.data.toList : Nat) := ⟨fun i => if h : i < ws.length then (numV ws[i].t.data.toList : Nat) else 0, fun i h => by simp [h]⟩
    have HK := Lib.hid hK
    clear hK
    obtain ⟨b1, o1, rfl, hlt1, hc1⟩ := hr (by omega)
    go_wp2
    have hbA := (Below.refl w.heap.size w).alloc (Nat.le_refl _) (.cells #[.int .i64 0, .int .i64 0, .int .i64 0] 46)
    have hblA := heap_alloc_new w (.cells #[.int .i64 0, .int .i64 0, .int .i64 0] 46)
    have HSA : Hid ((w.alloc (.cells #[.int .i64 0, .int .i64 0, .int .i64 0] 46)).heap.size = w.heap.size + 1) := Lib.hid (by simp)
    generalize w.alloc (.cells #[.int .i64 0, .int .i64 0, .int .i64 0] 46) = wA at hbA hblA HSA ⊢
    have hszA : wA.heap.size = w.heap.size + 1 := HSA.out
    have hbB := hbA.alloc hbA.size (.cells #[.int .i64 0, .int .i64 0, .int .i64 0] 95)
    have hblB : (wA.alloc (.cells #[.int .i64 0, .int .i64 0, .int .i64 0] 95)).heap[w.heap.size + 1]? = some (.cells (arrC K 0) 95 (0, 0)) := by rw [← hszA]; exact heap_alloc_new wA _
    have hblA2 := (Below.heap_alloc wA (.cells #[.int .i64 0, .int .i64 0, .int .i64 0] 95) _ (lt_of_block hblA)).trans hblA
    have hszB : w.heap.size + 1 < (wA.alloc (.cells #[.int .i64 0, .int .i64 0, .int .i64 0] 95)).heap.size := lt_of_block hblB
    clear hszA
    generalize wA.alloc (.cells #[.int .i64 0, .int .i64 0, .int .i64 0] 95) = wB at hbB hblB hblA2 hszB ⊢
    clear hbA hblA
    go_loopw [16] (fun v16 wr => ∃ i : Nat, v16 = .int .i64 i ∧ i ≤ 3 ∧ Hid (∀ (j : Nat) (h : j < ws.length), j < i → NumOk ws[j].t.data.toList 2147483648) ∧ wr.heap[w.heap.size + 1]? = some (.cells (arrC K i) 95 (0, 0)) ∧ wr.heap[w.heap.size]? = some (.cells #[.int .i64 0, .int .i64 0, .int .i64 0] 46 (0, 0)) ∧ Below w.heap.size w wr) (fun v16 _ => 3 - (RowKit.intOf v16).toNat)
    case atStart => exact ⟨0, rfl, Nat.zero_le _, Lib.hid (fun j _ h => absurd h (by omega)), hblB, hblA2, hbB⟩
    case round =>
      obtain ⟨i, rfl, hi, hok, hbl, hbl0, hbr⟩ := hrel
      by_cases hi3 : i < 3
      · have hil : i < ws.length := by omega
        obtain ⟨x0, x1, x2⟩ := hc1 i hil
        have a0 := (hbr.cell (p := ⟨b1, _, none⟩) hlt1).trans x0
        have a1 := (hbr.cell (p := ⟨b1, _, none⟩) hlt1).trans x1
        have a2 := (hbr.cell (p := ⟨b1, _, none⟩) hlt1).trans x2
        have HKI := Lib.hid (HK.out i hil)
        have HOK : Hid (∀ (h : NumOk ws[i].t.data.toList 2147483648) (j : Nat) (hj : j < ws.length), j < i + 1 → NumOk ws[j].t.data.toList 2147483648) := Lib.hid (fun h j hj hji => by
          by_cases e : j = i
          · subst e; exact h
          · exact hok.out j hj (by omega))
        have HBAD : Hid (¬ NumOk ws[i].t.data.toList 2147483648 → lineV ws = none) := Lib.hid (fun h => lineV_bad (List.getElem?_eq_getElem hil) hlen h)
        clear x0 x1 x2
        generalize ws[i].p = xp at *
        generalize ws[i].q = xq at *
        generalize ws[i].t = xt at *
        go_upto_if 28 with (go_at_call 35; refine (number_any xt 2147483648 _ (by omega) (by omega)).mono ?_; rintro e w1 ⟨hres, hb1⟩; rcases hres with ⟨hgood, rfl⟩ | ⟨hbad, rfl⟩)
        all_goals
          have hbx := hbr.alloc hbr.size (.cells #[.int .i64 xp, .int .i64 xq, .string xt] 77)
          have hbw := hbx.trans (hb1.mono hbx.size)
          have hbl1 := (hb1.block _ (Nat.lt_of_lt_of_le (lt_of_block hbl) (by simp))).trans ((Below.heap_alloc wr _ _ (lt_of_block hbl)).trans hbl)
          have hbl2 := (hb1.block _ (Nat.lt_of_lt_of_le (lt_of_block hbl0) (by simp))).trans ((Below.heap_alloc wr _ _ (lt_of_block hbl0)).trans hbl0)
        · obtain ⟨y, hy, _⟩ := arr_cell hbl1 i hi3
          have hfy := frozen_of_row w1 (w.heap.size + 1) i _ _ hbl1
          have hset := arrSetM hbl1 hi3
          have HG := Lib.hid (HOK.out hgood)
          rw [HKI.out] at hset
          generalize numV xt.data.toList = N at *
          have hii : (i : Int) < 3 := by omega
          go_wp2
          go_roundw
          case rel => exact ⟨i + 1, by simp, hi3, HG, hset, by
            refine (Below.heap_setCell w1 _ _ _ (by simp)).trans hbl2, hbw.setCell (p := ⟨w.heap.size + 1, i, none⟩) (Nat.le_succ _) _⟩
          case measure => simp [RowKit.intOf] <;> omega
        · have HB := Lib.hid (HBAD.out hbad)
          have c0 := cell_of_row w1 w.heap.size 0 _ _ _ hbl2
          have c1 := cell_of_row w1 w.heap.size 1 _ _ _ hbl2
          have c2 := cell_of_row w1 w.heap.size 2 _ _ _ hbl2
          have f0 := frozen_of_row w1 w.heap.size 0 _ _ hbl2
          have f1 := frozen_of_row w1 w.heap.size 1 _ _ hbl2
          have f2 := frozen_of_row w1 w.heap.size 2 _ _ hbl2
          go_wp2
          exact req_ret (bk := w.heap.size) rfl rfl (set3 hbl2) ⟨⟨_, _, _, _, rfl, (fun h => by cases h), fun _ => HB.out⟩, below3 hbw (Nat.le_refl _) _ _ _⟩
      · obtain rfl : i = 3 := by omega
        obtain ⟨y0, z0, z1⟩ := arr_cell hbl 0 (by omega)
        obtain ⟨y1, z2, z3⟩ := arr_cell hbl 1 (by omega)
        obtain ⟨y2, z4, z5⟩ := arr_cell hbl 2 (by omega)
        have HY : Hid (lineV ws = if rightV y0 y1 y2 = true then some ⟨y0, y1, y2⟩ else none) := Lib.hid (by
          rw [z1 (by omega), z3 (by omega), z5 (by omega), HK.out 0 (by omega), HK.out 1 (by omega), HK.out 2 (by omega)]
          match ws, hlen, hok with
          | [a, b, c], _, hok => exact lineV_right (hok.out 0 (by simp) (by omega)) (hok.out 1 (by simp) (by omega)) (hok.out 2 (by simp) (by omega)))
        have HB1 : Hid (-9223372036854775808 ≤ y1 ∧ y1 ≤ 9223372036854775807) := Lib.hid (by
          rw [z3 (by omega), HK.out 1 (by omega)]
          have := (hok.out 1 (by omega) (by omega)).2.2
          omega)
        clear z1 z3 z5 hok
        have hbx := hbr.alloc hbr.size (.cells #[.int .i64 y0, .int .i64 y1, .int .i64 y2] 46)
        go_upto_region 13 with (fail)
        have hblx := heap_alloc_new wr (.cells #[.int .i64 y0, .int .i64 y1, .int .i64 y2] 46)
        have hbl0x := (Below.heap_alloc wr (.cells #[.int .i64 y0, .int .i64 y1, .int .i64 y2] 46) _ (lt_of_block hbl0)).trans hbl0
        generalize wr.alloc (.cells #[.int .i64 y0, .int .i64 y1, .int .i64 y2] 46) = W at hbx hblx hbl0x ⊢
        obtain ⟨bx, hbxe⟩ : ∃ b, wr.heap.size = b := ⟨_, rfl⟩
        rw [hbxe] at hblx ⊢
        have d0 := cell_of_row W bx 0 _ _ _ hblx
        have d1 := cell_of_row W bx 1 _ _ _ hblx
        have d2 := cell_of_row W bx 2 _ _ _ hblx
        go_region_law (go_simp; go_at_call 18; refine (right_any y0 y1 y2 HB1.out _).mono ?_; rintro e w5 ⟨rfl, hb5⟩; have hblx5 := (hb5.block _ (lt_of_block hblx)).trans hblx; have m0 := cell_of_row w5 bx 0 _ _ _ hblx5; have m1 := cell_of_row w5 bx 1 _ _ _ hblx5; have m2 := cell_of_row w5 bx 2 _ _ _ hblx5; have hbl5 := (hb5.block _ (lt_of_block hbl0x)).trans hbl0x; have k0 := cell_of_row w5 w.heap.size 0 _ _ _ hbl5; have k1 := cell_of_row w5 w.heap.size 1 _ _ _ hbl5; have k2 := cell_of_row w5 w.heap.size 2 _ _ _ hbl5; have f0 := frozen_of_row w5 w.heap.size 0 _ _ hbl5; have f1 := frozen_of_row w5 w.heap.size 1 _ _ hbl5; have f2 := frozen_of_row w5 w.heap.size 2 _ _ hbl5)
        all_goals go_wp2
        all_goals
          refine req_ret (bk := w.heap.size) rfl rfl (set3 hbl5) ⟨⟨_, _, _, _, rfl, fun h => ?_, fun h => ?_⟩, below3 (hbx.drew.trans (hb5.mono hbx.drew.size)) (Nat.le_refl _) _ _ _⟩
          · rw [HY.out, if_pos h]
          · rw [HY.out, if_neg (by rw [h]; decide)]
  · have HL := Lib.hid (lineV_len (by rw [← HN.out]; exact h3))
    have h3' : ((n : Int) != 3) = true := by simp; omega
    go_wp2
    exact req_ret (bk := w.heap.size) rfl rfl (heap_alloc_new w (.cells #[.int .i64 0, .int .i64 0, .int .i64 0] 46)) ⟨⟨_, _, _, _, rfl, (fun h => by cases h), fun _ => HL.out⟩, (Below.refl _ w).alloc (Nat.le_refl _) _⟩

end Go.Proofs.YtnejkfccdnadcaaDoor
end

section
namespace Go.Proofs.YtnejkfccdnadcaaDoor
open Go.RowKit Go.Shelf Go.Lib

/-- A request's line. -/
def lineT (x : Ak) : List UInt8 := ((((itoa x.a ++ [32]) ++ itoa x.t) ++ [32]) ++ itoa x.d) ++ [10]

/-- A script's text: none if a request is wrong, or ahead of the one before it. -/
def sT (acc : List UInt8) (last : Int) : List Ak → List UInt8
  | [] => acc
  | x :: r => if last ≤ x.a ∧ rightV x.a x.t x.d = true then sT (acc ++ lineT x) x.a r else []

theorem sT_eq : ∀ (L : List Ak) (acc : List UInt8) (last : Int), sT acc last L = if sortedV last L = true ∧ L.all (fun x => rightV x.a x.t x.d) = true then acc ++ L.flatMap lineT else [] := by
  intro L
  induction L with
  | nil => intro acc last; simp [sT, sortedV]
  | cons x r ih =>
    intro acc last
    unfold sT
    rw [ih]
    by_cases h1 : last ≤ x.a
    · by_cases h2 : rightV x.a x.t x.d = true
      · simp [sortedV, h1, h2, List.append_assoc]
      · simp [sortedV, h1, h2]
    · simp [sortedV, h1]

theorem rightV_iff (a t d : Int) : rightV a t d = true ↔ (0 ≤ a ∧ a ≤ 2147483648) ∧ (1 ≤ t ∧ t ≤ 99) ∧ 1 ≤ d ∧ d ≤ 1073741824 := by
  simp [rightV]

end Go.Proofs.YtnejkfccdnadcaaDoor
end

section
namespace Go.Proofs.YtnejkfccdnadcaaDoor
open Go.RowKit Go.Shelf Go.Lib

theorem infoBuilder : (Tryd.prog.info? 63).map (·.size) = some 2 := by kernel_rfl
theorem liesBuilder : liesAt Tryd.prog Tryd.prog.depth 63 (2 / Tryd.prog.cellsOf 63) 0 63 1 = true := by kernel_rfl
theorem infoU8 : (Tryd.prog.info? 5).map (fun i => (i.zero, i.size, i.bytes)) = some (some (.int .u8 0), 1, 1) := by kernel_rfl

set_option maxHeartbeats 1000000 in
set_option maxRecDepth 100000 in
theorem copyCheck_used (b : Nat) (w : World) (h0 : w.cell? ⟨b, 0, none⟩ = some (.pointer (some ⟨b, 0, none⟩))) :
    Calls Tryd.prog 31 #[.pointer (some ⟨b, 0, none⟩)] w fun e w' => e = .returned (.tuple #[]) ∧ w' = w := by
  obtain ⟨j, hj, _⟩ := Option.map_eq_some_iff.1 infoBuilder
  go_enter Tryd.func31, Tryd.ntmps31
  go_wp2
  rw [Lib.run_neq_ptr_same w _ Tryd.underlying60 hj]
  go_wp2
  go_end0
  exact ⟨rfl, rfl⟩

set_option maxHeartbeats 1000000 in
set_option maxRecDepth 100000 in
theorem copyCheck_fresh (b : Nat) (w : World) (h0 : w.cell? ⟨b, 0, none⟩ = some (.pointer none)) (hsh : w.shape? b = some (63, 2)) (hfz : w.frozen? ⟨b, 0, none⟩ = false) :
    Calls Tryd.prog 31 #[.pointer (some ⟨b, 0, none⟩)] w fun e w' => e = .returned (.tuple #[]) ∧ w' = w.setCell ⟨b, 0, none⟩ (.pointer (some ⟨b, 0, none⟩)) := by
  obtain ⟨j, hj, hjs⟩ := Option.map_eq_some_iff.1 infoBuilder
  go_enter Tryd.func31, Tryd.ntmps31
  go_wp2
  rw [Lib.run_to_unsafe w ⟨b, 0, none⟩ Tryd.underlying60 Tryd.underlying103 hj (by rw [hjs]; decide) hsh (Nat.zero_lt_succ 1)]
  simp only [Result.andThen]
  rw [Oper.upon_value]
  go_wp2
  rw [run_callFunc_extern Tryd.func38 (by kernel_rfl) (by kernel_rfl) (by kernel_rfl) (e := Extern.AbiNoEscape.same) (by kernel_rfl)]
  rw [Lib.run_noEscape]
  simp only [Result.andThen]
  rw [Oper.upon_value]
  go_wp2
  rw [Lib.run_from_unsafe w ⟨b, 0, none⟩ Tryd.underlying103 Tryd.underlying60 hj hsh liesBuilder]
  simp only [Result.andThen]
  rw [Oper.upon_value]
  go_wp2
  go_end0
  exact ⟨rfl, rfl⟩

theorem copyCheck_any (B b : Nat) (bs : List Value) (w : World) (h : Lib.IsBuilder 63 5 B b bs w) :
    Calls Tryd.prog 31 #[.pointer (some ⟨b, 0, none⟩)] w fun e w' => e = .returned (.tuple #[]) ∧ (Lib.BuilderAt 63 5 B b (.pointer (some ⟨b, 0, none⟩)) bs w' ∧ Below B w w') := by
  rcases h with h | h
  · refine (copyCheck_fresh b w h.cell0 h.shape h.frozen0).mono ?_
    rintro e w' ⟨rfl, rfl⟩
    exact ⟨rfl, h.used _, (Below.refl B w).setCell (p := ⟨b, 0, none⟩) h.1 _⟩
  · refine (copyCheck_used b w h.cell0).mono ?_
    rintro e w' ⟨rfl, rfl⟩
    exact ⟨rfl, h, Below.refl B _⟩

set_option maxHeartbeats 2000000 in
set_option maxRecDepth 100000 in
theorem writeString_any (B b : Nat) (bs : List Value) (s : ByteArray) (w : World) (h : Lib.IsBuilder 63 5 B b bs w) (hlen : bs.length + s.size ≤ 140737488355328) (hBw : B ≤ w.heap.size) :
    Calls Tryd.prog 19 #[.pointer (some ⟨b, 0, none⟩), .string s] w fun e w' => e = .returned (.tuple #[.int .i64 s.size, .nilIface]) ∧ (Lib.BuilderAt 63 5 B b (.pointer (some ⟨b, 0, none⟩)) (bs ++ Lib.strCells s) w' ∧ Below B w w') := by
  obtain ⟨i0, hi, hz0, hz1, hz2⟩ := info_parts infoU8
  go_enter Tryd.func19, Tryd.ntmps19
  go_wp2_with (go_at_call 31; refine (copyCheck_any B b bs _ h).mono ?_)
  rintro e w1 ⟨rfl, h1, hb1⟩
  obtain ⟨hB, v, hbk, hown, hne⟩ := h1
  have c0 : w1.cell? ⟨b, 0, none⟩ = some (.pointer (some ⟨b, 0, none⟩)) := by rw [Lib.cell_of_heap hbk]; rfl
  have c1 : w1.cell? ⟨b, 1, none⟩ = some v := by rw [Lib.cell_of_heap hbk]; rfl
  go_wp2_with (at_builtin; refine Lib.wpList_append_own_string _ rfl _ _ 61 9 rfl B 5 i0 Tryd.underlying61 Tryd.underlying9 hi hz0 hz1 hz2 _ _ _ rfl hown s rfl ?c3 ?c4 ?c5 ?_)
  case c3 => unfold maxLen; omega
  case c4 => omega
  case c5 => have := hb1.size; omega
  intro v' w2 hown' hgrow _
  have hlt : b < w1.heap.size := lt_of_block hbk
  have hb2 : w2.heap[b]? = some (.cells #[.pointer (some ⟨b, 0, none⟩), v] 63 (0, 0)) := by
    rw [hgrow.block b hlt (fun e => hne e.symm)]
    exact hbk
  have d0 : w2.cell? ⟨b, 0, none⟩ = some (.pointer (some ⟨b, 0, none⟩)) := by rw [Lib.cell_of_heap hb2]; rfl
  have d1 : w2.cell? ⟨b, 1, none⟩ = some v := by rw [Lib.cell_of_heap hb2]; rfl
  have f1 : w2.frozen? ⟨b, 1, none⟩ = false := Lib.frozen_of_heap hb2 1
  obtain ⟨ao, n', cap, rfl⟩ : ∃ ao n' cap, v' = .slice ao n' cap := by
    rcases hown'.2 with ⟨hv, _⟩ | ⟨g, cap, cur, hv, _⟩
    · exact ⟨_, _, _, hv⟩
    · exact ⟨_, _, _, hv⟩
  go_wp2
  go_ret2
  refine ⟨rfl, ?_, ?_⟩
  · exact Lib.BuilderAt.put (T := 63) (e := 5) hB hb2 (bs' := bs ++ Lib.strCells s) (by simpa [Lib.strCells_length] using hown') (by decide)
  · exact ((hb1.grown hgrow (by have := hb1.size; omega) (fun k hk => (hown.lt k hk).1)).setCell (p := ⟨b, 1, none⟩) hB _)

end Go.Proofs.YtnejkfccdnadcaaDoor
end

section
namespace Go.Proofs.YtnejkfccdnadcaaDoor
open Go.RowKit Go.Shelf Go.Lib

theorem strCells_bytes (s : ByteArray) : Lib.strCells s = Lib.byteCells s.data.toList := rfl

theorem byteCells_append (l m : List UInt8) : Lib.byteCells (l ++ m) = Lib.byteCells l ++ Lib.byteCells m := by simp [Lib.byteCells]

theorem byteCells_len (l : List UInt8) : (Lib.byteCells l).length = l.length := by simp [Lib.byteCells]

theorem isBuilder_below {T e : TypeId} {B b : Nat} {bs : List Value} {w w' : World} (h : Lib.IsBuilder T e B b bs w) (hb : Below w.heap.size w w') : Lib.IsBuilder T e B b bs w' := by
  have key : ∀ p, Lib.BuilderAt T e B b p bs w → Lib.BuilderAt T e B b p bs w' := fun p hp => by
    obtain ⟨h1, v, h2, h3, h4⟩ := hp
    exact ⟨h1, v, (hb.block b (lt_of_block h2)).trans h2, ownsRow_below h3 hb (Nat.le_refl _), h4⟩
  exact h.imp (key _) (key _)

/-- The text of requests that are in order. -/
def tT (acc : List UInt8) (L : List Ak) : List UInt8 := if L.all (fun x => rightV x.a x.t x.d) = true then acc ++ L.flatMap lineT else []

theorem tT_cons (x : Ak) (r : List Ak) (acc : List UInt8) : tT acc (x :: r) = if rightV x.a x.t x.d = true then tT (acc ++ lineT x) r else [] := by
  unfold tT
  by_cases h2 : rightV x.a x.t x.d = true
  · simp [h2, List.append_assoc]
  · simp [h2]

theorem tT_step {L : List Ak} {i : Nat} (h : i < L.length) (acc : List UInt8) : tT acc (L.drop i) = if rightV L[i].a L[i].t L[i].d = true then tT (acc ++ lineT L[i]) (L.drop (i + 1)) else [] := by
  rw [List.drop_eq_getElem_cons h, tT_cons]

set_option maxHeartbeats 4000000 in
set_option maxRecDepth 100000 in
theorem runScript_any (A : Option Addr) (cap : Nat) (L : List Ak) (w : World) (hn : L.length ≤ 1000) (hB : ∀ x ∈ L, (-9223372036854775808 ≤ x.a ∧ x.a ≤ 9223372036854775807) ∧ (-9223372036854775808 ≤ x.t ∧ x.t ≤ 9223372036854775807) ∧ (-9223372036854775808 ≤ x.d ∧ x.d ≤ 9223372036854775807)) (hr : ARow w w.heap.size A L)
    (htab : Lib.TabIs Tryd.prog w "internal/strconv.uint64pow10" .u64 Lib.pow10Tab) (hg : 0 < w.heap.size) :
    Calls Tryd.prog 8 #[.slice A L.length cap] w fun e w' => e = .returned (.string ⟨(sT [] 0 L).toArray⟩) ∧ Below w.heap.size w w' := by
  have h1 := script_any A cap L w (by omega) hr
  obtain ⟨n, hn'⟩ : ∃ n, n = L.length := ⟨_, rfl⟩
  rw [← hn'] at hn h1 ⊢
  have H1 := Lib.hid h1
  have HN := Lib.hid hn'
  have HBD := Lib.hid hB
  clear hn' hB h1
  obtain ⟨R, hR⟩ : ∃ R, R = sT [] 0 L := ⟨_, rfl⟩
  rw [← hR]
  have HSO : Hid (sortedV 0 L = false → R = []) := Lib.hid (fun h => by rw [hR, sT_eq, if_neg]; rw [h]; simp)
  have HR : Hid (sortedV 0 L = true → R = tT [] (L.drop 0)) := Lib.hid (fun h => by rw [hR, sT_eq, List.drop_zero]; unfold tT; simp [h])
  clear hR
  generalize sortedV 0 L = so at H1 HSO HR
  go_enter Tryd.func8, Tryd.ntmps8
  cases so with
  | false =>
    have HQ := Lib.hid (HSO.out rfl)
    go_wp2_with (go_at_call 17; refine H1.out.mono ?_; rintro e w1 ⟨rfl, hb1⟩)
    go_ret
    exact ⟨by rw [HQ.out]; rfl, hb1⟩
  | true =>
    have HR' := Lib.hid (HR.out rfl)
    clear HSO HR
    go_upto_region 4 with (go_at_call 17; refine H1.out.mono ?_; rintro e w1 ⟨rfl, hb1⟩)
    have hib := fresh_isBuilder 63 5 w1
    have hb2 := hb1.alloc hb1.size (.cells #[.pointer none, .slice none 0 0] 63)
    have hbs : w1.heap.size ≤ (w1.alloc (.cells #[.pointer none, .slice none 0 0] 63)).heap.size := by simp
    generalize w1.alloc (.cells #[.pointer none, .slice none 0 0] 63) = w2 at hib hb2 hbs ⊢
    obtain ⟨b, hb⟩ : ∃ b, w1.heap.size = b := ⟨_, rfl⟩
    have hwb : w.heap.size ≤ b := by rw [← hb]; exact hb1.size
    rw [hb] at hib hbs ⊢
    clear hb hb1 H1
    go_wp2
    go_loopw [11] (fun v11 wr => ∃ (i : Nat) (acc : List UInt8), v11 = .int .i64 i ∧ i ≤ n ∧ Hid (acc.length ≤ 70 * i) ∧ Hid (R = tT acc (L.drop i)) ∧ Hid (Lib.IsBuilder 63 5 b b (Lib.byteCells acc) wr) ∧ Hid (b ≤ wr.heap.size) ∧ Below w.heap.size w wr) (fun v11 _ => n - (RowKit.intOf v11).toNat)
    case atStart => exact ⟨0, [], rfl, Nat.zero_le _, Lib.hid (Nat.zero_le _), HR', Lib.hid hib, Lib.hid hbs, hb2⟩
    case round =>
      obtain ⟨i, acc, rfl, hi, hal, hS, HIB, HBS, hbr⟩ := hrel
      by_cases hin : i < n
      · have hil : i < L.length := by rw [← HN.out]; exact hin
        obtain ⟨b1, o1, rfl, hlt1, hc1⟩ := hr (by omega)
        obtain ⟨x0, x1, x2⟩ := hc1 i hil
        have a0 := (hbr.cell (p := ⟨b1, _, none⟩) hlt1).trans x0
        have a1 := (hbr.cell (p := ⟨b1, _, none⟩) hlt1).trans x1
        have a2 := (hbr.cell (p := ⟨b1, _, none⟩) hlt1).trans x2
        have HST := Lib.hid (hS.out.trans (tT_step hil acc))
        have HB3 := HBD.out L[i] (List.getElem_mem hil)
        clear x0 x1 x2 hc1 hS
        generalize L[i] = x at *
        obtain ⟨xa, xt, xd⟩ := x
        simp only at a0 a1 a2 HST HB3
        obtain ⟨hba, hbt, hbd⟩ := HB3
        have HRT := Lib.hid (fun W => right_any xa xt xd hbt W)
        go_upto_region 7 with (fail)
        have hbx := hbr.alloc hbr.size (.cells #[.int .i64 xa, .int .i64 xt, .int .i64 xd] 46)
        have hlx := heap_alloc_new wr (.cells #[.int .i64 xa, .int .i64 xt, .int .i64 xd] 46)
        have HIB2 := Lib.hid (isBuilder_below HIB.out ((Below.refl wr.heap.size wr).alloc (Nat.le_refl _) (.cells #[.int .i64 xa, .int .i64 xt, .int .i64 xd] 46)))
        have HBS2 : Hid (b ≤ (wr.alloc (.cells #[.int .i64 xa, .int .i64 xt, .int .i64 xd] 46)).heap.size) := Lib.hid (by have := HBS.out; simp; omega)
        generalize wr.alloc (.cells #[.int .i64 xa, .int .i64 xt, .int .i64 xd] 46) = W3 at hbx hlx HIB2 HBS2 ⊢
        obtain ⟨bb, hbb⟩ : ∃ b, wr.heap.size = b := ⟨_, rfl⟩
        have HBB : Hid (b ≤ bb) := Lib.hid (by rw [← hbb]; exact HBS.out)
        rw [hbb] at hlx ⊢
        clear a0 a1 a2 hbr hbb HIB HBS
        have q0 := cell_of_row W3 bb 0 _ _ _ hlx
        have q1 := cell_of_row W3 bb 1 _ _ _ hlx
        have q2 := cell_of_row W3 bb 2 _ _ _ hlx
        simp at q0 q1 q2
        cases hrv : rightV xa xt xd with
        | false =>
          have HQ : Hid (R = []) := Lib.hid (by rw [HST.out, hrv]; rfl)
          rw [hrv] at HRT
          clear hrv
          go_wp2_with (go_at_call 18; refine (HRT.out _).mono ?_; rintro e w4 ⟨rfl, hb4⟩)
          go_ret
          exact ⟨by rw [HQ.out]; rfl, hbx.trans (hb4.mono hbx.size)⟩
        | true =>
          have HQ : Hid (R = tT (acc ++ lineT ⟨xa, xt, xd⟩) (L.drop (i + 1))) := Lib.hid (by rw [HST.out, if_pos hrv])
          rw [hrv] at HRT
          clear hrv HST
          go_upto_region 9 with (go_at_call 18; refine (HRT.out _).mono ?_; rintro e w4 ⟨rfl, hb4⟩)
          have hb5 := hbx.trans (hb4.mono hbx.size)
          have HIB4 := Lib.hid (isBuilder_below HIB2.out hb4)
          have HBS4 : Hid (b ≤ w4.heap.size) := Lib.hid (by have := HBS2.out; have := hb4.size; omega)
          have k0 := cellKeptM q0 hb4
          have k1 := cellKeptM q1 hb4
          have k2 := cellKeptM q2 hb4
          clear q0 q1 q2 hlx hb4 hbx HIB2 HBS2 HBB
          have hD : ∀ W : World, ∃ D : ByteArray, D = ⟨(Lib.join ([xa, xt, xd].map itoa) [32]).toArray⟩ := fun _ => ⟨_, rfl⟩
          obtain ⟨D, hD⟩ := hD w4
          have HDT : Hid ((D ++ ⟨#[10]⟩ : ByteArray).data.toList = lineT ⟨xa, xt, xd⟩) := Lib.hid (by
            rw [hD]
            simp [lineT, Lib.join, List.intercalate])
          have hDS : D.size ≤ 65 := by
            have l0 := itoa_len xa hba.1 hba.2
            have l1 := itoa_len xt hbt.1 hbt.2
            have l2 := itoa_len xd hbd.1 hbd.2
            rw [Lib.size_eq, hD]
            simp [Lib.join, List.intercalate]
            omega
          have HWD : Hid (Calls Tryd.prog 20 #[.slice (some ⟨w4.heap.size, 0, none⟩) 3 3] (w4.alloc (.cells #[.int .i64 xa, .int .i64 xt, .int .i64 xd] 2)) fun e w' => e = .returned (.string D) ∧ Below w4.heap.size w4 w') := Lib.hid (by
            have hal := (Below.refl w4.heap.size w4).alloc (Nat.le_refl _) (.cells #[.int .i64 xa, .int .i64 xt, .int .i64 xd] 2)
            have hnew := heap_alloc_new w4 (.cells #[.int .i64 xa, .int .i64 xt, .int .i64 xd] 2)
            rw [hD]
            refine (words_any (some ⟨w4.heap.size, 0, none⟩) 3 [xa, xt, xd] _ (fun x hx => ?_) (by simp) (fun _ => ⟨w4.heap.size, 0, rfl, lt_of_block hnew, fun k hk => ?_⟩) (tab_below htab (hb5.trans (hal.mono hb5.size)) hg) (by have := hb5.size; have := hal.size; omega)).mono ?_
            · simp at hx
              rcases hx with rfl | rfl | rfl
              · exact hba
              · exact hbt
              · exact hbd
            · have hk3 : k = 0 ∨ k = 1 ∨ k = 2 := by simp at hk; omega
              rcases hk3 with rfl | rfl | rfl
              · exact cell_of_row _ w4.heap.size 0 _ _ _ hnew
              · exact cell_of_row _ w4.heap.size 1 _ _ _ hnew
              · exact cell_of_row _ w4.heap.size 2 _ _ _ hnew
            · rintro e w' ⟨he, hb⟩
              exact ⟨he, hal.trans (hb.mono hal.size)⟩)
          clear hD
          have hal1 := Nat.le_of_lt (show acc.length < 140737488355328 - 100 by have := hal.out; omega)
          go_wp2_with (go_at_call 20; refine HWD.out.mono ?_; rintro e w6 ⟨rfl, hb6⟩)
          have HWS := Lib.hid (writeString_any b b (Lib.byteCells acc) (D ++ ⟨#[10]⟩) w6 (isBuilder_below HIB4.out hb6) (by rw [byteCells_len]; simp [ByteArray.size_append]; show acc.length + (D.size + 1) ≤ _; omega) (by have := HBS4.out; have := hb6.size; omega))
          go_wp2_with (go_at_call 19; refine HWS.out.mono ?_; rintro e w7 ⟨rfl, hbt7, hb7⟩)
          have hb8 := (hb5.trans (hb6.mono hb5.size)).trans (hb7.mono hwb)
          have HL8 : Hid ((acc ++ lineT ⟨xa, xt, xd⟩).length ≤ 70 * (i + 1)) := Lib.hid (by
            rw [List.length_append, ← HDT.out, ← Lib.size_eq]
            have := hal.out
            simp [ByteArray.size_append]
            show acc.length + (D.size + 1) ≤ _
            omega)
          have HI8 : Hid (Lib.IsBuilder 63 5 b b (Lib.byteCells (acc ++ lineT ⟨xa, xt, xd⟩)) w7) := Lib.hid (by
            rw [byteCells_append, ← HDT.out, ← strCells_bytes]
            exact .inr hbt7)
          have HS8 : Hid (b ≤ w7.heap.size) := Lib.hid (by have := hbt7.lt; omega)
          clear hb5 hb6 hb7 hbt7 HWS HWD hal1 hDS
          go_roundw
          case rel => exact ⟨i + 1, acc ++ lineT ⟨xa, xt, xd⟩, by simp, hin, HL8, HQ, HI8, HS8, hb8⟩
          case measure => simp [RowKit.intOf]; omega
      · obtain rfl : i = n := by omega
        have HE : Hid (acc = R) := Lib.hid (by rw [hS.out, HN.out, List.drop_eq_nil_of_le (Nat.le_refl _)]; simp [tT])
        have HST := Lib.hid (Tryd.Builder_String_any b b acc wr HIB.out HBS.out)
        go_wp2_with (go_at_call 21; refine HST.out.mono ?_; rintro e w4 ⟨rfl, hb4⟩)
        go_ret
        exact ⟨by rw [HE.out]; rfl, hbr.trans (hb4.mono hwb)⟩

end Go.Proofs.YtnejkfccdnadcaaDoor
end

section
namespace Go.Proofs.YtnejkfccdnadcaaDoor
open Go.RowKit Go.Shelf Go.Lib

/-- Where a line's first word stands. -/
def at0 : List Wd → Int
  | [] => 0
  | x :: _ => x.p

def lastA (acc : List Ak) : Int := match acc.getLast? with
  | none => 0
  | some y => y.a

/-- What lines say: requests; or where a line is wrong. -/
noncomputable def pv (acc : List Ak) : List (List Wd) → List Ak × Option Int
  | [] => (acc, none)
  | w :: r => match lineV w with
    | none => ([], some (at0 w))
    | some a => if a.a < lastA acc then ([], some (at0 w)) else pv (acc ++ [a]) r

theorem pv_bad {acc : List Ak} {w : List Wd} {r : List (List Wd)} (h : lineV w = none) : pv acc (w :: r) = ([], some (at0 w)) := by
  rw [pv, h]

theorem pv_early {acc : List Ak} {w : List Wd} {r : List (List Wd)} {a : Ak} (h : lineV w = some a) (hl : a.a < lastA acc) : pv acc (w :: r) = ([], some (at0 w)) := by
  rw [pv, h]
  simp only
  rw [if_pos hl]

theorem pv_on {acc : List Ak} {w : List Wd} {r : List (List Wd)} {a : Ak} (h : lineV w = some a) (hl : ¬ a.a < lastA acc) : pv acc (w :: r) = pv (acc ++ [a]) r := by
  rw [pv, h]
  simp only
  rw [if_neg hl]

theorem lastA_snoc (acc : List Ak) (a : Ak) : lastA (acc ++ [a]) = a.a := by simp [lastA]

/-- Every line has a word; it stands at 0 or further on. -/
theorem lns_words (l : List Wd) (h : ∀ x ∈ l, 0 ≤ x.p) : ∀ g ∈ lns l, g ≠ [] ∧ 0 ≤ at0 g := by
  have key : ∀ (m : List Wd) (acc : List (List Wd)), (∀ x ∈ m, 0 ≤ x.p) → (∀ g ∈ acc, g ≠ [] ∧ 0 ≤ at0 g) → ∀ g ∈ m.foldl lnStep acc, g ≠ [] ∧ 0 ≤ at0 g := by
    intro m
    induction m with
    | nil => intro acc _ h g hg; exact h g hg
    | cons x m ih =>
      intro acc hm h g hg
      refine ih (lnStep acc x) (fun y hy => hm y (List.mem_cons_of_mem _ hy)) (fun g hg => ?_) g hg
      have hx := hm x List.mem_cons_self
      unfold lnStep at hg
      split at hg
      · simp at hg; subst hg; exact ⟨by simp, hx⟩
      · rename_i g0 he
        have h0 := h g0 (List.mem_of_getLast? he)
        split at hg
        · rcases List.mem_append.1 hg with hg | hg
          · exact h g ((List.dropLast_sublist _).subset hg)
          · simp at hg
            subst hg
            refine ⟨by simp, ?_⟩
            cases g0 with
            | nil => exact absurd rfl h0.1
            | cons y r => exact h0.2
        · rcases List.mem_append.1 hg with hg | hg
          · exact h g hg
          · simp at hg; subst hg; exact ⟨by simp, hx⟩
  exact key l [] h (fun g hg => by cases hg)

theorem lns_each' (l : List Wd) : ∀ g ∈ lns l, g.length ≤ l.length := by
  have : ∀ (m : List Wd) (acc : List (List Wd)) (k : Nat), (∀ g ∈ acc, g.length ≤ k) → ∀ g ∈ m.foldl lnStep acc, g.length ≤ k + m.length := by
    intro m
    induction m with
    | nil => intro acc k h g hg; exact h g hg
    | cons x m ih =>
      intro acc k h g hg
      have h1 : ∀ g ∈ lnStep acc x, g.length ≤ k + 1 := by
        intro g hg
        unfold lnStep at hg
        split at hg
        · simp at hg; subst hg; simp
        · rename_i g0 he
          have hm := List.mem_of_getLast? he
          have h0 := h g0 hm
          split at hg
          · rcases List.mem_append.1 hg with hg | hg
            · have := h g ((List.dropLast_sublist _).subset hg); omega
            · simp at hg; subst hg; simp; omega
          · rcases List.mem_append.1 hg with hg | hg
            · have := h g hg; omega
            · simp at hg; subst hg; simp
      have h2 := ih (lnStep acc x) (k + 1) h1 g hg
      simp only [List.length_cons]
      omega
  intro g hg
  have h := this l [] 0 (fun g h => by cases h) g hg
  omega

set_option maxHeartbeats 4000000 in
set_option maxRecDepth 100000 in
theorem parse_any (s : ByteArray) (hs : s.size ≤ 65536) (m : Int) (w : World) (hm : w.cell? ⟨1, 0, none⟩ = some (.int .i64 m)) :
    Calls Tryd.prog 9 #[.string s] w fun e w' => (∃ v, e = .returned (.tuple #[v, .int .i64 ((pv [] (lns (textW s))).2.getD (s.size : Int)), .bool (pv [] (lns (textW s))).2.isNone]) ∧ w'.ownsRow w.heap.size 46 3 v (pv [] (lns (textW s))).1.length ((pv [] (lns (textW s))).1.flatMap Ak.cells)) ∧ Below w.heap.size w w' := by
  have hlt : 1 < w.heap.size := cell_lt hm
  obtain ⟨i0, hi0, hz0, hz1, hz2⟩ := info_parts infoA
  have hN := textW_len s
  have hLL := lns_len (textW s)
  have hEE := lns_each' (textW s)
  have hWW := lns_words (textW s) (fun x hx => (text_bd s x hx).1.1)
  have H1 := Lib.hid (lexLines_any s hs m w hm)
  generalize lns (textW s) = Ls at *
  obtain ⟨n, hn⟩ : ∃ n, n = Ls.length := ⟨_, rfl⟩
  rw [← hn] at H1 hLL
  have HN := Lib.hid hn
  have HE := Lib.hid hEE
  have HW := Lib.hid hWW
  obtain ⟨R, hR⟩ : ∃ R, R = pv [] Ls := ⟨_, rfl⟩
  rw [← hR]
  have HR : Hid (R = pv [] (Ls.drop 0)) := Lib.hid hR
  clear hn hEE hWW hR
  generalize (textW s).length = nt at *
  go_enter Tryd.func9, Tryd.ntmps9
  go_wp2
  go_step3
  go_wp2
  go_step3
  go_wp2_with (go_at_call 22; refine H1.out.mono ?_; rintro e w1 ⟨⟨A1, c1, rfl, r1⟩, hb1⟩)
  obtain ⟨B, hB⟩ : ∃ B, w1.heap.size = B := ⟨_, rfl⟩
  rw [hB] at r1
  go_loopw [5, 6, 7, 15] (fun v5 v6 v7 v15 wr => ∃ (i : Nat) (acc : List Ak), v6 = .int .i64 (lastA acc) ∧ v7 = .int .i64 (-1) ∧ v15 = .int .i64 i ∧ i ≤ n ∧ acc.length ≤ i ∧ Hid (R = pv acc (Ls.drop i)) ∧ wr.ownsRow B 46 3 v5 acc.length (acc.flatMap Ak.cells) ∧ Below B w1 wr) (fun _ _ _ v15 _ => n - (RowKit.intOf v15).toNat)
  case atStart => exact ⟨0, [], rfl, rfl, rfl, Nat.zero_le _, Nat.zero_le _, HR, World.ownsRow_nil _ _ _ _, Below.refl _ _⟩
  case round =>
    obtain ⟨i, acc, rfl, rfl, rfl, hi, hacc, hS, hrow, hbr⟩ := hrel
    have hBw : B ≤ wr.heap.size := by rw [← hB]; exact hbr.size
    by_cases hin : i < n
    · have hil : i < Ls.length := by rw [← HN.out]; exact hin
      obtain ⟨bA, oA, rfl, hltA, hcA⟩ := r1 (by omega)
      obtain ⟨Ai, ci, x0, x1⟩ := hcA i hil
      have a0 := (hbr.cell (p := ⟨bA, _, none⟩) (by show bA < B; omega)).trans x0
      have hlen := HE.out Ls[i] (List.getElem_mem hil)
      have hne := HW.out Ls[i] (List.getElem_mem hil)
      have hdrop : Ls.drop i = Ls[i] :: Ls.drop (i + 1) := List.drop_eq_getElem_cons hil
      generalize Ls[i] = L at a0 x0 x1 hlen hne hdrop
      have hrL := x1.below hbr (Nat.le_refl _)
      clear hcA x0 x1
      have HD := Lib.hid hdrop
      have HREQ := Lib.hid (request_any Ai ci L wr (by omega) (hrL.more hBw))
      obtain ⟨nl, hnl⟩ : ∃ k, L.length = k := ⟨_, rfl⟩
      rw [hnl] at a0 HREQ
      clear hdrop
      go_upto_region 8 with (go_at_call 23; refine HREQ.out.mono ?_; rintro e w2 ⟨⟨xa, xt, xd, ok, rfl, ho1, ho2⟩, hb2⟩)
      obtain ⟨x, r, rfl⟩ : ∃ x r, L = x :: r := by
        cases L with
        | nil => exact absurd rfl hne.1
        | cons x r => exact ⟨x, r, rfl⟩
      have hp : 0 ≤ x.p := hne.2
      obtain ⟨bi, oi, rfl, hlti, fi⟩ := hrL (by simp)
      have f0 := (fi 0 (by simp)).1
      simp only [Nat.zero_mul, Nat.add_zero, List.getElem_cons_zero] at f0
      clear fi hrL hne
      have hrow2 := ownsRow_below hrow hb2 (Nat.le_refl _)
      have hbx := hbr.trans (hb2.mono hBw)
      have hBw2 : B ≤ w2.heap.size := Nat.le_trans hBw hb2.size
      have hby := hbx.alloc hBw2 (.cells #[.int .i64 xa, .int .i64 xt, .int .i64 xd] 46)
      have g0 : (w2.alloc (.cells #[.int .i64 xa, .int .i64 xt, .int .i64 xd] 46)).cell? ⟨bi, oi, none⟩ = some (.int .i64 x.p) :=
        (World.cell?_alloc_lt _ _ _ (Nat.lt_of_lt_of_le (cell_lt f0) hb2.size)).trans (cellKeptM f0 hb2)
      have hblk := heap_alloc_new w2 (.cells #[.int .i64 xa, .int .i64 xt, .int .i64 xd] 46)
      have hrow3 := hrow2.alloc (.cells #[.int .i64 xa, .int .i64 xt, .int .i64 xd] 46)
      have hrlt : ∀ k, u5.ownBlock = some k → k < w2.heap.size := fun k e => (hrow2.lt k e).2
      have hB3 : B ≤ (w2.alloc (.cells #[.int .i64 xa, .int .i64 xt, .int .i64 xd] 46)).heap.size := by simp; omega
      generalize w2.alloc (.cells #[.int .i64 xa, .int .i64 xt, .int .i64 xd] 46) = W at hby g0 hblk hrow3 hB3 ⊢
      obtain ⟨b2, hb2e⟩ : ∃ b, w2.heap.size = b := ⟨_, rfl⟩
      rw [hb2e] at hblk hrlt ⊢
      have c0 := cell_of_row W b2 0 _ _ _ hblk
      have c1' := cell_of_row W b2 1 _ _ _ hblk
      have c2' := cell_of_row W b2 2 _ _ _ hblk
      simp at c0 c1' c2'
      clear hb2 hbx hrow2 hBw2 hrow f0 HREQ
      have HAT : Hid (at0 (x :: r) = x.p) := Lib.hid rfl
      have hnl0 : 0 < nl := by rw [← hnl]; simp
      clear hnl
      have HO1 := Lib.hid ho1
      have HO2 := Lib.hid ho2
      clear ho1 ho2
      generalize x.p = xp at *
      have HBAD : Hid (R = ([], some xp) → ∀ v', v' = Value.slice none 0 0 → (∃ v, Ending.returned (.tuple #[v', .int .i64 xp, .bool false]) = .returned (.tuple #[v, .int .i64 (R.2.getD (s.size : Int)), .bool R.2.isNone]) ∧ W.ownsRow w.heap.size 46 3 v R.1.length (R.1.flatMap Ak.cells)) ∧ Below w.heap.size w W) := Lib.hid (fun e v' hv => by
        subst hv
        rw [e]
        exact ⟨⟨_, rfl, World.ownsRow_nil _ _ _ _⟩, hb1.trans (hby.mono (by rw [← hB]; exact hb1.size))⟩)
      cases ok with
      | false =>
        have HB : Hid (R = ([], some xp)) := Lib.hid (by rw [hS.out, HD.out, pv_bad (HO2.out rfl), HAT.out])
        go_wp2
        repeat rw [Exit.noGoto_ret]
        go_wp2
        go_ret3
        exact HBAD.out HB.out _ rfl
      | true =>
        have HL := Lib.hid (HO1.out rfl)
        by_cases hlast : xa < lastA acc
        · have HB : Hid (R = ([], some xp)) := Lib.hid (by rw [hS.out, HD.out, pv_early HL.out hlast, HAT.out])
          go_wp2
          repeat rw [Exit.noGoto_ret]
          go_wp2
          go_ret3
          exact HBAD.out HB.out _ rfl
        · have HB : Hid (R = pv (acc ++ [⟨xa, xt, xd⟩]) (Ls.drop (i + 1))) := Lib.hid (by rw [hS.out, HD.out, pv_on HL.out hlast])
          obtain ⟨k, hk⟩ : ∃ k, acc.length = k := ⟨_, rfl⟩
          rw [hk] at hrow3 hacc
          have HK := Lib.hid hk
          clear hk
          have hrowd : W.drew.ownsRow B 46 3 u5 k (acc.flatMap Ak.cells) := hrow3
          have HROW := Lib.hid hrowd
          clear hrow3 hrowd
          have hBd : B ≤ W.drew.heap.size := hB3
          have hS0 : W.drew.cell? ⟨b2, 0, none⟩ = some (.int .i64 xa) ∧ W.drew.cell? ⟨b2, 1, none⟩ = some (.int .i64 xt) ∧ W.drew.cell? ⟨b2, 2, none⟩ = some (.int .i64 xd) := ⟨c0, c1', c2'⟩
          have hb2W : b2 < W.heap.size := lt_of_block hblk
          go_upto_region 10 with (fail)
          refine wp_region_held_drew (S := fun W' => W'.cell? ⟨b2, 0, none⟩ = some (.int .i64 xa) ∧ W'.cell? ⟨b2, 1, none⟩ = some (.int .i64 xt) ∧ W'.cell? ⟨b2, 2, none⟩ = some (.int .i64 xd)) (by kernel_rfl) hS0 (fun _ => ?_)
          refine wpAnyH_take (i := 0) (v := ?_) rfl (by kernel_rfl) (by kernel_rfl) (by kernel_rfl) (fun _ _ _ h => h) (Or.inl ⟨by rfl, fun W' hS => ?_⟩) hS0 ?_
          rotate_left
          · obtain ⟨s0, s1, s2⟩ := hS
            go_simp
            try with_reducible rfl
          refine wpAnyH_take (i := 1) (v := ?_) rfl (by kernel_rfl) (by kernel_rfl) (by kernel_rfl) (fun _ _ _ h => h) (Or.inl ⟨by rfl, fun W' hS => ?_⟩) hS0 ?_
          rotate_left
          · obtain ⟨s0, s1, s2⟩ := hS
            go_simp
            try with_reducible rfl
          refine wpAnyH_take (i := 4) (v := ?_) rfl (by kernel_rfl) (by kernel_rfl) (by kernel_rfl) (fun _ _ _ h => h) (Or.inl ⟨by rfl, fun W' hS => ?_⟩) hS0 ?_
          rotate_left
          · obtain ⟨s0, s1, s2⟩ := hS
            go_simp
            try with_reducible rfl
          refine wpAnyH_take (i := 5) (v := ?_) rfl (by kernel_rfl) (by kernel_rfl) (by kernel_rfl) (fun _ _ _ h => h) (Or.inl ⟨by rfl, fun W' hS => ?_⟩) hS0 ?_
          rotate_left
          · obtain ⟨s0, s1, s2⟩ := hS
            go_simp
            try with_reducible rfl
          refine wpAnyH_ready (rs := [2]) (by kernel_rfl) (by simp) ?_
          refine AllReadyH.cons rfl (fun K9 hK9 => ?_) AllReadyH.nil
          go_simp
          have hS1 : (W.drew.alloc (.cells #[.int .i64 xa, .int .i64 xt, .int .i64 xd] 46)).cell? ⟨b2, 0, none⟩ = some (.int .i64 xa) ∧ (W.drew.alloc (.cells #[.int .i64 xa, .int .i64 xt, .int .i64 xd] 46)).cell? ⟨b2, 1, none⟩ = some (.int .i64 xt) ∧ (W.drew.alloc (.cells #[.int .i64 xa, .int .i64 xt, .int .i64 xd] 46)).cell? ⟨b2, 2, none⟩ = some (.int .i64 xd) :=
            ⟨(World.cell?_alloc_lt _ _ _ hb2W).trans c0, (World.cell?_alloc_lt _ _ _ hb2W).trans c1', (World.cell?_alloc_lt _ _ _ hb2W).trans c2'⟩
          refine hK9.out _ _ hS1 (fun _ => ?_)
          clear hK9 K9
          refine wpAnyH_ready (rs := [3]) (by kernel_rfl) (by simp) ?_
          refine AllReadyH.cons rfl (fun K9 hK9 => ?_) AllReadyH.nil
          refine step_append_lies _ (by rfl) (.tmp 36) (.tmp 38) 27 (by rfl) B 46 i0 _ 3 24 Tryd.underlying27 hi0 hz0 hz1 hz2 rfl (by decide) u5 k (acc.flatMap Ak.cells) (by rfl) ((HROW.out).alloc _) ⟨W.heap.size, 0, none⟩ 1 1 [.int .i64 xa, .int .i64 xt, .int .i64 xd] (by rfl) rfl (three_new W.drew _ _ _ _) (by simp [Value.oneCell']) (by decide) (by unfold maxLen; omega) (by omega) (by simp; omega) _ rfl ?_
          intro g' cap' w3 hown' hgrow _ _
          have hfar : ∀ j, w3.cell? ⟨b2, j, none⟩ = (W.drew.alloc (.cells #[.int .i64 xa, .int .i64 xt, .int .i64 xd] 46)).cell? ⟨b2, j, none⟩ := fun j => hgrow.cell_far ⟨b2, j, none⟩ (by simp; omega) (fun e => by have := hrlt b2 e.symm; omega)
          have hS3 : w3.cell? ⟨b2, 0, none⟩ = some (.int .i64 xa) ∧ w3.cell? ⟨b2, 1, none⟩ = some (.int .i64 xt) ∧ w3.cell? ⟨b2, 2, none⟩ = some (.int .i64 xd) := ⟨(hfar 0).trans hS1.1, (hfar 1).trans hS1.2.1, (hfar 2).trans hS1.2.2⟩
          have hB4 : Below B W.drew w3 := ((Below.refl B W.drew).alloc hBd _).grown hgrow (by simp; omega) (fun k e => (HROW.out.lt k e).1)
          refine hK9.out _ _ hS3 (fun _ => ?_)
          clear hK9 K9
          refine wpAnyH_take (i := 6) (v := ?_) rfl (by kernel_rfl) (by kernel_rfl) (by kernel_rfl) (fun _ _ _ h => h) (Or.inl ⟨by rfl, fun W' hS => ?_⟩) hS3 ?_
          rotate_left
          · obtain ⟨s0, s1, s2⟩ := hS
            go_simp
            try with_reducible rfl
          refine wpAnyH_take (i := 7) (v := ?_) rfl (by kernel_rfl) (by kernel_rfl) (by kernel_rfl) (fun _ _ _ h => h) (Or.inl ⟨by rfl, fun W' hS => ?_⟩) hS3 ?_
          rotate_left
          · obtain ⟨s0, s1, s2⟩ := hS
            go_simp
            try with_reducible rfl
          refine wpAnyH_done (by kernel_rfl) ?_ _
          go_wp2
          go_roundw
          case rel => exact ⟨i + 1, acc ++ [⟨xa, xt, xd⟩], by rw [lastA_snoc], rfl, by simp, hin, by have := HK.out; simp; omega, HB, by have h9 := HK.out; simpa [h9, Ak.cells] using hown', hby.drew.trans hB4⟩
          case measure => simp [RowKit.intOf] <;> omega
    · obtain rfl : i = n := by omega
      have HK : Hid (R = (acc, none)) := Lib.hid (by rw [hS.out, HN.out, List.drop_eq_nil_of_le (Nat.le_refl _)]; rfl)
      go_wp2
      repeat rw [Exit.noGoto_ret]
      go_wp2
      go_ret3
      rw [HK.out]
      exact ⟨⟨_, rfl, ownsRow_base hrow (by rw [← hB]; exact hb1.size)⟩, hb1.trans (hbr.mono (by rw [← hB]; exact hb1.size))⟩

end Go.Proofs.YtnejkfccdnadcaaDoor
end

section
namespace Go.Proofs.YtnejkfccdnadcaaDoor
open Go.RowKit Go.Shelf Go.Lib

theorem awake_text : (⟨(sT [] 0 [⟨7, 2, 3⟩]).toArray⟩ : ByteArray) = ⟨#[55, 32, 50, 32, 51, 10]⟩ := by kernel_rfl

set_option maxHeartbeats 1000000 in
theorem awake_yes (w : World) (htab : Lib.TabIs Tryd.prog w "internal/strconv.uint64pow10" .u64 Lib.pow10Tab) (hg : 0 < w.heap.size) :
    Calls Tryd.prog 5 #[] w fun e w' => e = .returned (.bool true) ∧ Below w.heap.size w w' := by
  have hb := (Below.refl w.heap.size w).alloc (Nat.le_refl _) (.cells #[.int .i64 7, .int .i64 2, .int .i64 3] 46)
  have hn := heap_alloc_new w (.cells #[.int .i64 7, .int .i64 2, .int .i64 3] 46)
  have h1 := runScript_any (some ⟨w.heap.size, 0, none⟩) 1 [⟨7, 2, 3⟩] (w.alloc (.cells #[.int .i64 7, .int .i64 2, .int .i64 3] 46)) (by simp) (fun x hx => by simp at hx; subst hx; decide) (fun _ => ⟨w.heap.size, 0, rfl, lt_of_block hn, fun i hi => by
    obtain rfl : i = 0 := by simpa using hi
    exact ⟨cell_of_row _ w.heap.size 0 _ _ _ hn, cell_of_row _ w.heap.size 1 _ _ _ hn, cell_of_row _ w.heap.size 2 _ _ _ hn⟩⟩) (tab_below htab hb hg) (by have := hb.size; omega)
  rw [awake_text] at h1
  have H1 := Lib.hid h1
  clear h1 hn
  go_enter Tryd.func5, Tryd.ntmps5
  go_wp2_with (go_at_call 8; refine H1.out.mono ?_; rintro e w1 ⟨rfl, hb1⟩)
  go_ret
  exact ⟨rfl, hb.trans (hb1.mono hb.size)⟩

end Go.Proofs.YtnejkfccdnadcaaDoor
end
