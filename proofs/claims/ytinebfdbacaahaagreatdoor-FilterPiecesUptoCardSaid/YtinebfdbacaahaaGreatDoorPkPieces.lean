/- FilterPieces is proved in its UptoCardSaid form: for any texts and any lists of texts whose data are of a size up to the card's bound the statement's function returns true. There is no further condition. -/
import Derived.Test.YtinebfdbacaahaaGreatDoorPkH
import Derived.Test.YtinebfdbacaahaaGreatDoorPkG
import Derived.Test.YtinebfdbacaahaaGreatDoorPkD
import Derived.Test.YtinebfdbacaahaaGreatDoorPkF
import Derived.Test.YtinebfdbacaahaaGreatDoorPkA
import Derived.Lib.Bytealg
import Derived.Lib.Strings
import Derived.Lib.IndexMore
import Derived.Test.YtinebfdbacaahaaGreatDoorPkC
import Derived.Test.YtinebfdbacaahaaGreatDoorCards
import Derived.Test.YtinebfdbacaahaaGreatDoorTie
import Derived.JoinedCond
import Derived.WalkKit
set_option linter.unusedSimpArgs false
set_option linter.unusedVariables false
set_option linter.unusedSectionVars false
set_option linter.unnecessarySimpa false

/- The program's functions in the second form: written by wip/tools/PrintB.lean. -/
namespace Go.Abs
open Go Go.Proofs
/- 5: verger/vergerlaw07.FilterPrints, 2 -/
def bu5 : BFun := ⟨[.t 0],
  .seq (.ins [⟨none, .box 7 (.t 0)⟩, ⟨none, .box 7 (.t 1)⟩]) <|
  .seq (.seq (.ins [⟨none, .call false 11 []⟩, ⟨none, .not (.t 4)⟩, ⟨some (5, false), .ld true 7 (.t 2)⟩, ⟨some (5, false), .call false 12 [.t 6]⟩, ⟨some (5, false), .not (.t 7)⟩, ⟨none, .pick (.t 5) (.d (.bool true)) (.t 8)⟩, ⟨some (9, false), .ld true 7 (.t 3)⟩, ⟨some (9, false), .call false 12 [.t 10]⟩, ⟨some (9, false), .not (.t 11)⟩, ⟨none, .pick (.t 9) (.d (.bool true)) (.t 12)⟩]) <|
  .cond (.t 13) (.seq (.ins [⟨none, .call false 11 []⟩]) <|
  .ret [.t 14]) (.skip)) <|
  .seq (.ins [⟨none, .ld true 7 (.t 2)⟩, ⟨none, .call false 15 [.t 14]⟩, ⟨none, .call false 18 [.t 15]⟩, ⟨none, .ext (.t 16) 0⟩, ⟨none, .ext (.t 16) 1⟩]) <|
  .seq (.ins [⟨none, .ld true 7 (.t 2)⟩, ⟨none, .call false 19 [.t 19]⟩, ⟨none, .ext (.t 20) 0⟩, ⟨none, .ext (.t 20) 1⟩]) <|
  .seq (.ins [⟨none, .bin .eql (.t 17) (.t 21)⟩, ⟨some (23, true), .mv (.t 18)⟩, ⟨some (23, true), .mv (.t 22)⟩, ⟨some (23, true), .bin .eql (.t 24) (.t 25)⟩, ⟨none, .pick (.t 23) (.t 26) (.d (.bool false))⟩, ⟨some (27, true), .ld true 7 (.t 2)⟩, ⟨some (27, true), .call true 15 [.t 28]⟩, ⟨some (27, true), .call true 17 [.t 29]⟩, ⟨some (27, true), .ld true 7 (.t 2)⟩, ⟨some (27, true), .call true 20 [.t 31]⟩, ⟨some (27, true), .binb .eql (.t 30) (.t 32)⟩, ⟨none, .pick (.t 27) (.t 33) (.d (.bool false))⟩, ⟨some (34, true), .ld true 7 (.t 2)⟩, ⟨some (34, true), .call true 15 [.t 35]⟩, ⟨some (34, true), .call true 21 [.t 36]⟩, ⟨some (34, true), .ld true 7 (.t 2)⟩, ⟨some (34, true), .call true 22 [.t 38]⟩, ⟨some (34, true), .bin .eql (.t 37) (.t 39)⟩, ⟨none, .pick (.t 34) (.t 40) (.d (.bool false))⟩, ⟨some (41, true), .ld true 7 (.t 2)⟩, ⟨some (41, true), .call true 15 [.t 42]⟩, ⟨some (41, true), .ld true 7 (.t 3)⟩, ⟨some (41, true), .call true 15 [.t 44]⟩, ⟨some (41, true), .call true 23 [.t 43, .t 45]⟩, ⟨some (41, true), .ld true 7 (.t 2)⟩, ⟨some (41, true), .ld true 7 (.t 3)⟩, ⟨some (41, true), .call false 24 [.t 47, .t 48]⟩, ⟨some (41, true), .binb .eql (.t 46) (.t 49)⟩, ⟨none, .pick (.t 41) (.t 50) (.d (.bool false))⟩]) <|
  .ret [.t 51]⟩
theorem oku5 : Code2 Tryz.prog prims1 5 2 bu5 := Code2.mk' rfl Tryz.func5 (by kernel_rfl) (by kernel_rfl)

/- 11: verger/vergerlaw07.awake, 0 -/
def bu11 : BFun := ⟨[.t 0],
  .seq (.ins []) <|
  .seq (.ins [⟨none, .call false 25 [.d (.str [40, 99, 110, 61, 97, 42, 41])]⟩, ⟨none, .ext (.t 0) 0⟩, ⟨none, .ext (.t 0) 1⟩, ⟨none, .alloc [.int .i64 0, .str [], .str [], .str [], .str [], .nils 0, .nils 0]⟩, ⟨none, .st 7 (.t 3) (.t 1)⟩]) <|
  .seq (.ins [⟨none, .bin .eql (.t 2) (.d (.int .i64 0))⟩, ⟨some (5, true), .fad (.t 3) 0⟩, ⟨some (5, true), .ld false 1 (.t 6)⟩, ⟨some (5, true), .bin .eql (.t 7) (.d (.int .i64 4))⟩, ⟨none, .pick (.t 5) (.t 8) (.d (.bool false))⟩, ⟨some (9, true), .fad (.t 3) 3⟩, ⟨some (9, true), .ld false 1 (.t 10)⟩, ⟨some (9, true), .bin .eql (.t 11) (.d (.str [97]))⟩, ⟨none, .pick (.t 9) (.t 12) (.d (.bool false))⟩, ⟨some (13, true), .ld true 7 (.t 3)⟩, ⟨some (13, true), .mks none 1 1 [.str []] [(0, (.d (.str [65, 110, 110])))]⟩, ⟨some (13, true), .build [.str [], .nils 0] [(0, 1, (.d (.str [99, 110]))), (1, 1, (.t 15))]⟩, ⟨some (13, true), .mks none 2 1 [.str [], .nils 0] [(0, (.t 16))]⟩, ⟨some (13, true), .call false 14 [.t 14, .t 17]⟩, ⟨some (13, true), .bin .eql (.t 18) (.d (.int .i64 1))⟩, ⟨none, .pick (.t 13) (.t 19) (.d (.bool false))⟩]) <|
  .ret [.t 20]⟩
theorem oku11 : Code2 Tryz.prog prims1 11 0 bu11 := Code2.mk' rfl Tryz.func11 (by kernel_rfl) (by kernel_rfl)

/- 25: verger/filter.Parse, 1 -/
def bu25 : BFun := ⟨[.cell 0 true 7, .t 1],
  .seq (.ins [⟨none, .alloc [.int .i64 0, .str [], .str [], .str [], .str [], .nils 0, .nils 0]⟩]) <|
  .seq (.seq (.ins [⟨none, .lenS (.t 0)⟩, ⟨none, .bin .gtr (.t 2) (.d (.int .i64 16384))⟩]) <|
  .cond (.t 3) (.seq (.ins [⟨none, .build [.int .i64 0, .str [], .str [], .str [], .str [], .nils 0, .nils 0] []⟩, ⟨none, .st 7 (.t 1) (.t 4)⟩]) <|
  .ret [.t 1, .d (.int .i64 4)]) (.skip)) <|
  .seq (.ins [⟨none, .build [.str [], .int .i64 0] [(0, 1, (.t 0)), (1, 1, (.d (.int .i64 40)))]⟩, ⟨none, .box 2 (.t 4)⟩]) <|
  .seq (.ins [⟨none, .call false 51 [.t 5, .d (.int .i64 1)]⟩, ⟨none, .ext (.t 6) 0⟩, ⟨none, .ext (.t 6) 1⟩, ⟨none, .alloc [.int .i64 0, .str [], .str [], .str [], .str [], .nils 0, .nils 0]⟩, ⟨none, .st 7 (.t 9) (.t 7)⟩]) <|
  .seq (.seq (.ins [⟨none, .not (.t 8)⟩, ⟨some (11, false), .mv (.t 5)⟩, ⟨some (11, false), .nck (.t 12)⟩, ⟨some (11, false), .fad (.t 13) 0⟩, ⟨some (11, false), .ld false 1 (.t 14)⟩, ⟨some (11, false), .bin .neq (.t 15) (.d (.str []))⟩, ⟨none, .pick (.t 11) (.d (.bool true)) (.t 16)⟩, ⟨some (17, false), .ld true 7 (.t 9)⟩, ⟨some (17, false), .call false 17 [.t 18]⟩, ⟨some (17, false), .not (.t 19)⟩, ⟨none, .pick (.t 17) (.d (.bool true)) (.t 20)⟩]) <|
  .cond (.t 21) (.seq (.ins [⟨none, .build [.int .i64 0, .str [], .str [], .str [], .str [], .nils 0, .nils 0] []⟩, ⟨none, .st 7 (.t 1) (.t 22)⟩]) <|
  .ret [.t 1, .d (.int .i64 2)]) (.skip)) <|
  .seq (.ins [⟨none, .ld true 7 (.t 9)⟩, ⟨none, .st 7 (.t 1) (.t 22)⟩]) <|
  .ret [.t 1, .d (.int .i64 0)]⟩
theorem oku25 : Code2 Tryz.prog prims1 25 1 bu25 := Code2.mk' rfl Tryz.func25 (by kernel_rfl) (by kernel_rfl)

/- 51: (*verger/filter.reader).read, 2 -/
def bu51B0 : BC :=
  .seq (.seq (.seq (.ins [⟨none, .call false 92 [.t 0, .d (.int .u8 41)]⟩, ⟨none, .not (.t 3)⟩]) <|
  .cond (.t 4) (.skip) (.exit 0 [.t 2])) <|
  .block 1 (.seq (.seq (.ins [⟨none, .bin .add (.t 1) (.d (.int .i64 1))⟩, ⟨none, .call false 51 [.t 0, .t 5]⟩, ⟨none, .ext (.t 6) 0⟩, ⟨none, .ext (.t 6) 1⟩, ⟨none, .alloc [.int .i64 0, .str [], .str [], .str [], .str [], .nils 0, .nils 0]⟩, ⟨none, .st 7 (.t 9) (.t 7)⟩]) <|
  .seq (.seq (.ins [⟨none, .not (.t 8)⟩]) <|
  .cond (.t 11) (.seq (.ins [⟨none, .ld true 7 (.t 2)⟩, ⟨none, .st 7 (.t 2) (.t 12)⟩]) <|
  .ret [.t 2, .d (.bool false)]) (.skip)) <|
  .ins [⟨none, .fad (.t 2) 6⟩, ⟨none, .ld false 1 (.t 12)⟩, ⟨none, .ld true 7 (.t 9)⟩, ⟨none, .mks none 7 1 [.int .i64 0, .str [], .str [], .str [], .str [], .nils 0, .nils 0] [(0, (.t 14))]⟩, ⟨none, .app 33 7 (.t 13) (.t 15)⟩, ⟨none, .fad (.t 2) 6⟩, ⟨none, .st 1 (.t 17) (.t 16)⟩]) <|
  .foc [.t 0, .t 1, .t 2])) <|
  .foc [.t 0, .t 1, .t 2]
def bu51L0 : BC := bu51B0
theorem bu51L0_eq : bu51L0 = bu51B0 := rfl

def bu51 : BFun := ⟨[.cell 0 true 7, .t 1],
  .seq (.ins [⟨none, .alloc [.int .i64 0, .str [], .str [], .str [], .str [], .nils 0, .nils 0]⟩]) <|
  .seq (.seq (.ins [⟨none, .nck (.t 0)⟩, ⟨none, .fad (.t 3) 1⟩, ⟨none, .ld false 1 (.t 4)⟩, ⟨none, .bin .sub (.t 5) (.d (.int .i64 1))⟩, ⟨none, .nck (.t 0)⟩, ⟨none, .fad (.t 7) 1⟩, ⟨none, .st 1 (.t 8) (.t 6)⟩]) <|
  .seq (.ins [⟨none, .nck (.t 0)⟩, ⟨none, .fad (.t 10) 1⟩, ⟨none, .ld false 1 (.t 11)⟩, ⟨none, .bin .lss (.t 12) (.d (.int .i64 0))⟩, ⟨some (13, false), .mv (.t 1)⟩, ⟨some (13, false), .bin .gtr (.t 14) (.d (.int .i64 20))⟩, ⟨none, .pick (.t 13) (.d (.bool true)) (.t 15)⟩, ⟨some (16, false), .mv (.t 0)⟩, ⟨some (16, false), .call false 92 [.t 17, .d (.int .u8 40)]⟩, ⟨some (16, false), .not (.t 18)⟩, ⟨none, .pick (.t 16) (.d (.bool true)) (.t 19)⟩, ⟨some (20, false), .mv (.t 0)⟩, ⟨some (20, false), .nck (.t 21)⟩, ⟨some (20, false), .fad (.t 22) 0⟩, ⟨some (20, false), .ld false 1 (.t 23)⟩, ⟨some (20, false), .bin .eql (.t 24) (.d (.str []))⟩, ⟨none, .pick (.t 20) (.d (.bool true)) (.t 25)⟩]) <|
  .cond (.t 26) (.seq (.ins [⟨none, .ld true 7 (.t 2)⟩, ⟨none, .st 7 (.t 2) (.t 27)⟩]) <|
  .ret [.t 2, .d (.bool false)]) (.skip)) <|
  .seq (.ins [⟨none, .nck (.t 0)⟩, ⟨none, .fad (.t 27) 0⟩, ⟨none, .ld false 1 (.t 28)⟩, ⟨none, .ixs (.t 29) (.d (.int .i64 0))⟩, ⟨none, .call false 93 [.d (.str [38, 124, 33]), .t 30]⟩, ⟨none, .fad (.t 2) 0⟩, ⟨none, .st 1 (.t 32) (.t 31)⟩]) <|
  .seq (.seq (.ins [⟨none, .fad (.t 2) 0⟩, ⟨none, .ld false 1 (.t 34)⟩, ⟨none, .bin .lss (.t 35) (.d (.int .i64 0))⟩]) <|
  .cond (.t 36) (.seq (.ins [⟨none, .nck (.t 0)⟩, ⟨none, .fad (.t 37) 0⟩, ⟨none, .ld false 1 (.t 38)⟩, ⟨none, .call false 94 [.t 39, .d (.str [41])]⟩, ⟨none, .ext (.t 40) 0⟩, ⟨none, .ext (.t 40) 1⟩, ⟨none, .ext (.t 40) 2⟩]) <|
  .seq (.ins [⟨none, .nck (.t 0)⟩, ⟨none, .fad (.t 44) 0⟩, ⟨none, .st 1 (.t 45) (.t 42)⟩]) <|
  .seq (.ins [⟨none, .call false 95 [.t 41]⟩, ⟨none, .ext (.t 47) 0⟩, ⟨none, .ext (.t 47) 1⟩, ⟨none, .st 7 (.t 2) (.t 48)⟩]) <|
  .seq (.ins [⟨none, .ld true 7 (.t 2)⟩, ⟨some (49, true), .mv (.t 43)⟩, ⟨none, .pick (.t 49) (.t 52) (.d (.bool false))⟩, ⟨none, .st 7 (.t 2) (.t 51)⟩]) <|
  .ret [.t 2, .t 53]) (.skip)) <|
  .seq (.ins [⟨none, .nck (.t 0)⟩, ⟨none, .fad (.t 37) 0⟩, ⟨none, .ld false 1 (.t 38)⟩, ⟨none, .sls (.t 39) (some (.d (.int .i64 1))) none⟩, ⟨none, .nck (.t 0)⟩, ⟨none, .fad (.t 41) 0⟩, ⟨none, .st 1 (.t 42) (.t 40)⟩]) <|
  .seq (.block 0 (.seq (.foc [.t 0, .t 1, .t 2]) <|
  .loop bu51L0)) <|
  .seq (.ins [⟨none, .ld true 7 (.t 0)⟩, ⟨none, .st 7 (.t 0) (.t 1)⟩]) <|
  .ret [.t 0, .d (.bool true)]⟩
theorem oku51 : Code2 Tryz.prog prims1 51 2 bu51 := Code2.mk' rfl Tryz.func51 (by kernel_rfl) (by kernel_rfl)

/- 92: (*verger/filter.reader).skip, 2 -/
def bu92 : BFun := ⟨[.t 0],
  .seq (.ins []) <|
  .seq (.seq (.ins [⟨none, .nck (.t 0)⟩, ⟨none, .fad (.t 2) 0⟩, ⟨none, .ld false 1 (.t 3)⟩, ⟨none, .bin .eql (.t 4) (.d (.str []))⟩, ⟨some (5, false), .mv (.t 0)⟩, ⟨some (5, false), .nck (.t 6)⟩, ⟨some (5, false), .fad (.t 7) 0⟩, ⟨some (5, false), .ld false 1 (.t 8)⟩, ⟨some (5, false), .ixs (.t 9) (.d (.int .i64 0))⟩, ⟨some (5, false), .mv (.t 1)⟩, ⟨some (5, false), .bin .neq (.t 10) (.t 11)⟩, ⟨none, .pick (.t 5) (.d (.bool true)) (.t 12)⟩]) <|
  .cond (.t 13) (.seq (.ins []) <|
  .ret [.d (.bool false)]) (.skip)) <|
  .seq (.ins [⟨none, .nck (.t 0)⟩, ⟨none, .fad (.t 14) 0⟩, ⟨none, .ld false 1 (.t 15)⟩, ⟨none, .sls (.t 16) (some (.d (.int .i64 1))) none⟩, ⟨none, .nck (.t 0)⟩, ⟨none, .fad (.t 18) 0⟩, ⟨none, .st 1 (.t 19) (.t 17)⟩]) <|
  .seq (.ins []) <|
  .ret [.d (.bool true)]⟩
theorem oku92 : Code2 Tryz.prog prims1 92 2 bu92 := Code2.mk' rfl Tryz.func92 (by kernel_rfl) (by kernel_rfl)

/- 17: verger/filter.Formed, 1 -/
def bu17 : BFun := ⟨[.t 0],
  .seq (.ins [⟨none, .box 7 (.t 0)⟩]) <|
  .seq (.ins [⟨none, .ld true 7 (.t 1)⟩, ⟨none, .call false 21 [.t 2]⟩, ⟨none, .bin .leq (.t 3) (.d (.int .i64 40))⟩, ⟨some (4, true), .ld true 7 (.t 1)⟩, ⟨some (4, true), .call false 42 [.t 5, .d (.int .i64 1)]⟩, ⟨none, .pick (.t 4) (.t 6) (.d (.bool false))⟩]) <|
  .ret [.t 7]⟩
theorem oku17 : Code2 Tryz.prog prims1 17 1 bu17 := Code2.mk' rfl Tryz.func17 (by kernel_rfl) (by kernel_rfl)

/- 21: verger/filter.Nodes, 1 -/
def bu21B0 : BC :=
  .seq (.seq (.ins [⟨none, .bin .lss (.t 3) (.t 2)⟩]) <|
  .seq (.cond (.t 4) (.skip) (.exit 0 [.t 0])) <|
  .seq (.block 1 (.seq (.seq (.ins [⟨none, .iad 7 (.t 1) (.t 3)⟩, ⟨none, .ld true 7 (.t 5)⟩, ⟨none, .alloc [.int .i64 0, .str [], .str [], .str [], .str [], .nils 0, .nils 0]⟩, ⟨none, .st 7 (.t 7) (.t 6)⟩]) <|
  .seq (.ins [⟨none, .ld true 7 (.t 7)⟩, ⟨none, .call false 21 [.t 9]⟩, ⟨none, .bin .add (.t 0) (.t 10)⟩]) <|
  .seq (.ins [⟨none, .bin .gtr (.t 11) (.d (.int .i64 40))⟩]) <|
  .cond (.t 12) (.seq (.ins []) <|
  .ret [.d (.int .i64 41)]) (.skip)) <|
  .foc [.t 11, .t 1, .t 2, .t 3])) <|
  .ins [⟨none, .bin .add (.t 3) (.d (.int .i64 1))⟩]) <|
  .foc [.t 0, .t 1, .t 2, .t 4]
def bu21L0 : BC := bu21B0
theorem bu21L0_eq : bu21L0 = bu21B0 := rfl

def bu21 : BFun := ⟨[.t 0],
  .seq (.ins [⟨none, .box 7 (.t 0)⟩]) <|
  .seq (.ins []) <|
  .seq (.seq (.ins [⟨none, .fad (.t 1) 6⟩, ⟨none, .ld false 1 (.t 2)⟩, ⟨none, .len (.t 3)⟩]) <|
  .block 0 (.seq (.foc [.d (.int .i64 1), .t 3, .t 4, .d (.int .i64 0)]) <|
  .loop bu21L0)) <|
  .seq (.ins []) <|
  .ret [.t 0]⟩
theorem oku21 : Code2 Tryz.prog prims1 21 1 bu21 := Code2.mk' rfl Tryz.func21 (by kernel_rfl) (by kernel_rfl)

/- 42: verger/filter.formed, 2 -/
def bu42B0 : BC :=
  .seq (.seq (.ins [⟨none, .bin .lss (.t 3) (.t 2)⟩]) <|
  .seq (.cond (.t 4) (.skip) (.exit 0 [])) <|
  .seq (.block 1 (.seq (.seq (.ins [⟨none, .iad 7 (.t 1) (.t 3)⟩, ⟨none, .ld true 7 (.t 5)⟩, ⟨none, .alloc [.int .i64 0, .str [], .str [], .str [], .str [], .nils 0, .nils 0]⟩, ⟨none, .st 7 (.t 7) (.t 6)⟩]) <|
  .seq (.ins [⟨none, .ld true 7 (.t 7)⟩, ⟨none, .bin .add (.t 0) (.d (.int .i64 1))⟩, ⟨none, .call false 42 [.t 9, .t 10]⟩, ⟨none, .not (.t 11)⟩]) <|
  .cond (.t 12) (.seq (.ins []) <|
  .ret [.d (.bool false)]) (.skip)) <|
  .foc [.t 0, .t 1, .t 2, .t 3])) <|
  .ins [⟨none, .bin .add (.t 3) (.d (.int .i64 1))⟩]) <|
  .foc [.t 0, .t 1, .t 2, .t 4]
def bu42L0 : BC := bu42B0
theorem bu42L0_eq : bu42L0 = bu42B0 := rfl

def bu42 : BFun := ⟨[.t 0],
  .seq (.ins [⟨none, .box 7 (.t 0)⟩]) <|
  .seq (.seq (.ins [⟨none, .bin .gtr (.t 1) (.d (.int .i64 20))⟩, ⟨some (3, false), .ld true 7 (.t 2)⟩, ⟨some (3, false), .call false 84 [.t 4]⟩, ⟨some (3, false), .not (.t 5)⟩, ⟨none, .pick (.t 3) (.d (.bool true)) (.t 6)⟩]) <|
  .cond (.t 7) (.seq (.ins []) <|
  .ret [.d (.bool false)]) (.skip)) <|
  .seq (.seq (.ins [⟨none, .fad (.t 2) 6⟩, ⟨none, .ld false 1 (.t 8)⟩, ⟨none, .len (.t 9)⟩]) <|
  .block 0 (.seq (.foc [.t 1, .t 9, .t 10, .d (.int .i64 0)]) <|
  .loop bu42L0)) <|
  .seq (.ins []) <|
  .ret [.d (.bool true)]⟩
theorem oku42 : Code2 Tryz.prog prims1 42 2 bu42 := Code2.mk' rfl Tryz.func42 (by kernel_rfl) (by kernel_rfl)

/- 84: verger/filter.own, 1 -/
def bu84 : BFun := ⟨[.t 0],
  .seq (.ins [⟨none, .box 7 (.t 0)⟩]) <|
  .seq (.ins [⟨none, .fad (.t 1) 3⟩, ⟨none, .ld false 1 (.t 2)⟩, ⟨none, .bin .neq (.t 3) (.d (.str []))⟩, ⟨some (4, false), .fad (.t 1) 4⟩, ⟨some (4, false), .ld false 1 (.t 5)⟩, ⟨some (4, false), .bin .neq (.t 6) (.d (.str []))⟩, ⟨none, .pick (.t 4) (.d (.bool true)) (.t 7)⟩, ⟨some (8, false), .fad (.t 1) 5⟩, ⟨some (8, false), .ld false 1 (.t 9)⟩, ⟨some (8, false), .len (.t 10)⟩, ⟨some (8, false), .bin .gtr (.t 11) (.d (.int .i64 0))⟩, ⟨none, .pick (.t 8) (.d (.bool true)) (.t 12)⟩]) <|
  .seq (.ins [⟨none, .fad (.t 1) 6⟩, ⟨none, .ld false 1 (.t 14)⟩, ⟨none, .len (.t 15)⟩, ⟨none, .bin .eql (.t 16) (.d (.int .i64 0))⟩, ⟨some (17, true), .fad (.t 1) 1⟩, ⟨some (17, true), .ld false 1 (.t 18)⟩, ⟨some (17, true), .call false 131 [.t 19]⟩, ⟨none, .pick (.t 17) (.t 20) (.d (.bool false))⟩]) <|
  .seq (.seq (.ins [⟨none, .fad (.t 1) 0⟩, ⟨none, .ld false 1 (.t 22)⟩]) <|
  .block 0 (.seq (.seq (.seq (.ins [⟨none, .bin .eql (.t 23) (.d (.int .i64 0))⟩]) <|
  .cond (.t 24) (.seq (.skip) <|
  .foc [.t 1, .t 13, .t 21, .t 23, .t 24]) (.seq (.seq (.ins [⟨none, .bin .eql (.t 23) (.d (.int .i64 1))⟩]) <|
  .cond (.t 25) (.seq (.skip) <|
  .foc [.t 1, .t 13, .t 21, .t 23, .t 25]) (.seq (.ins [⟨none, .bin .eql (.t 23) (.d (.int .i64 2))⟩]) <|
  .foc [.t 1, .t 13, .t 21, .t 23, .t 26])) <|
  .foc [.t 0, .t 1, .t 2, .t 3, .t 4])) <|
  .cond (.t 4) (.seq (.ins [⟨none, .fad (.t 0) 1⟩, ⟨none, .ld false 1 (.t 5)⟩, ⟨none, .bin .eql (.t 6) (.d (.str []))⟩, ⟨some (7, true), .fad (.t 0) 2⟩, ⟨some (7, true), .ld false 1 (.t 8)⟩, ⟨some (7, true), .bin .eql (.t 9) (.d (.str []))⟩, ⟨none, .pick (.t 7) (.t 10) (.d (.bool false))⟩, ⟨some (11, true), .mv (.t 1)⟩, ⟨some (11, true), .not (.t 12)⟩, ⟨none, .pick (.t 11) (.t 13) (.d (.bool false))⟩, ⟨some (14, true), .fad (.t 0) 0⟩, ⟨some (14, true), .ld false 1 (.t 15)⟩, ⟨some (14, true), .bin .neq (.t 16) (.d (.int .i64 2))⟩, ⟨some (14, true), .mv (.t 17)⟩, ⟨some (18, false), .fad (.t 0) 6⟩, ⟨some (18, false), .ld false 1 (.t 19)⟩, ⟨some (18, false), .len (.t 20)⟩, ⟨some (18, false), .bin .eql (.t 21) (.d (.int .i64 1))⟩, ⟨some (14, true), .pick (.t 18) (.d (.bool true)) (.t 22)⟩, ⟨none, .pick (.t 14) (.t 23) (.d (.bool false))⟩]) <|
  .ret [.t 24]) (.seq (.seq (.ins [⟨none, .bin .eql (.t 3) (.d (.int .i64 3))⟩]) <|
  .cond (.t 5) (.seq (.skip) <|
  .foc [.t 0, .t 1, .t 2, .t 3, .t 5]) (.seq (.seq (.ins [⟨none, .bin .eql (.t 3) (.d (.int .i64 5))⟩]) <|
  .cond (.t 6) (.seq (.skip) <|
  .foc [.t 0, .t 1, .t 2, .t 3, .t 6]) (.seq (.seq (.ins [⟨none, .bin .eql (.t 3) (.d (.int .i64 6))⟩]) <|
  .cond (.t 7) (.seq (.skip) <|
  .foc [.t 0, .t 1, .t 2, .t 3, .t 7]) (.seq (.ins [⟨none, .bin .eql (.t 3) (.d (.int .i64 8))⟩]) <|
  .foc [.t 0, .t 1, .t 2, .t 3, .t 8])) <|
  .foc [.t 0, .t 1, .t 2, .t 3, .t 4])) <|
  .foc [.t 0, .t 1, .t 2, .t 3, .t 4])) <|
  .cond (.t 4) (.seq (.ins [⟨some (2, true), .fad (.t 0) 2⟩, ⟨some (2, true), .ld false 1 (.t 5)⟩, ⟨some (2, true), .call false 132 [.t 6]⟩, ⟨none, .pick (.t 2) (.t 7) (.d (.bool false))⟩, ⟨some (8, true), .mv (.t 1)⟩, ⟨some (8, true), .not (.t 9)⟩, ⟨none, .pick (.t 8) (.t 10) (.d (.bool false))⟩]) <|
  .ret [.t 11]) (.seq (.ins [⟨none, .bin .eql (.t 3) (.d (.int .i64 7))⟩]) <|
  .cond (.t 5) (.seq (.ins [⟨some (2, true), .fad (.t 0) 2⟩, ⟨some (2, true), .ld false 1 (.t 6)⟩, ⟨some (2, true), .bin .eql (.t 7) (.d (.str []))⟩, ⟨none, .pick (.t 2) (.t 8) (.d (.bool false))⟩, ⟨some (9, true), .mv (.t 1)⟩, ⟨some (9, true), .not (.t 10)⟩, ⟨none, .pick (.t 9) (.t 11) (.d (.bool false))⟩]) <|
  .ret [.t 12]) (.seq (.ins [⟨none, .bin .eql (.t 3) (.d (.int .i64 4))⟩]) <|
  .cond (.t 6) (.seq (.ins [⟨some (2, true), .fad (.t 0) 2⟩, ⟨some (2, true), .ld false 1 (.t 7)⟩, ⟨some (2, true), .bin .eql (.t 8) (.d (.str []))⟩, ⟨none, .pick (.t 2) (.t 9) (.d (.bool false))⟩, ⟨some (10, true), .mv (.t 1)⟩, ⟨none, .pick (.t 10) (.t 11) (.d (.bool false))⟩, ⟨some (12, true), .fad (.t 0) 3⟩, ⟨some (12, true), .ld false 1 (.t 13)⟩, ⟨some (12, true), .lenS (.t 14)⟩, ⟨some (12, true), .bin .leq (.t 15) (.d (.int .i64 200))⟩, ⟨none, .pick (.t 12) (.t 16) (.d (.bool false))⟩, ⟨some (17, true), .fad (.t 0) 4⟩, ⟨some (17, true), .ld false 1 (.t 18)⟩, ⟨some (17, true), .lenS (.t 19)⟩, ⟨some (17, true), .bin .leq (.t 20) (.d (.int .i64 200))⟩, ⟨none, .pick (.t 17) (.t 21) (.d (.bool false))⟩, ⟨some (22, true), .fad (.t 0) 5⟩, ⟨some (22, true), .ld false 1 (.t 23)⟩, ⟨some (22, true), .call false 133 [.t 24, .fn 134]⟩, ⟨some (22, true), .not (.t 25)⟩, ⟨none, .pick (.t 22) (.t 26) (.d (.bool false))⟩]) <|
  .ret [.t 27]) (.skip))))) <|
  .foc [])) <|
  .seq (.ins []) <|
  .ret [.d (.bool false)]⟩
theorem oku84 : Code2 Tryz.prog prims1 84 1 bu84 := Code2.mk' rfl Tryz.func84 (by kernel_rfl) (by kernel_rfl)

/- 131: verger/filter.Attribute, 1 -/
def bu131B0 : BC :=
  .seq (.seq (.ins [⟨none, .bin .lss (.t 3) (.t 2)⟩]) <|
  .seq (.cond (.t 4) (.skip) (.exit 0 [.t 0])) <|
  .seq (.block 1 (.seq (.seq (.ins [⟨none, .iad 1 (.t 1) (.t 3)⟩, ⟨none, .ld false 1 (.t 5)⟩]) <|
  .seq (.ins [⟨none, .bin .or (.t 6) (.d (.int .u8 32))⟩, ⟨none, .bin .geq (.t 7) (.d (.int .u8 97))⟩, ⟨some (8, true), .mv (.t 6)⟩, ⟨some (8, true), .bin .or (.t 9) (.d (.int .u8 32))⟩, ⟨some (8, true), .bin .leq (.t 10) (.d (.int .u8 122))⟩, ⟨none, .pick (.t 8) (.t 11) (.d (.bool false))⟩]) <|
  .seq (.ins [⟨none, .not (.t 12)⟩, ⟨some (13, true), .mv (.t 3)⟩, ⟨some (13, true), .bin .eql (.t 14) (.d (.int .i64 0))⟩, ⟨some (13, true), .mv (.t 15)⟩, ⟨some (16, false), .mv (.t 6)⟩, ⟨some (16, false), .bin .neq (.t 17) (.d (.int .u8 45))⟩, ⟨some (16, false), .mv (.t 18)⟩, ⟨some (19, true), .mv (.t 6)⟩, ⟨some (19, true), .bin .lss (.t 20) (.d (.int .u8 48))⟩, ⟨some (19, true), .mv (.t 21)⟩, ⟨some (22, false), .mv (.t 6)⟩, ⟨some (22, false), .bin .gtr (.t 23) (.d (.int .u8 57))⟩, ⟨some (19, true), .pick (.t 22) (.d (.bool true)) (.t 24)⟩, ⟨some (16, false), .pick (.t 19) (.t 25) (.d (.bool false))⟩, ⟨some (13, true), .pick (.t 16) (.d (.bool true)) (.t 26)⟩, ⟨none, .pick (.t 13) (.t 27) (.d (.bool false))⟩]) <|
  .cond (.t 28) (.seq (.ins []) <|
  .ret [.d (.bool false)]) (.skip)) <|
  .foc [.t 0, .t 1, .t 2, .t 3])) <|
  .ins [⟨none, .bin .add (.t 3) (.d (.int .i64 1))⟩]) <|
  .foc [.t 0, .t 1, .t 2, .t 4]
def bu131L0 : BC := bu131B0
theorem bu131L0_eq : bu131L0 = bu131B0 := rfl

def bu131 : BFun := ⟨[.t 0],
  .seq (.ins []) <|
  .seq (.seq (.ins [⟨none, .conv .sb (.t 0)⟩, ⟨none, .len (.t 1)⟩]) <|
  .block 0 (.seq (.foc [.t 0, .t 1, .t 2, .d (.int .i64 0)]) <|
  .loop bu131L0)) <|
  .seq (.ins [⟨none, .bin .neq (.t 0) (.d (.str []))⟩, ⟨some (1, true), .mv (.t 0)⟩, ⟨some (1, true), .lenS (.t 2)⟩, ⟨some (1, true), .bin .leq (.t 3) (.d (.int .i64 40))⟩, ⟨none, .pick (.t 1) (.t 4) (.d (.bool false))⟩]) <|
  .ret [.t 5]⟩
theorem oku131 : Code2 Tryz.prog prims1 131 1 bu131 := Code2.mk' rfl Tryz.func131 (by kernel_rfl) (by kernel_rfl)

/- 132: verger/filter.fits, 1 -/
def bu132 : BFun := ⟨[.t 0],
  .seq (.ins []) <|
  .seq (.ins [⟨none, .bin .neq (.t 0) (.d (.str []))⟩, ⟨some (1, true), .mv (.t 0)⟩, ⟨some (1, true), .lenS (.t 2)⟩, ⟨some (1, true), .bin .leq (.t 3) (.d (.int .i64 200))⟩, ⟨none, .pick (.t 1) (.t 4) (.d (.bool false))⟩]) <|
  .ret [.t 5]⟩
theorem oku132 : Code2 Tryz.prog prims1 132 1 bu132 := Code2.mk' rfl Tryz.func132 (by kernel_rfl) (by kernel_rfl)

/- 133: slices.ContainsFunc[[]string,string], 2 -/
def bu133 : BFun := ⟨[.t 0],
  .seq (.ins []) <|
  .seq (.ins [⟨none, .call false 177 [.t 0, .t 1]⟩, ⟨none, .bin .geq (.t 2) (.d (.int .i64 0))⟩]) <|
  .ret [.t 3]⟩
theorem oku133 : Code2 Tryz.prog prims1 133 2 bu133 := Code2.mk' rfl Tryz.func133 (by kernel_rfl) (by kernel_rfl)

/- 134: verger/filter.own$1, 1 -/
def bu134 : BFun := ⟨[.t 0],
  .seq (.ins []) <|
  .seq (.ins [⟨none, .call false 132 [.t 0]⟩, ⟨none, .not (.t 1)⟩]) <|
  .ret [.t 2]⟩
theorem oku134 : Code2 Tryz.prog prims1 134 1 bu134 := Code2.mk' rfl Tryz.func134 (by kernel_rfl) (by kernel_rfl)

/- 177: slices.IndexFunc[[]string,string], 2 -/
def bu177B0 : BC :=
  .seq (.seq (.ins [⟨none, .bin .lss (.t 3) (.t 2)⟩]) <|
  .seq (.cond (.t 4) (.skip) (.exit 0 [])) <|
  .seq (.block 1 (.seq (.seq (.ins []) <|
  .seq (.ins [⟨none, .iad 1 (.t 0) (.t 3)⟩, ⟨none, .ld false 1 (.t 5)⟩, ⟨none, .callv false (.t 1) [.t 6]⟩]) <|
  .cond (.t 7) (.seq (.ins []) <|
  .ret [.t 3]) (.skip)) <|
  .foc [.t 0, .t 1, .t 2, .t 3])) <|
  .ins [⟨none, .bin .add (.t 3) (.d (.int .i64 1))⟩]) <|
  .foc [.t 0, .t 1, .t 2, .t 4]
def bu177L0 : BC := bu177B0
theorem bu177L0_eq : bu177L0 = bu177B0 := rfl

def bu177 : BFun := ⟨[.t 0],
  .seq (.ins []) <|
  .seq (.seq (.ins [⟨none, .len (.t 0)⟩]) <|
  .block 0 (.seq (.foc [.t 0, .t 1, .t 2, .d (.int .i64 0)]) <|
  .loop bu177L0)) <|
  .seq (.ins []) <|
  .ret [.d (.int .i64 (-1))]⟩
theorem oku177 : Code2 Tryz.prog prims1 177 2 bu177 := Code2.mk' rfl Tryz.func177 (by kernel_rfl) (by kernel_rfl)

/- 14: verger/filter.Eval, 2 -/
def bu14 : BFun := ⟨[.t 0],
  .seq (.ins [⟨none, .box 7 (.t 0)⟩]) <|
  .seq (.seq (.ins [⟨none, .ld true 7 (.t 2)⟩, ⟨none, .call false 17 [.t 3]⟩, ⟨none, .not (.t 4)⟩]) <|
  .cond (.t 5) (.seq (.ins []) <|
  .ret [.d (.int .i64 (-1))]) (.skip)) <|
  .seq (.ins [⟨none, .ld true 7 (.t 2)⟩, ⟨none, .call false 40 [.t 6, .t 1]⟩]) <|
  .ret [.t 7]⟩
theorem oku14 : Code2 Tryz.prog prims1 14 2 bu14 := Code2.mk' rfl Tryz.func14 (by kernel_rfl) (by kernel_rfl)

/- 40: (verger/filter.Filter).eval, 2 -/
def bu40B0 : BC :=
  .seq (.seq (.ins [⟨none, .bin .lss (.t 5) (.t 4)⟩]) <|
  .seq (.cond (.t 6) (.skip) (.exit 1 [.t 2])) <|
  .seq (.block 2 (.seq (.seq (.ins [⟨none, .iad 7 (.t 3) (.t 5)⟩, ⟨none, .ld true 7 (.t 7)⟩, ⟨none, .alloc [.int .i64 0, .str [], .str [], .str [], .str [], .nils 0, .nils 0]⟩, ⟨none, .st 7 (.t 9) (.t 8)⟩]) <|
  .seq (.ins [⟨none, .ld true 7 (.t 9)⟩, ⟨none, .call false 40 [.t 11, .t 0]⟩]) <|
  .seq (.ins []) <|
  .block 3 (.seq (.seq (.ins [⟨none, .fad (.t 1) 0⟩, ⟨none, .ld false 1 (.t 13)⟩, ⟨none, .bin .eql (.t 12) (.t 14)⟩]) <|
  .cond (.t 15) (.seq (.ins []) <|
  .ret [.t 12]) (.seq (.ins [⟨none, .bin .eql (.t 12) (.d (.int .i64 (-1)))⟩]) <|
  .cond (.t 16) (.seq (.ins []) <|
  .foc [.t 0, .t 1, .d (.int .i64 (-1)), .t 3, .t 4, .t 5]) (.seq (.skip) <|
  .foc [.t 0, .t 1, .t 2, .t 3, .t 4, .t 5]))) <|
  .foc [.t 0, .t 1, .t 2, .t 3, .t 4, .t 5])) <|
  .foc [.t 0, .t 1, .t 2, .t 3, .t 4, .t 5])) <|
  .ins [⟨none, .bin .add (.t 5) (.d (.int .i64 1))⟩]) <|
  .foc [.t 0, .t 1, .t 2, .t 3, .t 4, .t 6]
def bu40L0 : BC := bu40B0
theorem bu40L0_eq : bu40L0 = bu40B0 := rfl

def bu40 : BFun := ⟨[.t 0],
  .seq (.ins [⟨none, .box 7 (.t 0)⟩]) <|
  .seq (.seq (.ins [⟨none, .fad (.t 2) 0⟩, ⟨none, .ld false 1 (.t 3)⟩]) <|
  .block 0 (.seq (.seq (.seq (.ins [⟨none, .bin .eql (.t 4) (.d (.int .i64 0))⟩]) <|
  .cond (.t 5) (.seq (.skip) <|
  .foc [.t 1, .t 2, .t 4, .t 5]) (.seq (.ins [⟨none, .bin .eql (.t 4) (.d (.int .i64 1))⟩]) <|
  .foc [.t 1, .t 2, .t 4, .t 6])) <|
  .cond (.t 3) (.seq (.ins [⟨none, .fad (.t 1) 0⟩, ⟨none, .ld false 1 (.t 4)⟩, ⟨none, .bin .sub (.d (.int .i64 1)) (.t 5)⟩]) <|
  .seq (.seq (.ins [⟨none, .fad (.t 1) 6⟩, ⟨none, .ld false 1 (.t 7)⟩, ⟨none, .len (.t 8)⟩]) <|
  .block 1 (.seq (.foc [.t 0, .t 1, .t 6, .t 8, .t 9, .d (.int .i64 0)]) <|
  .loop bu40L0)) <|
  .seq (.ins []) <|
  .ret [.t 0]) (.seq (.ins [⟨none, .bin .eql (.t 2) (.d (.int .i64 2))⟩]) <|
  .cond (.t 4) (.seq (.seq (.ins [⟨none, .fad (.t 1) 6⟩, ⟨none, .ld false 1 (.t 5)⟩, ⟨none, .iad 7 (.t 6) (.d (.int .i64 0))⟩, ⟨none, .ld true 7 (.t 7)⟩, ⟨none, .call false 40 [.t 8, .t 0]⟩]) <|
  .seq (.ins [⟨none, .bin .neq (.t 9) (.d (.int .i64 (-1)))⟩]) <|
  .cond (.t 10) (.seq (.ins [⟨none, .bin .eql (.t 9) (.d (.int .i64 0))⟩, ⟨none, .call false 81 [.t 11]⟩]) <|
  .ret [.t 12]) (.skip)) <|
  .seq (.ins []) <|
  .ret [.d (.int .i64 (-1))]) (.skip))) <|
  .foc [.t 0, .t 1])) <|
  .seq (.ins [⟨none, .ld true 7 (.t 1)⟩, ⟨none, .call false 82 [.t 2, .t 0]⟩]) <|
  .ret [.t 3]⟩
theorem oku40 : Code2 Tryz.prog prims1 40 2 bu40 := Code2.mk' rfl Tryz.func40 (by kernel_rfl) (by kernel_rfl)

/- 81: verger/filter.truth, 1 -/
def bu81 : BFun := ⟨[.t 0],
  .seq (.ins []) <|
  .seq (.seq (.ins []) <|
  .cond (.t 0) (.seq (.ins []) <|
  .ret [.d (.int .i64 1)]) (.skip)) <|
  .seq (.ins []) <|
  .ret [.d (.int .i64 0)]⟩
theorem oku81 : Code2 Tryz.prog prims1 81 1 bu81 := Code2.mk' rfl Tryz.func81 (by kernel_rfl) (by kernel_rfl)

/- 82: (verger/filter.Filter).leaf, 2 -/
def bu82B0 : BC :=
  .seq (.seq (.ins [⟨none, .bin .lss (.t 8) (.t 7)⟩]) <|
  .seq (.cond (.t 9) (.skip) (.exit 3 [.t 0, .t 1, .t 2, .t 3, .t 4, .t 5])) <|
  .seq (.block 4 (.seq (.seq (.ins [⟨none, .iad 1 (.t 6) (.t 8)⟩, ⟨none, .ld false 1 (.t 10)⟩]) <|
  .seq (.ins [⟨none, .fad (.t 0) 0⟩, ⟨none, .ld false 1 (.t 12)⟩, ⟨none, .bin .eql (.t 13) (.d (.int .i64 7))⟩, ⟨some (14, false), .ld true 7 (.t 0)⟩, ⟨some (14, false), .mv (.t 11)⟩, ⟨some (14, false), .mv (.t 2)⟩, ⟨some (14, false), .call false 125 [.t 15, .t 16, .t 17]⟩, ⟨none, .pick (.t 14) (.d (.bool true)) (.t 18)⟩]) <|
  .cond (.t 19) (.seq (.ins []) <|
  .ret [.d (.int .i64 1)]) (.skip)) <|
  .foc [.t 0, .t 1, .t 2, .t 3, .t 4, .t 5, .t 6, .t 7, .t 8])) <|
  .ins [⟨none, .bin .add (.t 8) (.d (.int .i64 1))⟩]) <|
  .foc [.t 0, .t 1, .t 2, .t 3, .t 4, .t 5, .t 6, .t 7, .t 9]
def bu82L0 : BC := bu82B0
theorem bu82L0_eq : bu82L0 = bu82B0 := rfl

def bu82B1 : BC :=
  .seq (.seq (.ins [⟨none, .bin .lss (.t 5) (.t 4)⟩]) <|
  .seq (.cond (.t 6) (.skip) (.exit 1 [])) <|
  .seq (.block 2 (.seq (.seq (.ins [⟨none, .iad 2 (.t 3) (.t 5)⟩, ⟨none, .ld true 2 (.t 7)⟩, ⟨none, .alloc [.str [], .nils 0]⟩, ⟨none, .st 2 (.t 9) (.t 8)⟩]) <|
  .seq (.seq (.ins [⟨none, .fad (.t 9) 0⟩, ⟨none, .ld false 1 (.t 11)⟩, ⟨none, .call false 80 [.t 12]⟩, ⟨none, .ext (.t 13) 0⟩, ⟨none, .ext (.t 13) 1⟩]) <|
  .seq (.ins [⟨none, .bin .neq (.t 14) (.t 1)⟩]) <|
  .cond (.t 16) (.exit 2 [.t 0, .t 1, .t 2, .t 3, .t 4, .t 5]) (.skip)) <|
  .seq (.ins [⟨none, .fad (.t 9) 1⟩, ⟨none, .ld false 1 (.t 17)⟩, ⟨none, .len (.t 18)⟩]) <|
  .block 3 (.seq (.foc [.t 0, .t 1, .t 2, .t 3, .t 4, .t 5, .t 18, .t 19, .d (.int .i64 0)]) <|
  .loop bu82L0)) <|
  .foc [.t 0, .t 1, .t 2, .t 3, .t 4, .t 5])) <|
  .ins [⟨none, .bin .add (.t 5) (.d (.int .i64 1))⟩]) <|
  .foc [.t 0, .t 1, .t 2, .t 3, .t 4, .t 6]
def bu82L1 : BC := bu82B1
theorem bu82L1_eq : bu82L1 = bu82B1 := rfl

def bu82 : BFun := ⟨[.t 0],
  .seq (.ins [⟨none, .box 7 (.t 0)⟩]) <|
  .seq (.ins [⟨none, .fad (.t 2) 1⟩, ⟨none, .ld false 1 (.t 3)⟩, ⟨none, .call false 80 [.t 4]⟩, ⟨none, .ext (.t 5) 0⟩, ⟨none, .ext (.t 5) 1⟩]) <|
  .seq (.ins [⟨none, .fad (.t 2) 1⟩, ⟨none, .ld false 1 (.t 8)⟩, ⟨none, .fad (.t 2) 2⟩, ⟨none, .ld false 1 (.t 10)⟩, ⟨none, .call false 124 [.t 9, .t 11]⟩, ⟨none, .ext (.t 12) 0⟩, ⟨none, .ext (.t 12) 1⟩]) <|
  .seq (.block 0 (.seq (.seq (.seq (.ins [⟨none, .bin .eql (.t 7) (.d (.int .i64 0))⟩]) <|
  .cond (.t 15) (.seq (.skip) <|
  .foc [.t 1, .t 2, .t 6, .t 7, .t 15]) (.seq (.seq (.ins [⟨none, .fad (.t 2) 0⟩, ⟨none, .ld false 1 (.t 16)⟩, ⟨none, .bin .eql (.t 17) (.d (.int .i64 4))⟩, ⟨some (18, true), .mv (.t 7)⟩, ⟨some (18, true), .bin .gtr (.t 19) (.d (.int .i64 2))⟩, ⟨none, .pick (.t 18) (.t 20) (.d (.bool false))⟩]) <|
  .cond (.t 21) (.seq (.skip) <|
  .foc [.t 1, .t 2, .t 6, .t 7, .t 21]) (.seq (.seq (.ins [⟨none, .fad (.t 2) 0⟩, ⟨none, .ld false 1 (.t 22)⟩, ⟨none, .bin .eql (.t 23) (.d (.int .i64 5))⟩, ⟨some (24, false), .fad (.t 2) 0⟩, ⟨some (24, false), .ld false 1 (.t 25)⟩, ⟨some (24, false), .bin .eql (.t 26) (.d (.int .i64 6))⟩, ⟨none, .pick (.t 24) (.d (.bool true)) (.t 27)⟩, ⟨some (28, true), .mv (.t 7)⟩, ⟨some (28, true), .bin .eql (.t 29) (.d (.int .i64 2))⟩, ⟨some (28, true), .mv (.t 30)⟩, ⟨some (31, false), .mv (.t 7)⟩, ⟨some (31, false), .bin .eql (.t 32) (.d (.int .i64 5))⟩, ⟨some (28, true), .pick (.t 31) (.d (.bool true)) (.t 33)⟩, ⟨none, .pick (.t 28) (.t 34) (.d (.bool false))⟩]) <|
  .cond (.t 35) (.seq (.skip) <|
  .foc [.t 1, .t 2, .t 6, .t 7, .t 35]) (.seq (.ins [⟨none, .fad (.t 2) 0⟩, ⟨none, .ld false 1 (.t 36)⟩, ⟨none, .bin .neq (.t 37) (.d (.int .i64 4))⟩, ⟨some (38, true), .fad (.t 2) 0⟩, ⟨some (38, true), .ld false 1 (.t 39)⟩, ⟨some (38, true), .bin .neq (.t 40) (.d (.int .i64 7))⟩, ⟨none, .pick (.t 38) (.t 41) (.d (.bool false))⟩, ⟨some (42, true), .mv (.t 14)⟩, ⟨some (42, true), .bin .neq (.t 43) (.d (.int .i64 0))⟩, ⟨none, .pick (.t 42) (.t 44) (.d (.bool false))⟩]) <|
  .foc [.t 1, .t 2, .t 6, .t 7, .t 45])) <|
  .foc [.t 0, .t 1, .t 2, .t 3, .t 4])) <|
  .foc [.t 0, .t 1, .t 2, .t 3, .t 4])) <|
  .cond (.t 4) (.seq (.ins []) <|
  .ret [.d (.int .i64 (-1))]) (.skip)) <|
  .foc [.t 0, .t 1, .t 2, .t 3])) <|
  .seq (.seq (.ins [⟨none, .len (.t 0)⟩]) <|
  .block 1 (.seq (.foc [.t 1, .t 2, .t 3, .t 0, .t 4, .d (.int .i64 0)]) <|
  .loop bu82L1)) <|
  .seq (.ins []) <|
  .ret [.d (.int .i64 0)]⟩
theorem oku82 : Code2 Tryz.prog prims1 82 2 bu82 := Code2.mk' rfl Tryz.func82 (by kernel_rfl) (by kernel_rfl)

/- 80: verger/rule.Type, 1 -/
def bu80B0 : BC :=
  .seq (.seq (.ins [⟨none, .bin .lss (.t 7) (.t 6)⟩]) <|
  .seq (.cond (.t 8) (.skip) (.exit 2 [.t 0, .t 2, .t 3, .t 4])) <|
  .seq (.block 3 (.seq (.seq (.ins [⟨none, .iad 1 (.t 5) (.t 7)⟩, ⟨none, .ld false 1 (.t 9)⟩]) <|
  .seq (.ins [⟨none, .call false 123 [.t 10]⟩, ⟨none, .call false 123 [.t 0]⟩, ⟨none, .bin .eql (.t 11) (.t 12)⟩]) <|
  .cond (.t 13) (.seq (.ins []) <|
  .ret [.t 10, .t 1]) (.skip)) <|
  .foc [.t 0, .t 1, .t 2, .t 3, .t 4, .t 5, .t 6, .t 7])) <|
  .ins [⟨none, .bin .add (.t 7) (.d (.int .i64 1))⟩]) <|
  .foc [.t 0, .t 1, .t 2, .t 3, .t 4, .t 5, .t 6, .t 8]
def bu80L0 : BC := bu80B0
theorem bu80L0_eq : bu80L0 = bu80B0 := rfl

def bu80B1 : BC :=
  .seq (.seq (.ins [⟨none, .bin .lss (.t 3) (.t 2)⟩]) <|
  .seq (.cond (.t 4) (.skip) (.exit 0 [])) <|
  .seq (.block 1 (.seq (.seq (.ins [⟨none, .iad 1 (.t 1) (.t 3)⟩, ⟨none, .ld false 1 (.t 5)⟩]) <|
  .seq (.ins [⟨none, .len (.t 6)⟩]) <|
  .block 2 (.seq (.foc [.t 0, .t 3, .t 1, .t 2, .t 3, .t 6, .t 7, .d (.int .i64 0)]) <|
  .loop bu80L0)) <|
  .foc [.t 0, .t 1, .t 2, .t 3])) <|
  .ins [⟨none, .bin .add (.t 3) (.d (.int .i64 1))⟩]) <|
  .foc [.t 0, .t 1, .t 2, .t 4]
def bu80L1 : BC := bu80B1
theorem bu80L1_eq : bu80L1 = bu80B1 := rfl

def bu80 : BFun := ⟨[.t 0, .t 1],
  .seq (.ins []) <|
  .seq (.seq (.ins [⟨none, .mks none 1 8 [.str []] [(0, (.d (.str [111, 98, 106, 101, 99, 116, 67, 108, 97, 115, 115]))), (1, (.d (.str [99, 110]))), (2, (.d (.str [111, 117]))), (3, (.d (.str [111]))), (4, (.d (.str [100, 99]))), (5, (.d (.str [117, 105, 100]))), (6, (.d (.str [100, 101, 115, 99, 114, 105, 112, 116, 105, 111, 110]))), (7, (.d (.str [109, 97, 105, 108])))]⟩, ⟨none, .mks none 1 2 [.str []] [(0, (.d (.str [117, 115, 101, 114, 80, 97, 115, 115, 119, 111, 114, 100]))), (1, (.d (.str [114, 101, 102])))]⟩, ⟨none, .mks none 1 1 [.str []] [(0, (.d (.str [115, 101, 114, 105, 97, 108, 78, 117, 109, 98, 101, 114])))]⟩, ⟨none, .mks none 1 1 [.str []] [(0, (.d (.str [112, 111, 115, 105, 116, 105, 111, 110])))]⟩, ⟨none, .mks none 1 2 [.str []] [(0, (.d (.str [97, 108, 105, 97, 115, 101, 100, 79, 98, 106, 101, 99, 116, 78, 97, 109, 101]))), (1, (.d (.str [109, 101, 109, 98, 101, 114])))]⟩, ⟨none, .mks none 1 6 [.nils 0] [(1, (.t 1)), (2, (.t 2)), (3, (.t 3)), (4, (.t 4)), (5, (.t 5))]⟩, ⟨none, .len (.t 6)⟩]) <|
  .block 0 (.seq (.foc [.t 0, .t 6, .t 7, .d (.int .i64 0)]) <|
  .loop bu80L1)) <|
  .seq (.ins []) <|
  .ret [.d (.str []), .d (.int .i64 0)]⟩
theorem oku80 : Code2 Tryz.prog prims1 80 1 bu80 := Code2.mk' rfl Tryz.func80 (by kernel_rfl) (by kernel_rfl)

/- 124: verger/dn.Value, 2 -/
def bu124 : BFun := ⟨[.t 0, .t 1],
  .seq (.ins []) <|
  .seq (.seq (.ins [⟨none, .call false 80 [.t 0]⟩, ⟨none, .ext (.t 2) 0⟩, ⟨none, .ext (.t 2) 1⟩]) <|
  .seq (.ins [⟨none, .bin .neq (.t 4) (.d (.int .i64 5))⟩]) <|
  .cond (.t 5) (.seq (.ins [⟨none, .call false 166 [.t 0, .t 1]⟩, ⟨none, .ext (.t 6) 0⟩, ⟨none, .ext (.t 6) 1⟩]) <|
  .ret [.t 7, .t 8]) (.skip)) <|
  .seq (.ins [⟨none, .call false 67 [.t 1]⟩, ⟨none, .ext (.t 6) 0⟩, ⟨none, .ext (.t 6) 1⟩]) <|
  .seq (.seq (.ins [⟨none, .bin .neq (.t 8) (.d (.int .i64 0))⟩, ⟨some (9, false), .mv (.t 7)⟩, ⟨some (9, false), .bin .eql (.t 10) (.d (.str []))⟩, ⟨none, .pick (.t 9) (.d (.bool true)) (.t 11)⟩, ⟨some (12, false), .mv (.t 1)⟩, ⟨some (12, false), .lenS (.t 13)⟩, ⟨some (12, false), .bin .gtr (.t 14) (.d (.int .i64 200))⟩, ⟨none, .pick (.t 12) (.d (.bool true)) (.t 15)⟩]) <|
  .cond (.t 16) (.seq (.ins []) <|
  .ret [.d (.str []), .d (.int .i64 2)]) (.skip)) <|
  .seq (.ins []) <|
  .ret [.t 7, .d (.int .i64 0)]⟩
theorem oku124 : Code2 Tryz.prog prims1 124 2 bu124 := Code2.mk' rfl Tryz.func124 (by kernel_rfl) (by kernel_rfl)

/- 166: verger/rule.Normal, 2 -/
def bu166 : BFun := ⟨[.t 0, .t 1],
  .seq (.ins []) <|
  .seq (.ins [⟨none, .call false 80 [.t 0]⟩, ⟨none, .ext (.t 2) 0⟩, ⟨none, .ext (.t 2) 1⟩]) <|
  .seq (.block 0 (.seq (.seq (.ins [⟨none, .bin .eql (.t 4) (.d (.int .i64 0))⟩]) <|
  .cond (.t 5) (.seq (.ins []) <|
  .ret [.d (.str []), .d (.int .i64 5)]) (.seq (.ins [⟨none, .bin .eql (.t 4) (.d (.int .i64 5))⟩]) <|
  .cond (.t 6) (.seq (.ins []) <|
  .ret [.d (.str []), .d (.int .i64 1)]) (.seq (.ins [⟨none, .bin .eql (.t 1) (.d (.str []))⟩, ⟨some (7, false), .mv (.t 1)⟩, ⟨some (7, false), .lenS (.t 8)⟩, ⟨some (7, false), .bin .gtr (.t 9) (.d (.int .i64 200))⟩, ⟨none, .pick (.t 7) (.d (.bool true)) (.t 10)⟩]) <|
  .cond (.t 11) (.seq (.ins []) <|
  .ret [.d (.str []), .d (.int .i64 2)]) (.skip)))) <|
  .foc [.t 1, .t 4])) <|
  .seq (.ins [⟨none, .call false 200 [.t 1, .t 0]⟩, ⟨none, .ext (.t 2) 0⟩, ⟨none, .ext (.t 2) 1⟩]) <|
  .seq (.seq (.ins [⟨none, .not (.t 4)⟩]) <|
  .cond (.t 5) (.seq (.ins []) <|
  .ret [.d (.str []), .d (.int .i64 2)]) (.skip)) <|
  .seq (.ins []) <|
  .ret [.t 3, .d (.int .i64 0)]⟩
theorem oku166 : Code2 Tryz.prog prims1 166 2 bu166 := Code2.mk' rfl Tryz.func166 (by kernel_rfl) (by kernel_rfl)

/- 200: verger/rule.normal, 2 -/
def bu200 : BFun := ⟨[.t 0, .t 1],
  .seq (.ins []) <|
  .seq (.seq (.ins []) <|
  .block 0 (.seq (.seq (.ins [⟨none, .bin .eql (.t 0) (.d (.int .i64 1))⟩]) <|
  .cond (.t 2) (.seq (.ins [⟨none, .call false 123 [.t 1]⟩, ⟨none, .call false 233 [.t 3]⟩, ⟨none, .call false 109 [.t 4, .d (.str [32])]⟩]) <|
  .seq (.ins [⟨none, .bin .neq (.t 5) (.d (.str []))⟩, ⟨some (6, true), .mv (.t 5)⟩, ⟨some (6, true), .call false 93 [.t 7, .d (.int .u8 0)]⟩, ⟨some (6, true), .bin .lss (.t 8) (.d (.int .i64 0))⟩, ⟨none, .pick (.t 6) (.t 9) (.d (.bool false))⟩]) <|
  .ret [.t 5, .t 10]) (.seq (.ins [⟨none, .bin .eql (.t 0) (.d (.int .i64 3))⟩]) <|
  .cond (.t 3) (.seq (.ins [⟨none, .call false 206 [.t 1, .d (.int .i64 10), .d (.int .i64 64)]⟩, ⟨none, .ext (.t 4) 0⟩, ⟨none, .ext (.t 4) 1⟩]) <|
  .seq (.ins [⟨none, .u2 .eqn (.t 6) (.d (.nili))⟩, ⟨some (7, true), .mv (.t 5)⟩, ⟨some (7, true), .call false 234 [.t 8, .d (.int .i64 10)]⟩, ⟨some (7, true), .mv (.t 1)⟩, ⟨some (7, true), .bin .eql (.t 9) (.t 10)⟩, ⟨none, .pick (.t 7) (.t 11) (.d (.bool false))⟩, ⟨some (12, true), .mv (.t 1)⟩, ⟨some (12, true), .call false 235 [.t 13, .d (.str [45])]⟩, ⟨some (12, true), .lenS (.t 14)⟩, ⟨some (12, true), .bin .leq (.t 15) (.d (.int .i64 18))⟩, ⟨none, .pick (.t 12) (.t 16) (.d (.bool false))⟩]) <|
  .ret [.t 1, .t 17]) (.seq (.ins [⟨none, .bin .eql (.t 0) (.d (.int .i64 4))⟩]) <|
  .cond (.t 4) (.seq (.ins [⟨none, .call false 204 [.t 1]⟩, ⟨none, .ext (.t 5) 0⟩, ⟨none, .ext (.t 5) 1⟩]) <|
  .seq (.ins [⟨none, .bin .eql (.t 7) (.d (.int .i64 0))⟩]) <|
  .ret [.t 1, .t 8]) (.skip)))) <|
  .foc [.t 1])) <|
  .seq (.ins []) <|
  .ret [.t 0, .d (.bool true)]⟩
theorem oku200 : Code2 Tryz.prog prims1 200 2 bu200 := Code2.mk' rfl Tryz.func200 (by kernel_rfl) (by kernel_rfl)

/- 233: verger/rule.words, 1 -/
def bu233B0 : BC :=
  .seq (.seq (.ins [⟨none, .bin .lss (.t 3) (.t 2)⟩]) <|
  .seq (.cond (.t 4) (.skip) (.exit 0 [.t 0])) <|
  .seq (.block 1 (.seq (.seq (.ins [⟨none, .iad 1 (.t 1) (.t 3)⟩, ⟨none, .ld false 1 (.t 5)⟩]) <|
  .seq (.ins [⟨none, .bin .neq (.t 6) (.d (.str []))⟩]) <|
  .cond (.t 7) (.seq (.ins [⟨none, .mks none 1 1 [.str []] [(0, (.t 6))]⟩, ⟨none, .app 9 1 (.t 0) (.t 8)⟩]) <|
  .foc [.t 9, .t 1, .t 2, .t 3]) (.seq (.skip) <|
  .foc [.t 0, .t 1, .t 2, .t 3])) <|
  .foc [.t 0, .t 1, .t 2, .t 3])) <|
  .ins [⟨none, .bin .add (.t 3) (.d (.int .i64 1))⟩]) <|
  .foc [.t 0, .t 1, .t 2, .t 4]
def bu233L0 : BC := bu233B0
theorem bu233L0_eq : bu233L0 = bu233B0 := rfl

def bu233 : BFun := ⟨[.t 0],
  .seq (.ins []) <|
  .seq (.ins []) <|
  .seq (.seq (.ins [⟨none, .call false 143 [.t 0, .d (.str [32])]⟩, ⟨none, .len (.t 1)⟩]) <|
  .block 0 (.seq (.foc [.d (.nils 0), .t 1, .t 2, .d (.int .i64 0)]) <|
  .loop bu233L0)) <|
  .seq (.ins []) <|
  .ret [.t 0]⟩
theorem oku233 : Code2 Tryz.prog prims1 233 1 bu233 := Code2.mk' rfl Tryz.func233 (by kernel_rfl) (by kernel_rfl)

/- 125: (verger/filter.Filter).value, 3 -/
def bu125 : BFun := ⟨[.t 0],
  .seq (.ins [⟨none, .box 7 (.t 0)⟩]) <|
  .seq (.ins [⟨none, .fad (.t 3) 1⟩, ⟨none, .ld false 1 (.t 4)⟩, ⟨none, .call false 124 [.t 5, .t 1]⟩, ⟨none, .ext (.t 6) 0⟩, ⟨none, .ext (.t 6) 1⟩]) <|
  .seq (.seq (.ins [⟨none, .bin .neq (.t 8) (.d (.int .i64 0))⟩]) <|
  .cond (.t 9) (.seq (.ins []) <|
  .ret [.d (.bool false)]) (.skip)) <|
  .seq (.block 0 (.seq (.seq (.ins [⟨none, .fad (.t 3) 0⟩, ⟨none, .ld false 1 (.t 10)⟩, ⟨none, .bin .eql (.t 11) (.d (.int .i64 4))⟩, ⟨some (12, true), .mv (.t 2)⟩, ⟨some (12, true), .bin .eql (.t 13) (.d (.int .i64 1))⟩, ⟨none, .pick (.t 12) (.t 14) (.d (.bool false))⟩]) <|
  .cond (.t 15) (.seq (.ins [⟨none, .ld true 7 (.t 3)⟩, ⟨none, .call false 167 [.t 16, .t 7, .fn 123]⟩]) <|
  .ret [.t 17]) (.seq (.ins [⟨none, .fad (.t 3) 0⟩, ⟨none, .ld false 1 (.t 16)⟩, ⟨none, .bin .eql (.t 17) (.d (.int .i64 4))⟩]) <|
  .cond (.t 18) (.seq (.ins [⟨none, .ld true 7 (.t 3)⟩, ⟨none, .call false 167 [.t 19, .t 7, .fn 168]⟩]) <|
  .ret [.t 20]) (.seq (.ins [⟨none, .fad (.t 3) 0⟩, ⟨none, .ld false 1 (.t 19)⟩, ⟨none, .bin .eql (.t 20) (.d (.int .i64 3))⟩, ⟨some (21, false), .mv (.t 2)⟩, ⟨some (21, false), .bin .eql (.t 22) (.d (.int .i64 5))⟩, ⟨none, .pick (.t 21) (.d (.bool true)) (.t 23)⟩]) <|
  .cond (.t 24) (.seq (.ins [⟨none, .fad (.t 3) 1⟩, ⟨none, .ld false 1 (.t 25)⟩, ⟨none, .fad (.t 3) 2⟩, ⟨none, .ld false 1 (.t 27)⟩, ⟨none, .call false 124 [.t 26, .t 28]⟩, ⟨none, .ext (.t 29) 0⟩, ⟨none, .ext (.t 29) 1⟩]) <|
  .seq (.ins [⟨none, .bin .eql (.t 7) (.t 30)⟩]) <|
  .ret [.t 32]) (.seq (.ins [⟨none, .fad (.t 3) 0⟩, ⟨none, .ld false 1 (.t 25)⟩, ⟨none, .bin .eql (.t 26) (.d (.int .i64 8))⟩]) <|
  .cond (.t 27) (.seq (.ins [⟨none, .fad (.t 3) 1⟩, ⟨none, .ld false 1 (.t 28)⟩, ⟨none, .fad (.t 3) 2⟩, ⟨none, .ld false 1 (.t 30)⟩, ⟨none, .call false 169 [.t 29, .t 1, .t 31]⟩, ⟨none, .ext (.t 32) 0⟩, ⟨none, .ext (.t 32) 1⟩]) <|
  .seq (.ins []) <|
  .ret [.t 33]) (.skip))))) <|
  .foc [.t 1, .t 3])) <|
  .seq (.ins [⟨none, .fad (.t 1) 1⟩, ⟨none, .ld false 1 (.t 2)⟩, ⟨none, .fad (.t 1) 2⟩, ⟨none, .ld false 1 (.t 4)⟩, ⟨none, .call false 170 [.t 3, .t 0, .t 5]⟩, ⟨none, .ext (.t 6) 0⟩, ⟨none, .ext (.t 6) 1⟩]) <|
  .seq (.ins [⟨none, .fad (.t 1) 0⟩, ⟨none, .ld false 1 (.t 9)⟩, ⟨none, .bin .eql (.t 10) (.d (.int .i64 5))⟩, ⟨some (11, true), .mv (.t 7)⟩, ⟨some (11, true), .bin .geq (.t 12) (.d (.int .i64 0))⟩, ⟨none, .pick (.t 11) (.t 13) (.d (.bool false))⟩, ⟨some (14, false), .fad (.t 1) 0⟩, ⟨some (14, false), .ld false 1 (.t 15)⟩, ⟨some (14, false), .bin .eql (.t 16) (.d (.int .i64 6))⟩, ⟨some (14, false), .mv (.t 17)⟩, ⟨some (18, true), .mv (.t 7)⟩, ⟨some (18, true), .bin .leq (.t 19) (.d (.int .i64 0))⟩, ⟨some (14, false), .pick (.t 18) (.t 20) (.d (.bool false))⟩, ⟨none, .pick (.t 14) (.d (.bool true)) (.t 21)⟩]) <|
  .ret [.t 22]⟩
theorem oku125 : Code2 Tryz.prog prims1 125 3 bu125 := Code2.mk' rfl Tryz.func125 (by kernel_rfl) (by kernel_rfl)

/- 167: (verger/filter.Filter).pieces, 3 -/
def bu167B0 : BC :=
  .seq (.seq (.ins [⟨none, .bin .lss (.t 4) (.t 3)⟩]) <|
  .seq (.cond (.t 5) (.skip) (.exit 0 [])) <|
  .seq (.block 1 (.seq (.seq (.ins [⟨none, .iad 1 (.t 2) (.t 4)⟩, ⟨none, .ld false 1 (.t 6)⟩]) <|
  .seq (.ins [⟨none, .callv false (.t 1) [.t 7]⟩, ⟨none, .call false 94 [.t 0, .t 8]⟩, ⟨none, .ext (.t 9) 0⟩, ⟨none, .ext (.t 9) 1⟩, ⟨none, .ext (.t 9) 2⟩]) <|
  .seq (.ins [⟨none, .not (.t 12)⟩]) <|
  .cond (.t 13) (.seq (.ins []) <|
  .ret [.d (.bool false)]) (.skip)) <|
  .foc [.t 11, .t 1, .t 2, .t 3, .t 4])) <|
  .ins [⟨none, .bin .add (.t 4) (.d (.int .i64 1))⟩]) <|
  .foc [.t 0, .t 1, .t 2, .t 3, .t 5]
def bu167L0 : BC := bu167B0
theorem bu167L0_eq : bu167L0 = bu167B0 := rfl

def bu167 : BFun := ⟨[.t 0],
  .seq (.ins [⟨none, .box 7 (.t 0)⟩]) <|
  .seq (.ins [⟨none, .fad (.t 3) 3⟩, ⟨none, .ld false 1 (.t 4)⟩, ⟨none, .callv false (.t 2) [.t 5]⟩, ⟨none, .call false 141 [.t 1, .t 6]⟩, ⟨none, .ext (.t 7) 0⟩, ⟨none, .ext (.t 7) 1⟩]) <|
  .seq (.seq (.ins [⟨none, .not (.t 9)⟩]) <|
  .cond (.t 10) (.seq (.ins []) <|
  .ret [.d (.bool false)]) (.skip)) <|
  .seq (.seq (.ins [⟨none, .fad (.t 3) 4⟩, ⟨none, .ld false 1 (.t 11)⟩, ⟨none, .callv false (.t 2) [.t 12]⟩, ⟨none, .call false 201 [.t 8, .t 13]⟩, ⟨none, .ext (.t 14) 0⟩, ⟨none, .ext (.t 14) 1⟩]) <|
  .seq (.ins [⟨none, .not (.t 16)⟩]) <|
  .cond (.t 17) (.seq (.ins []) <|
  .ret [.d (.bool false)]) (.skip)) <|
  .seq (.seq (.ins [⟨none, .fad (.t 3) 5⟩, ⟨none, .ld false 1 (.t 18)⟩, ⟨none, .len (.t 19)⟩]) <|
  .block 0 (.seq (.foc [.t 15, .t 2, .t 19, .t 20, .d (.int .i64 0)]) <|
  .loop bu167L0)) <|
  .seq (.ins []) <|
  .ret [.d (.bool true)]⟩
theorem oku167 : Code2 Tryz.prog prims1 167 3 bu167 := Code2.mk' rfl Tryz.func167 (by kernel_rfl) (by kernel_rfl)

/- 168: (verger/filter.Filter).value$1, 1 -/
def bu168 : BFun := ⟨[.t 0],
  .seq (.ins []) <|
  .seq (.ins []) <|
  .ret [.t 0]⟩
theorem oku168 : Code2 Tryz.prog prims1 168 1 bu168 := Code2.mk' rfl Tryz.func168 (by kernel_rfl) (by kernel_rfl)

end Go.Abs

/- FilterPrints: the run. -/
namespace Go.Abs
open Go Go.Proofs

def tbU : FuncId → Option (Nat × BFun)
  | 11 => some (0, bu11) | 25 => some (1, bu25) | 51 => some (2, bu51) | 92 => some (2, bu92) | 17 => some (1, bu17) | 21 => some (1, bu21)
  | 42 => some (2, bu42) | 84 => some (1, bu84) | 131 => some (1, bu131) | 132 => some (1, bu132) | 133 => some (2, bu133) | 134 => some (1, bu134)
  | 177 => some (2, bu177) | 14 => some (2, bu14) | 40 => some (2, bu40) | 81 => some (1, bu81) | 82 => some (2, bu82) | 80 => some (1, bu80)
  | 124 => some (2, bu124) | 166 => some (2, bu166) | 200 => some (2, bu200) | 233 => some (1, bu233) | 125 => some (3, bu125) | 167 => some (3, bu167) | 168 => some (1, bu168)
  | _ => none
set_option maxRecDepth 1000000 in
theorem awake_T : runT prims1 tbU 40 11 [] [] = some (.bool true, []) := by kernel_rfl
theorem tbU_ok (f : FuncId) (np : Nat) (b : BFun) (h : tbU f = some (np, b)) : Code2 Tryz.prog prims1 f np b := by
  unfold tbU at h
  split at h
  all_goals (first | (cases h; done) | (cases h; first | exact oku11 | exact oku25 | exact oku51 | exact oku92 | exact oku17 | exact oku21 | exact oku42 | exact oku84 | exact oku131 | exact oku132 | exact oku133 | exact oku134 | exact oku177 | exact oku14 | exact oku40 | exact oku81 | exact oku82 | exact oku80 | exact oku124 | exact oku166 | exact oku200 | exact oku233 | exact oku125 | exact oku167 | exact oku168))
theorem run11 : TU 11 [] [] = some (.bool true, []) := runT_ok tbU_ok 40 _ _ _ _ awake_T

/-- A call of a function of data. -/
theorem call_d {O : Orc} {f : FuncId} {args : List AV} {r : DV} {pu : Bool} {bs : List Box} {tau : List Nat} {vs : List AV} (ha : argVs [] args = some (vs, [])) (h : O f vs [] = some (r, [])) : evCall O pu f args bs tau = some (.d r, bs, tau) := by
  rw [evCall_A, ha]
  simp only [callA, callK, h]

theorem run5 (f g : Flt) (hf : f.Ok) (hg : g.Ok) : TU 5 [.d (encF f), .d (encF g)] [] = some (.bool true, []) := by
  refine oku5.run ?_
  have c11 : ∀ {pu bs tau}, evCall TU pu 11 [] bs tau = some (.d (.bool true), bs, tau) := call_d rfl run11
  have ea : ∀ (x : Flt), argVs [] [.d (encF x)] = some ([.d (encF x)], []) := fun x => by simp only [bCall, encF_canon2]
  have ea2 : ∀ (x y : Flt), argVs [] [.d (encF x), .d (encF y)] = some ([.d (encF x), .d (encF y)], []) := fun x y => by simp only [bCall, encF_canon2]
  have c12 : ∀ {x : Flt} {pu bs tau}, x.Ok → evCall TU pu 12 [.d (encF x)] bs tau = some (.d (.bool (small x)), bs, tau) := fun h => call_d (ea _) (lift1 _ _ _ _ (run12 _ h))
  have c15 : ∀ {x : Flt} {pu bs tau}, x.Ok → evCall TU pu 15 [.d (encF x)] bs tau = some (.d (encF x), bs, tau) := fun h => call_d (ea _) (lift1 _ _ _ _ (run15 _ _ (Nat.le_refl _) h))
  have c17 : ∀ {x : Flt} {pu bs tau}, x.Ok → evCall TU pu 17 [.d (encF x)] bs tau = some (.d (.bool (formedF x)), bs, tau) := fun h => call_d (ea _) (lift1 _ _ _ _ (run17 _ h))
  have c20 : ∀ {x : Flt} {pu bs tau}, x.Ok → evCall TU pu 20 [.d (encF x)] bs tau = some (.d (.bool (formedF x)), bs, tau) := fun h => call_d (ea _) (lift1 _ _ _ _ (run20 _ h))
  have c21 : ∀ {x : Flt} {pu bs tau}, x.Ok → evCall TU pu 21 [.d (encF x)] bs tau = some (.d (.int .i64 (nodes x)), bs, tau) := fun h => call_d (ea _) (lift1 _ _ _ _ (run21 _ _ (Nat.le_refl _) h))
  have c22 : ∀ {x : Flt} {pu bs tau}, x.Ok → evCall TU pu 22 [.d (encF x)] bs tau = some (.d (.int .i64 (nodes x)), bs, tau) := fun h => call_d (ea _) (lift1 _ _ _ _ (run22 _ _ (Nat.le_refl _) h))
  have c23 : ∀ {x y : Flt} {pu bs tau}, x.Ok → evCall TU pu 23 [.d (encF x), .d (encF y)] bs tau = some (.d (.bool (sameF x y)), bs, tau) := fun h => call_d (ea2 _ _) (lift1 _ _ _ _ (run23 _ _ _ (Nat.le_refl _) h))
  have c24 : ∀ {x y : Flt} {pu bs tau}, x.Ok → evCall TU pu 24 [.d (encF x), .d (encF y)] bs tau = some (.d (.bool (sameF x y)), bs, tau) := fun h => call_d (ea2 _ _) (lift1 _ _ _ _ (run24 _ _ _ (Nat.le_refl _) h))
  by_cases hs : small f = true ∧ small g = true
  · obtain ⟨s1, s2⟩ := hs
    obtain ⟨t, n, hp⟩ : ∃ t n, printF f = .tup [.str t, .int .i64 n] := by
      unfold printF; split
      · exact ⟨_, _, rfl⟩
      · exact ⟨_, _, rfl⟩
    have c18 : ∀ {pu bs tau}, evCall TU pu 18 [.d (encF f)] bs tau = some (.d (.tup [.str t, .int .i64 n]), bs, tau) := by rw [← hp]; exact call_d (ea _) (lift1 _ _ _ _ (run18 _ hf (text_small s1)))
    have c19 : ∀ {pu bs tau}, evCall TU pu 19 [.d (encF f)] bs tau = some (.d (.tup [.str t, .int .i64 n]), bs, tau) := by rw [← hp]; exact call_d (ea _) (lift1 _ _ _ _ (run19 _ hf (text_small s1)))
    have x0 : ∀ {bs tau}, extK 0 bs tau (.d (.tup [.str t, .int .i64 n])) = some (.d (.str t), bs, tau) := rfl
    have x1 : ∀ {bs tau}, extK 1 bs tau (.d (.tup [.str t, .int .i64 n])) = some (.d (.int .i64 n), bs, tau) := rfl
    simp only [bu5]
    simp only [x0, x1, bC, bO, bV, bF, bL, bFlt, List.length_nil, List.nil_append, List.cons_append, List.length_cons, c11, c12 hf, c12 hg, c15 hf, c15 hg, c17 hf, c20 hf, c21 hf, c22 hf, c23 hf, c24 hf, Bool.not_true, Bool.not_false, grdK, cndK, if_true, if_false, Bool.false_eq_true, Bool.true_eq_false, reduceIte, beq_self_eq_true, c18, c19, s1, s2]
  · have hs : small f = false ∨ small f = true ∧ small g = false := by
      cases h1 : small f <;> cases h2 : small g <;> simp_all
    rcases hs with h1 | ⟨h1, h2⟩
    · simp only [bu5]
      simp only [bC, bO, bV, bF, bL, bFlt, List.length_nil, List.nil_append, List.cons_append, List.length_cons, c11, c12 hf, c12 hg, c15 hf, c15 hg, c17 hf, c20 hf, c21 hf, c22 hf, c23 hf, c24 hf, Bool.not_true, Bool.not_false, grdK, cndK, if_true, if_false, Bool.false_eq_true, Bool.true_eq_false, reduceIte, beq_self_eq_true, h1]
    · simp only [bu5]
      simp only [bC, bO, bV, bF, bL, bFlt, List.length_nil, List.nil_append, List.cons_append, List.length_cons, c11, c12 hf, c12 hg, c15 hf, c15 hg, c17 hf, c20 hf, c21 hf, c22 hf, c23 hf, c24 hf, Bool.not_true, Bool.not_false, grdK, cndK, if_true, if_false, Bool.false_eq_true, Bool.true_eq_false, reduceIte, beq_self_eq_true, h1, h2]
end Go.Abs

/- What was read as a filter is a filter. -/
namespace Go.Abs
open Go Go.Proofs

theorem Al2_map {α β γ : Type} {R : γ → β → Prop} (g : α → γ) : ∀ {xs : List α} {ys : List β}, Al2 (fun x y => R (g x) y) xs ys → Al2 R (xs.map g) ys
  | [], ys, h => h
  | x :: xs, ys, h => by
    obtain ⟨y, zs, rfl, h1, h2⟩ := h
    exact ⟨y, zs, rfl, h1, Al2_map g h2⟩
theorem choose_map {α β : Type} {g : α → β} {p : α → Prop} : ∀ {l : List β}, (∀ y ∈ l, ∃ a, y = g a ∧ p a) → ∃ k : List α, l = k.map g ∧ ∀ a ∈ k, p a
  | [], _ => ⟨[], rfl, by simp⟩
  | y :: l, h => by
    obtain ⟨a, rfl, ha⟩ := h y (by simp)
    obtain ⟨k, rfl, hk⟩ := choose_map (l := l) fun z hz => h z (List.mem_cons_of_mem _ hz)
    exact ⟨a :: k, rfl, fun b hb => by rcases List.mem_cons.1 hb with rfl | hb; exact ha; exact hk b hb⟩

theorem und3 : Tryz.prog.underlying 3 = some (.int .i64) := by kernel_rfl
theorem und9 : Tryz.prog.underlying 9 = some .string := by kernel_rfl
theorem und22 : Tryz.prog.underlying 22 = some (.slice 9) := by kernel_rfl
theorem und23 : Tryz.prog.underlying 23 = some (.slice 25) := by kernel_rfl
theorem und25 : ((Tryz.prog.underlying 25).bind fun d => match d with | .struct fs => some (fs.toList.map fun f => f.type) | _ => none) = some [3, 9, 9, 9, 9, 22, 23] := by kernel_rfl
theorem cells9 : Tryz.prog.cellsOf 9 = 1 := by kernel_rfl
theorem cells25 : Tryz.prog.cellsOf 25 = 7 := by kernel_rfl

theorem typed3 {N n : Nat} {x : DV} (h : Typed Tryz.prog N n 3 x) : ∃ i, x = .int .i64 i := by
  cases n with
  | zero => exact h.elim
  | succ n => simp only [Typed, und3] at h; obtain ⟨i, rfl, _⟩ := h; exact ⟨i, rfl⟩
theorem typed9 {N n : Nat} {x : DV} (h : Typed Tryz.prog N n 9 x) : ∃ s, x = .str s ∧ s.length ≤ N := by
  cases n with
  | zero => exact h.elim
  | succ n => simp only [Typed, und9] at h; exact h
theorem typed22 {N n : Nat} {x : DV} (h : Typed Tryz.prog N n 22 x) : ∃ l : List (List UInt8), x = slc 1 (l.map .str) ∧ l.length ≤ N ∧ ∀ s ∈ l, s.length ≤ N := by
  cases n with
  | zero => exact h.elim
  | succ n =>
    simp only [Typed, und22, cells9] at h
    obtain ⟨es, rfl, h1, h2⟩ := h
    obtain ⟨l, rfl, h3⟩ := choose_map fun y hy => typed9 (h2 y hy)
    exact ⟨l, rfl, by simpa using h1, h3⟩

/-- Every length is bounded. -/
inductive Flt.Up (N : Nat) : Flt → Prop
  | mk {f : Flt} : f.attr.length ≤ N → f.value.length ≤ N → f.first.length ≤ N → f.last.length ≤ N → f.any.length ≤ N → (∀ s ∈ f.any, s.length ≤ N) → f.parts.length ≤ N → (∀ p ∈ f.parts, Flt.Up N p) → Flt.Up N f
set_option maxRecDepth 100000 in
theorem typed25 {N : Nat} (n : Nat) : ∀ {x : DV}, Typed Tryz.prog N n 25 x → ∃ f : Flt, x = encF f ∧ f.Up N := by
  induction n using Nat.strongRecOn with
  | ind n ih =>
  cases n with
  | zero => intro x h; exact h.elim
  | succ n =>
    intro x h
    have hu := und25
    cases hd : Tryz.prog.underlying 25 with
    | none => rw [hd] at hu; cases hu
    | some d =>
      rw [hd] at hu
      cases d <;> simp only [Option.bind_some, reduceCtorEq] at hu
      rename_i fs
      simp only [Typed, hd] at h
      obtain ⟨ys, rfl, h1⟩ := h
      have h2 := Al2_map (R := fun t y => Typed Tryz.prog N n t y) (fun f : Field => f.type) h1
      rw [Option.some.inj hu] at h2
      obtain ⟨y0, _, rfl, t0, y1, _, rfl, t1, y2, _, rfl, t2, y3, _, rfl, t3, y4, _, rfl, t4, y5, _, rfl, t5, y6, _, rfl, t6, rfl⟩ := h2
      obtain ⟨i, rfl⟩ := typed3 t0
      obtain ⟨a, rfl, ha⟩ := typed9 t1
      obtain ⟨v, rfl, hv⟩ := typed9 t2
      obtain ⟨p, rfl, hp⟩ := typed9 t3
      obtain ⟨q, rfl, hq⟩ := typed9 t4
      obtain ⟨l, rfl, hl, hl2⟩ := typed22 t5
      have h6 : ∃ fs : List Flt, y6 = slc 7 (fs.map encF) ∧ fs.length ≤ N ∧ ∀ f ∈ fs, f.Up N := by
        cases n with
        | zero => exact t6.elim
        | succ n =>
          simp only [Typed, und23, cells25] at t6
          obtain ⟨es, rfl, k1, k2⟩ := t6
          obtain ⟨l, rfl, k3⟩ := choose_map fun y hy => ih n (by omega) (k2 y hy)
          exact ⟨l, rfl, by simpa using k1, k3⟩
      obtain ⟨ps, rfl, hps, hps2⟩ := h6
      refine ⟨⟨i, a, v, p, q, l, ps⟩, ?_, .mk ha hv hp hq hl hl2 hps hps2⟩
      rw [encF_eq]
      simp only [List.flatMap_cons, List.flatMap_nil, slc_cells, Flt.kind, Flt.attr, Flt.value, Flt.first, Flt.last, Flt.any, Flt.parts]
      rfl
theorem Flt.Up.ok {N : Nat} (hN : N ≤ 1073741824) {f : Flt} (h : f.Up N) : f.Ok := by
  induction h with
  | mk h1 h2 h3 h4 h5 h6 h7 h8 ih => exact .mk (by omega) (by omega) (by omega) ih
end Go.Abs

/- A filter's text is read as the filter: the plain law. -/
namespace Go.Abs
open Go

/- TEXTS -/
theorem esc_facts (c : UInt8) : plainC c = !bad c ∧ (bad c = false → c ≠ 92) ∧ 0 ≤ digV (hexD (c >>> 4)) ∧ 0 ≤ digV (hexD (c &&& 15)) ∧ hexB (digV (hexD (c >>> 4))) (digV (hexD (c &&& 15))) = c := by
  have : ∀ n : Fin 256, plainC (UInt8.ofNat n.val) = !bad (UInt8.ofNat n.val) ∧ (bad (UInt8.ofNat n.val) = false → UInt8.ofNat n.val ≠ 92) ∧ 0 ≤ digV (hexD (UInt8.ofNat n.val >>> 4)) ∧ 0 ≤ digV (hexD (UInt8.ofNat n.val &&& 15)) ∧
      hexB (digV (hexD (UInt8.ofNat n.val >>> 4))) (digV (hexD (UInt8.ofNat n.val &&& 15))) = UInt8.ofNat n.val := by decide +kernel
  exact all_u8 (p := fun c => plainC c = !bad c ∧ (bad c = false → c ≠ 92) ∧ 0 ≤ digV (hexD (c >>> 4)) ∧ 0 ≤ digV (hexD (c &&& 15)) ∧ hexB (digV (hexD (c >>> 4))) (digV (hexD (c &&& 15))) = c) this c
theorem esc_no (c : UInt8) : ∀ x ∈ esc c, x ≠ 41 ∧ x ≠ 42 := by
  have : ∀ n : Fin 256, ((esc (UInt8.ofNat n.val)).all fun x => x != 41 && x != 42) = true := by decide +kernel
  have h := all_u8 (p := fun c => ((esc c).all fun x => x != 41 && x != 42) = true) this c
  intro x hx
  have := List.all_eq_true.1 h x hx
  simpa using this
theorem escS_no (s : List UInt8) : ∀ x ∈ escS s, x ≠ 41 ∧ x ≠ 42 := by
  intro x hx
  obtain ⟨c, _, h⟩ := List.mem_flatMap.1 hx
  exact esc_no c x h
theorem unescS_esc : ∀ s : List UInt8, unescS 0 (escS s) = some s
  | [] => rfl
  | c :: s => by
    have ih := unescS_esc s
    obtain ⟨h1, h2, h3, h4, h5⟩ := esc_facts c
    have e : escS (c :: s) = esc c ++ escS s := rfl
    rw [e]
    cases hb : bad c with
    | true =>
      have e2 : esc c ++ escS s = 92 :: hexD (c >>> 4) :: hexD (c &&& 15) :: escS s := by simp [esc, hb]
      rw [e2]
      have d0 : digAt (hexD (c >>> 4) :: hexD (c &&& 15) :: escS s) 0 = digV (hexD (c >>> 4)) := rfl
      have d1 : digAt (hexD (c >>> 4) :: hexD (c &&& 15) :: escS s) 1 = digV (hexD (c &&& 15)) := rfl
      have u2 : unescS 2 (hexD (c >>> 4) :: hexD (c &&& 15) :: escS s) = unescS 0 (escS s) := rfl
      rw [unescS, d0, d1, if_pos ⟨rfl, h3, h4⟩, u2, ih, h5]
      rfl
    | false =>
      have e2 : esc c ++ escS s = c :: escS s := by simp [esc, hb]
      rw [e2, unescS, if_neg (fun h => h2 hb h.1), h1, hb, ih]
      rfl
theorem unesc_esc (s : List UInt8) : unesc (escS s) = (s, true) := by
  unfold unesc
  rw [unescS_esc]
theorem splitC_none {c : UInt8} : ∀ {l : List UInt8}, (∀ x ∈ l, x ≠ c) → splitC c l = [l]
  | [], _ => rfl
  | x :: l, h => by
    simp only [splitC]
    rw [if_neg (h x (by simp)), splitC_none fun y hy => h y (by simp [hy])]
    rfl
theorem splitC_at {c : UInt8} : ∀ {l r : List UInt8}, (∀ x ∈ l, x ≠ c) → splitC c (l ++ c :: r) = l :: splitC c r
  | [], r, _ => by simp [splitC]
  | x :: l, r, h => by
    simp only [List.cons_append, splitC]
    rw [if_neg (h x (by simp)), splitC_at fun y hy => h y (by simp [hy])]
    rfl
theorem index_at {c : UInt8} : ∀ {l r : List UInt8}, (∀ x ∈ l, x ≠ c) → Lib.index (l ++ c :: r) [c] = l.length
  | [], r, _ => by
    simp only [List.nil_append, Lib.index]
    rw [if_pos (by simp [List.isPrefixOf])]; rfl
  | x :: l, r, h => by
    have hx := h x (by simp)
    simp only [List.cons_append, Lib.index]
    rw [if_neg (by simp [List.isPrefixOf]; exact fun e => hx e.symm), index_at fun y hy => h y (by simp [hy])]
    rw [if_neg (by simp only [beq_iff_eq]; omega)]
    simp
theorem cut_at {c : UInt8} {l r : List UInt8} (h : ∀ x ∈ l, x ≠ c) : Lib.cut (l ++ c :: r) [c] = (l, r, true) := by
  unfold Lib.cut
  rw [index_at h, if_pos (by omega)]
  simp

/- LEAVES -/
theorem attr_facts (c : UInt8) (h : attrC c = true) : idxByte c signs4 0 < 0 ∧ c ≠ 41 ∧ c ≠ 42 := by
  have : ∀ n : Fin 256, attrC (UInt8.ofNat n.val) = true → idxByte (UInt8.ofNat n.val) signs4 0 < 0 ∧ UInt8.ofNat n.val ≠ 41 ∧ UInt8.ofNat n.val ≠ 42 := by decide +kernel
  exact all_u8 (p := fun c => attrC c = true → idxByte c signs4 0 < 0 ∧ c ≠ 41 ∧ c ≠ 42) this c h
theorem letter_facts (c : UInt8) (h : letter c = true) : idxByte c [38, 124, 33] 0 < 0 := by
  have : ∀ n : Fin 256, letter (UInt8.ofNat n.val) = true → idxByte (UInt8.ofNat n.val) [38, 124, 33] 0 < 0 := by decide +kernel
  exact all_u8 (p := fun c => letter c = true → idxByte c [38, 124, 33] 0 < 0) this c h
theorem attrLen_app : ∀ {a : List UInt8} {c : UInt8} {r : List UInt8}, a.all attrC = true → 0 ≤ idxByte c signs4 0 → attrLen (a ++ c :: r) = a.length
  | [], c, r, _, h => by
    simp only [List.nil_append, attrLen]
    rw [if_neg (by omega)]; rfl
  | x :: a, c, r, ha, h => by
    simp only [List.all_cons, Bool.and_eq_true] at ha
    simp only [List.cons_append, attrLen]
    rw [if_pos (attr_facts x ha.1).1, attrLen_app ha.2 h]
    rfl
theorem leafF_app {a : List UInt8} {c : UInt8} {r : List UInt8} (ha : a.all attrC = true) (h : 0 ≤ idxByte c signs4 0) : leafF (a ++ c :: r) = signF a (c :: r) [5, 6, 8] := by
  unfold leafF
  rw [attrLen_app ha h]
  simp
theorem attrOk_spec {a : List UInt8} (h : attrOk a = true) : a.all attrC = true ∧ ∃ c t, a = c :: t ∧ letter c = true := by
  simp only [attrOk, Bool.and_eq_true] at h
  refine ⟨h.2, ?_⟩
  cases a with
  | nil => simp at h
  | cons c t => exact ⟨c, t, rfl, h.1.2⟩

/-- What stands in brackets. -/
def innerF (f : Flt) : List UInt8 :=
  if f.kind == 7 then f.attr ++ [61, 42]
  else if f.kind == 4 then f.attr ++ [61] ++ escS f.first ++ [42] ++ anyT f.any ++ escS f.last
  else f.attr ++ signS f.kind ++ escS f.value

theorem anyT_split : ∀ (l : List (List UInt8)) (r : List UInt8), splitC 42 (anyT l ++ escS r) = l.map escS ++ [escS r]
  | [], r => splitC_none fun x hx => (escS_no r x hx).2
  | p :: l, r => by
    have e : anyT (p :: l) ++ escS r = escS p ++ 42 :: (anyT l ++ escS r) := by simp [anyT]
    rw [e, splitC_at fun x hx => (escS_no p x hx).2, anyT_split l r]
    rfl
theorem escS_nil {s : List UInt8} (h : escS s = []) : s = [] := by
  have := escS_ge s
  rw [h] at this
  exact List.eq_nil_of_length_eq_zero (by simpa using this)

theorem leaf_val {k : Int} {a v : List UInt8} (hk : k = 3 ∨ k = 5 ∨ k = 6 ∨ k = 8) (ha : a.all attrC = true) : leafF (a ++ signS k ++ escS v) = (valF k a v, true) := by
  have hu := unesc_esc v
  rcases hk with rfl | rfl | rfl | rfl
  · have e : a ++ signS 3 ++ escS v = a ++ 61 :: escS v := by simp [signS]
    have hne : escS v ≠ [42] := fun h => (escS_no v 42 (by rw [h]; simp)).2 rfl
    rw [e, leafF_app ha (by decide)]
    have t1 : Lib.trimPrefix (61 :: escS v) [61] = escS v := by simp [Lib.trimPrefix, Lib.hasPrefix, List.isPrefixOf]
    simp only [signF, restF]
    rw [if_neg (by simp [Lib.hasPrefix, signS, List.isPrefixOf]), if_neg (by simp [Lib.hasPrefix, signS, List.isPrefixOf]), if_neg (by simp [Lib.hasPrefix, signS, List.isPrefixOf]), if_neg (by simp [Lib.hasPrefix, List.isPrefixOf]), t1, if_neg hne,
      splitC_none fun x hx => (escS_no v x hx).2]
    simp [hu, piecesF]
  · have e : a ++ signS 5 ++ escS v = a ++ 62 :: 61 :: escS v := by simp [signS]
    rw [e, leafF_app ha (by decide)]
    have t1 : Lib.trimPrefix (62 :: 61 :: escS v) (signS 5) = escS v := by simp [Lib.trimPrefix, Lib.hasPrefix, List.isPrefixOf, signS]
    simp only [signF]
    rw [if_pos (by simp [Lib.hasPrefix, signS, List.isPrefixOf]), t1, hu]
  · have e : a ++ signS 6 ++ escS v = a ++ 60 :: 61 :: escS v := by simp [signS]
    rw [e, leafF_app ha (by decide)]
    have t1 : Lib.trimPrefix (60 :: 61 :: escS v) (signS 6) = escS v := by simp [Lib.trimPrefix, Lib.hasPrefix, List.isPrefixOf, signS]
    simp only [signF]
    rw [if_neg (by simp [Lib.hasPrefix, signS, List.isPrefixOf]), if_pos (by simp [Lib.hasPrefix, signS, List.isPrefixOf]), t1, hu]
  · have e : a ++ signS 8 ++ escS v = a ++ 126 :: 61 :: escS v := by simp [signS]
    rw [e, leafF_app ha (by decide)]
    have t1 : Lib.trimPrefix (126 :: 61 :: escS v) (signS 8) = escS v := by simp [Lib.trimPrefix, Lib.hasPrefix, List.isPrefixOf, signS]
    simp only [signF]
    rw [if_neg (by simp [Lib.hasPrefix, signS, List.isPrefixOf]), if_neg (by simp [Lib.hasPrefix, signS, List.isPrefixOf]), if_pos (by simp [Lib.hasPrefix, signS, List.isPrefixOf]), t1, hu]
theorem leaf_present {a : List UInt8} (ha : a.all attrC = true) : leafF (a ++ [61, 42]) = (emptyF 7 a, true) := by
  rw [leafF_app ha (by decide)]
  simp [signF, restF, Lib.hasPrefix, signS, List.isPrefixOf, Lib.trimPrefix]
theorem leaf_pieces {a x l : List UInt8} {y : List (List UInt8)} (ha : a.all attrC = true) (hne : ¬ (x = [] ∧ y = [] ∧ l = [])) : leafF (a ++ [61] ++ escS x ++ [42] ++ anyT y ++ escS l) = (⟨4, a, [], x, l, y, []⟩, true) := by
  have e : a ++ [61] ++ escS x ++ [42] ++ anyT y ++ escS l = a ++ 61 :: (escS x ++ 42 :: (anyT y ++ escS l)) := by simp
  rw [e, leafF_app ha (by decide)]
  have t1 : Lib.trimPrefix (61 :: (escS x ++ 42 :: (anyT y ++ escS l))) [61] = escS x ++ 42 :: (anyT y ++ escS l) := by simp [Lib.trimPrefix, Lib.hasPrefix, List.isPrefixOf]
  have hs : splitC 42 (escS x ++ 42 :: (anyT y ++ escS l)) = escS x :: (y.map escS ++ [escS l]) := by
    rw [splitC_at fun c hc => (escS_no x c hc).2, anyT_split]
  have hn : escS x ++ 42 :: (anyT y ++ escS l) ≠ [42] := by
    intro h
    cases hx : escS x with
    | nil =>
      rw [hx] at h
      simp only [List.nil_append, List.cons.injEq, true_and, List.append_eq_nil_iff] at h
      refine hne ⟨escS_nil hx, ?_, escS_nil h.2⟩
      cases y with
      | nil => rfl
      | cons p y => simp [anyT] at h
    | cons c t =>
      rw [hx] at h
      simp only [List.cons_append, List.cons.injEq, List.append_eq_nil_iff, reduceCtorEq, and_false] at h
  simp only [signF, restF]
  rw [if_neg (by simp [Lib.hasPrefix, signS, List.isPrefixOf]), if_neg (by simp [Lib.hasPrefix, signS, List.isPrefixOf]), if_neg (by simp [Lib.hasPrefix, signS, List.isPrefixOf]), if_neg (by simp [Lib.hasPrefix, List.isPrefixOf]), t1, if_neg hn, hs]
  have hm : (escS x :: (y.map escS ++ [escS l])).map (fun p => (unesc p).1) = x :: (y ++ [l]) := by simp [unesc_esc, Function.comp_def]
  rw [if_pos (by simp [unesc_esc]), hm, piecesF, if_neg (by simp)]
  simp
end Go.Abs

/- The reader: what it reads. -/
namespace Go.Abs
open Go

/-- What a filter that is none of leaf begins with, or less than 0. -/
def kindC (c : UInt8) : Int := idxByte c [38, 124, 33] 0
mutual
/-- Fuel, how many filters may still come, how deep, the text: the filter, what is left of the text and of the filters. -/
def readO : Nat → Nat → Nat → List UInt8 → Option (Flt × List UInt8 × Nat)
  | 0, _, _, _ => none
  | _ + 1, 0, _, _ => none
  | m + 1, n + 1, d, s =>
    if 20 < d then none else
    match s with
    | b :: c :: t =>
      if b ≠ 40 then none else
      if kindC c < 0 then
        (if (leafF (Lib.cut (c :: t) [41]).1).2 && (Lib.cut (c :: t) [41]).2.2 then some ((leafF (Lib.cut (c :: t) [41]).1).1, (Lib.cut (c :: t) [41]).2.1, n) else none)
      else
        match loopO m n d t with
        | some (ps, r, k) => some (⟨kindC c, [], [], [], [], [], ps⟩, r, k)
        | none => none
    | _ => none
def loopO : Nat → Nat → Nat → List UInt8 → Option (List Flt × List UInt8 × Nat)
  | 0, _, _, _ => none
  | m + 1, n, d, s =>
    if s.head? = some 41 then some ([], s.tail, n) else
    match readO m n (d + 1) s with
    | some (p, s', n') =>
      (match loopO m n' d s' with
      | some (ps, r, k) => some (p :: ps, r, k)
      | none => none)
    | none => none
end

/- THE TEXT OF A FILTER -/
theorem sym_kind {k : Int} (h : k = 0 ∨ k = 1 ∨ k = 2) : kindC (sym k) = k := by
  rcases h with rfl | rfl | rfl <;> decide
theorem textF_leaf {f : Flt} (h : ¬ (f.kind = 0 ∨ f.kind = 1 ∨ f.kind = 2)) : textF f = 40 :: (innerF f ++ [41]) := by
  have h0 : (f.kind == 0 || f.kind == 1 || f.kind == 2) = false := by
    simp only [Bool.or_eq_false_iff, beq_eq_false_iff_ne]
    omega
  rw [textF_eq, h0]
  simp only [innerF, Bool.false_eq_true, if_false]
  rfl
theorem textF_node {f : Flt} (h : f.kind = 0 ∨ f.kind = 1 ∨ f.kind = 2) : textF f = 40 :: sym f.kind :: (textFs f.parts ++ [41]) := by
  have h0 : (f.kind == 0 || f.kind == 1 || f.kind == 2) = true := by
    simp only [Bool.or_eq_true, beq_iff_eq]
    omega
  rw [textF_eq, h0]
  simp
theorem inner_no {f : Flt} (ha : attrOk f.attr = true) : (∀ x ∈ innerF f, x ≠ 41) ∧ ∃ c t, innerF f = c :: t ∧ kindC c < 0 := by
  obtain ⟨h1, c, t, h2, h3⟩ := attrOk_spec ha
  have hat : ∀ x ∈ f.attr, x ≠ 41 := fun x hx => (attr_facts x (List.all_eq_true.1 h1 x hx)).2.1
  have hs : ∀ k, ∀ x ∈ signS k, x ≠ 41 := by
    intro k x hx
    unfold signS at hx
    repeat' split at hx
    all_goals (simp at hx; rcases hx with rfl | rfl <;> decide)
  have hy : ∀ x ∈ anyT f.any, x ≠ 41 := by
    intro x hx
    obtain ⟨p, _, h⟩ := List.mem_flatMap.1 hx
    rcases List.mem_append.1 h with h | h
    · exact (escS_no p x h).1
    · simp at h; subst h; decide
  refine ⟨?_, ?_⟩
  · intro x hx
    unfold innerF at hx
    repeat' split at hx
    · rcases List.mem_append.1 hx with h | h
      · exact hat x h
      · simp at h; rcases h with rfl | rfl <;> decide
    · simp only [List.mem_append, List.mem_singleton] at hx
      rcases hx with ((((h | rfl) | h) | rfl) | h) | h
      · exact hat x h
      · decide
      · exact (escS_no _ x h).1
      · decide
      · exact hy x h
      · exact (escS_no _ x h).1
    · simp only [List.mem_append] at hx
      rcases hx with (h | h) | h
      · exact hat x h
      · exact hs _ x h
      · exact (escS_no _ x h).1
  · refine ⟨c, (innerF f).tail, ?_, letter_facts c h3⟩
    unfold innerF
    rw [h2]
    repeat' split
    all_goals simp
theorem bare_leaf {f : Flt} (hb : bare f = true) (h : ¬ (f.kind = 0 ∨ f.kind = 1 ∨ f.kind = 2)) : attrOk f.attr = true ∧ f.parts = [] ∧ leafF (innerF f) = (f, true) := by
  have h0 : (f.kind == 0 || f.kind == 1) = false := by
    simp only [Bool.or_eq_false_iff, beq_eq_false_iff_ne]; omega
  have h2 : (f.kind == 2) = false := by simp only [beq_eq_false_iff_ne]; omega
  unfold bare at hb
  rw [h0, h2] at hb
  simp only [Bool.false_eq_true, if_false] at hb
  by_cases hk : (f.kind == 3 || f.kind == 5 || f.kind == 6 || f.kind == 8) = true
  · rw [if_pos hk] at hb
    obtain ⟨k, a, v, x, l, y, p⟩ := f
    simp only [Flt.kind, Flt.attr, Flt.value, Flt.first, Flt.last, Flt.any, Flt.parts, pieces, Bool.or_eq_true, beq_iff_eq] at hb hk ⊢
    simp at hb
    obtain ⟨⟨⟨h1, h3⟩, h4⟩, h5⟩ := hb
    have ha := attrOk_spec h1
    have e : innerF ⟨k, a, v, x, l, y, p⟩ = a ++ signS k ++ escS v := by
      have e1 : ¬ (k == 7) = true := by simp only [beq_iff_eq]; omega
      have e2 : ¬ (k == 4) = true := by simp only [beq_iff_eq]; omega
      show (if (k == 7) = true then a ++ [61, 42] else if (k == 4) = true then a ++ [61] ++ escS x ++ [42] ++ anyT y ++ escS l else a ++ signS k ++ escS v) = _
      rw [if_neg e1, if_neg e2]
    rw [e, leaf_val (by omega) ha.1]
    obtain ⟨⟨rfl, rfl⟩, rfl⟩ := h4
    subst h5
    exact ⟨h1, rfl, rfl⟩
  · rw [if_neg hk] at hb
    by_cases hk7 : (f.kind == 7) = true
    · rw [if_pos hk7] at hb
      obtain ⟨k, a, v, x, l, y, p⟩ := f
      simp only [Flt.kind, Flt.attr, Flt.value, Flt.first, Flt.last, Flt.any, Flt.parts, pieces, beq_iff_eq] at hb hk7 ⊢
      subst hk7
      simp at hb
      obtain ⟨⟨⟨h1, h3⟩, h4⟩, h5⟩ := hb
      have ha := attrOk_spec h1
      have e : innerF ⟨7, a, v, x, l, y, p⟩ = a ++ [61, 42] := rfl
      rw [e, leaf_present ha.1]
      obtain ⟨⟨rfl, rfl⟩, rfl⟩ := h4
      subst h3 h5
      exact ⟨h1, rfl, rfl⟩
    · rw [if_neg hk7] at hb
      by_cases hk4 : (f.kind == 4) = true
      · rw [if_pos hk4] at hb
        obtain ⟨k, a, v, x, l, y, p⟩ := f
        simp only [Flt.kind, Flt.attr, Flt.value, Flt.first, Flt.last, Flt.any, Flt.parts, pieces, beq_iff_eq] at hb hk4 ⊢
        subst hk4
        simp at hb
        obtain ⟨⟨⟨⟨⟨⟨hy, h1⟩, h3⟩, h4⟩, h5⟩, hf⟩, hl⟩ := hb
        have ha := attrOk_spec h1
        have e : innerF ⟨4, a, v, x, l, y, p⟩ = a ++ [61] ++ escS x ++ [42] ++ anyT y ++ escS l := rfl
        rw [e, leaf_pieces ha.1 (by
          rintro ⟨rfl, rfl, rfl⟩
          simp at h4)]
        subst h3 h5
        exact ⟨h1, rfl, rfl⟩
      · rw [if_neg hk4] at hb
        cases hb
theorem bare_node {f : Flt} (hb : bare f = true) (h : f.kind = 0 ∨ f.kind = 1 ∨ f.kind = 2) : f = ⟨f.kind, [], [], [], [], [], f.parts⟩ := by
  obtain ⟨k, a, v, x, l, y, p⟩ := f
  simp only [Flt.kind, Flt.attr, Flt.value, Flt.first, Flt.last, Flt.any, Flt.parts, bare, pieces] at hb h ⊢
  rcases h with rfl | rfl | rfl
  · simp at hb
    obtain ⟨⟨rfl, rfl⟩, ⟨rfl, rfl⟩, rfl⟩ := hb
    rfl
  · simp at hb
    obtain ⟨⟨rfl, rfl⟩, ⟨rfl, rfl⟩, rfl⟩ := hb
    rfl
  · simp at hb
    obtain ⟨⟨⟨rfl, rfl⟩, ⟨rfl, rfl⟩, rfl⟩, _⟩ := hb
    rfl

theorem read_text : ∀ (q : Nat) (f : Flt) (m n d : Nat) (r : List UInt8), f.size ≤ q → allB f = true → f.size ≤ n → 2 * n + 1 ≤ m → d + depth f ≤ 21 → readO m n d (textF f ++ r) = some (f, r, n - f.size)
  | 0, f, _, _, _, _, hq, _, _, _, _ => by have := size_pos f; omega
  | q + 1, f, m, n, d, r, hq, hb, hn, hm, hd => by
    have hs := size_pos f
    obtain ⟨n, rfl⟩ : ∃ k, n = k + 1 := ⟨n - 1, by omega⟩
    obtain ⟨m, rfl⟩ : ∃ k, m = k + 1 := ⟨m - 1, by omega⟩
    have hdp := depth_eq f
    have hsz := size_eq f
    rw [allB_eq, Bool.and_eq_true] at hb
    by_cases hk : f.kind = 0 ∨ f.kind = 1 ∨ f.kind = 2
    · have hf := bare_node hb.1 hk
      have key : ∀ (l : List Flt) (n m : Nat), (∀ p ∈ l, p ∈ f.parts) → allBs l = true → Flt.sizes l ≤ n → 2 * n + 2 ≤ m → depths l ≤ depths f.parts → loopO m n d (textFs l ++ 41 :: r) = some (l, r, n - Flt.sizes l) := by
        intro l
        induction l with
        | nil =>
          intro n m _ _ _ hm _
          obtain ⟨m, rfl⟩ : ∃ k, m = k + 1 := ⟨m - 1, by omega⟩
          simp [loopO, textFs, Flt.sizes]
        | cons p ps ih =>
          intro n m hmem hb hn hm hdl
          obtain ⟨m, rfl⟩ : ∃ k, m = k + 1 := ⟨m - 1, by omega⟩
          simp only [allBs, Bool.and_eq_true] at hb
          simp only [Flt.sizes] at hn
          simp only [depths] at hdl
          have hpm := Flt.size_mem (hmem p (by simp))
          have h1 := read_text q p m n (d + 1) (textFs ps ++ 41 :: r) (by omega) hb.1 (by omega) (by omega) (by omega)
          have hp := size_pos p
          have h2 := ih (n - p.size) m (fun x hx => hmem x (by simp [hx])) hb.2 (by omega) (by omega) (by omega)
          have hh : (textFs (p :: ps) ++ 41 :: r).head? ≠ some 41 := by
            rw [show textFs (p :: ps) = textF p ++ textFs ps from rfl, textF_eq]
            simp
          rw [loopO, if_neg hh, show textFs (p :: ps) ++ 41 :: r = textF p ++ (textFs ps ++ 41 :: r) by simp [textFs], h1]
          simp only [h2, Flt.sizes]
          simp only [Option.some.injEq, Prod.mk.injEq, true_and]
          omega
      have h1 := key f.parts n m (fun _ h => h) hb.2 (by omega) (by omega) (Nat.le_refl _)
      have hkc := sym_kind hk
      rw [textF_node hk]
      have e : (40 :: sym f.kind :: (textFs f.parts ++ [41])) ++ r = 40 :: sym f.kind :: (textFs f.parts ++ 41 :: r) := by simp
      rw [e, readO, if_neg (by omega)]
      simp only [ne_eq, not_true_eq_false, if_false, hkc]
      rw [if_neg (by omega), h1]
      simp only [Option.some.injEq, Prod.mk.injEq, true_and]
      exact ⟨hf.symm, by omega⟩
    · obtain ⟨ha, hp, hl⟩ := bare_leaf hb.1 hk
      obtain ⟨h1, c, t, h2, h3⟩ := inner_no ha
      rw [textF_leaf hk]
      have hc := cut_at (c := 41) (l := innerF f) (r := r) h1
      have e : (40 :: (innerF f ++ [41])) ++ r = 40 :: c :: (t ++ 41 :: r) := by rw [h2]; simp
      have e2 : c :: (t ++ 41 :: r) = innerF f ++ 41 :: r := by rw [h2]; simp
      rw [e, readO, if_neg (by omega)]
      simp only [ne_eq, not_true_eq_false, if_false]
      rw [if_pos h3, e2, hc]
      simp only [hl, Bool.and_true, if_true]
      rw [hsz, hp]
      simp [Flt.sizes]
end Go.Abs

/- What is read is no larger than the text. -/
namespace Go.Abs
open Go

def tot (l : List (List UInt8)) : Nat := (l.map List.length).sum
theorem tot_splitC (c : UInt8) : ∀ l : List UInt8, tot (splitC c l) + (splitC c l).length = l.length + 1
  | [] => rfl
  | x :: l => by
    have ih := tot_splitC c l
    simp only [splitC]
    split
    · simp only [tot, List.map_cons, List.sum_cons, List.length_nil, List.length_cons] at *
      omega
    · cases h : splitC c l with
      | nil => exact absurd h (splitC_ne c l)
      | cons p ps =>
        rw [h] at ih
        simp only [consHead, tot, List.map_cons, List.sum_cons, List.length_cons] at *
        omega
theorem tot_unesc : ∀ l : List (List UInt8), tot (l.map fun p => (unesc p).1) ≤ tot l
  | [] => Nat.le_refl _
  | p :: l => by
    have := tot_unesc l
    have := unesc_len p
    simp only [tot, List.map_cons, List.sum_cons] at *
    omega
theorem tot_mem : ∀ {l : List (List UInt8)} {p : List UInt8}, p ∈ l → p.length ≤ tot l
  | q :: l, p, h => by
    simp only [tot, List.map_cons, List.sum_cons]
    rcases List.mem_cons.1 h with rfl | h
    · omega
    · have := tot_mem h
      simp only [tot] at this
      omega
theorem anyT_tot : ∀ l : List (List UInt8), (anyT l).length ≤ 3 * tot l + l.length
  | [] => by simp [anyT]
  | p :: l => by
    have := anyT_tot l
    have h := escS_le p
    simp only [anyT, tot, List.flatMap_cons, List.length_append, List.length_cons, List.length_nil, List.map_cons, List.sum_cons] at *
    omega
theorem trim_len {s p : List UInt8} (h : Lib.hasPrefix s p = true) : (Lib.trimPrefix s p).length + p.length = s.length := by
  have h1 : p.length ≤ s.length := by
    have := List.isPrefixOf_iff_prefix.1 (show p.isPrefixOf s = true from h)
    exact this.length_le
  unfold Lib.trimPrefix
  rw [if_pos h]
  simp; omega

/-- What a leaf is made of. -/
structure LeafB (s : List UInt8) (f : Flt) (ok : Bool) : Prop where
  up : ∀ N, s.length + 1 ≤ N → f.Up N
  kind : ok = true → ¬ (f.kind = 0 ∨ f.kind = 1 ∨ f.kind = 2)
  text : ok = true → (innerF f).length ≤ 3 * s.length

theorem up_val {N : Nat} {k : Int} {a v : List UInt8} (ha : a.length ≤ N) (hv : v.length ≤ N) : (valF k a v).Up N :=
  .mk ha hv (Nat.zero_le _) (Nat.zero_le _) (Nat.zero_le _) (fun s h => by cases h) (Nat.zero_le _) (fun p h => by cases h)
theorem inner_val {k : Int} {a v : List UInt8} (hk : k = 3 ∨ k = 5 ∨ k = 6 ∨ k = 8) : innerF (valF k a v) = a ++ signS k ++ escS v := by
  have e1 : ¬ (k == 7) = true := by simp only [beq_iff_eq]; omega
  have e2 : ¬ (k == 4) = true := by simp only [beq_iff_eq]; omega
  show (if (k == 7) = true then a ++ [61, 42] else if (k == 4) = true then a ++ [61] ++ escS [] ++ [42] ++ anyT [] ++ escS [] else a ++ signS k ++ escS v) = _
  rw [if_neg e1, if_neg e2]
theorem pieces_eq {U : List (List UInt8)} (h : 2 ≤ U.length) : U = U.getD 0 [] :: ((U.drop 1).take (U.length - 2) ++ [U.getD (U.length - 1) []]) := by
  match U, h with
  | x :: y :: l, _ =>
    simp only [List.getD_cons_zero, List.drop_succ_cons, List.drop_zero, List.length_cons, Nat.add_sub_cancel, List.cons.injEq, true_and]
    have h2 : ∀ (t : List (List UInt8)) (z : List UInt8), z :: t = ((z :: t).take t.length) ++ [(z :: t).getD t.length []] := by
      intro t
      induction t with
      | nil => intro z; rfl
      | cons w t ih =>
        intro z
        have := ih w
        simp only [List.length_cons, List.take_succ_cons, List.cons_append, List.getD_cons_succ]
        rw [← this]
    have := h2 l y
    simp at this ⊢
    try exact this
theorem rest_bound {a r : List UInt8} {s : List UInt8} (hs : a.length + r.length = s.length) : LeafB s (restF a r).1 (restF a r).2 := by
  unfold restF
  split
  · exact ⟨fun N h => up_val (k := 0) (by omega) (Nat.zero_le _), fun h => (by cases h), fun h => (by cases h)⟩
  · rename_i hp
    have hp : Lib.hasPrefix r [61] = true := by simpa using hp
    have hl := trim_len hp
    simp only [List.length_cons, List.length_nil] at hl
    split
    · rename_i hv
      rw [hv] at hl
      simp only [List.length_cons, List.length_nil] at hl
      refine ⟨fun N h => up_val (k := 7) (by omega) (Nat.zero_le _), fun _ => by simp [emptyF, Flt.kind], fun _ => ?_⟩
      show (a ++ [61, 42]).length ≤ _
      simp; omega
    · split
      · have t1 := tot_splitC 42 (Lib.trimPrefix r [61])
        have t2 := tot_unesc (splitC 42 (Lib.trimPrefix r [61]))
        have t3 : ((splitC 42 (Lib.trimPrefix r [61])).map fun p => (unesc p).1).length = (splitC 42 (Lib.trimPrefix r [61])).length := by simp
        have t4 : splitC 42 (Lib.trimPrefix r [61]) ≠ [] := splitC_ne _ _
        have t5 : 0 < (splitC 42 (Lib.trimPrefix r [61])).length := List.length_pos_iff.2 t4
        generalize hU : ((splitC 42 (Lib.trimPrefix r [61])).map fun p => (unesc p).1) = U at *
        simp only
        unfold piecesF
        split
        · rename_i h1
          have hm : (U.getD 0 []).length ≤ tot U := by
            match U, h1 with
            | [u], _ => simp [tot]
          refine ⟨fun N h => up_val (k := 3) (by omega) (by omega), fun _ => by simp [valF, Flt.kind], fun _ => ?_⟩
          rw [inner_val (.inl rfl)]
          have := escS_le (U.getD 0 [])
          simp only [List.length_append, signS]
          simp
          simp only [List.getD_eq_getElem?_getD] at *
          omega
        · rename_i h1
          have h2 : 2 ≤ U.length := by omega
          have he := pieces_eq h2
          generalize hx : U.getD 0 [] = x at *
          generalize hy : (U.drop 1).take (U.length - 2) = y at *
          generalize hz : U.getD (U.length - 1) [] = z at *
          have htot : tot U = x.length + (tot y + z.length) := by
            rw [he]; simp [tot]
          have hlen : U.length = y.length + 2 := by rw [he]; simp
          refine ⟨fun N h => .mk (by show a.length ≤ N; omega) (Nat.zero_le _) (by show x.length ≤ N; omega) (by show z.length ≤ N; omega) (by show y.length ≤ N; omega) (fun q hq => ?_) (Nat.zero_le _) (fun p h => by cases h), fun _ => by simp [Flt.kind], fun _ => ?_⟩
          · have := tot_mem (show q ∈ y from hq)
            omega
          · show (a ++ [61] ++ escS x ++ [42] ++ anyT y ++ escS z).length ≤ _
            have h3 := escS_le x
            have h4 := escS_le z
            have h5 := anyT_tot y
            simp only [List.length_append, List.length_cons, List.length_nil]
            omega
      · exact ⟨fun N h => up_val (k := 0) (by omega) (Nat.zero_le _), fun h => (by cases h), fun h => (by cases h)⟩
theorem sign_bound {a r : List UInt8} {s : List UInt8} (hs : a.length + r.length = s.length) : ∀ (ks : List Int), (∀ k ∈ ks, k = 5 ∨ k = 6 ∨ k = 8) → LeafB s (signF a r ks).1 (signF a r ks).2
  | [], _ => rest_bound hs
  | k :: ks, hk => by
    have hk1 := hk k (by simp)
    unfold signF
    split
    · rename_i hp
      have hl := trim_len hp
      have hu := unesc_len (Lib.trimPrefix r (signS k))
      have he := escS_le (unesc (Lib.trimPrefix r (signS k))).1
      have hs2 : (signS k).length = 2 := by rcases hk1 with rfl | rfl | rfl <;> rfl
      refine ⟨fun N h => up_val (by omega) (by omega), fun _ => by show ¬ (k = 0 ∨ k = 1 ∨ k = 2); omega, fun _ => ?_⟩
      rw [inner_val (.inr hk1)]
      simp only [List.length_append]
      omega
    · exact sign_bound hs ks fun x hx => hk x (by simp [hx])
theorem leaf_bound (s : List UInt8) : LeafB s (leafF s).1 (leafF s).2 := by
  have := attrLen_le s
  exact sign_bound (by simp; omega) [5, 6, 8] (by simp)

theorem cut_len {s : List UInt8} {c : UInt8} (h : (Lib.cut s [c]).2.2 = true) : (Lib.cut s [c]).1.length + 1 + (Lib.cut s [c]).2.1.length = s.length := by
  unfold Lib.cut at h ⊢
  split at h
  · rename_i h0
    have h1 : Lib.index s [c] < s.length := by
      rw [Lib.index_one] at h0 ⊢
      clear h
      induction s with
      | nil => simp [Lib.indexByte] at h0
      | cons x l ih =>
        have hg := Lib.indexByte_ge l c
        unfold Lib.indexByte at h0 ⊢
        split
        · simp
        · rename_i hx
          rw [if_neg hx] at h0
          split
          · rename_i h2; rw [if_pos h2] at h0; omega
          · rename_i h2
            rw [if_neg h2] at h0
            have := ih (by simp only [beq_iff_eq] at h2; omega)
            simp; omega
    rw [if_pos h0]
    simp
    omega
  · cases h
theorem kindC_ge {c : UInt8} (h : ¬ kindC c < 0) : kindC c = 0 ∨ kindC c = 1 ∨ kindC c = 2 := by
  have : ∀ n : Fin 256, ¬ kindC (UInt8.ofNat n.val) < 0 → kindC (UInt8.ofNat n.val) = 0 ∨ kindC (UInt8.ofNat n.val) = 1 ∨ kindC (UInt8.ofNat n.val) = 2 := by decide +kernel
  exact all_u8 (p := fun c => ¬ kindC c < 0 → kindC c = 0 ∨ kindC c = 1 ∨ kindC c = 2) this c h

theorem read_bound : ∀ (m : Nat),
    (∀ (n d : Nat) (s : List UInt8) (f : Flt) (r : List UInt8) (k : Nat), readO m n d s = some (f, r, k) → s.length ≤ 16384 → n ≤ 40 → k + 1 ≤ n ∧ r.length ≤ s.length ∧ f.Up 16385 ∧ (textF f).length + 3 * r.length ≤ 3 * s.length) ∧
    (∀ (n d : Nat) (s : List UInt8) (l : List Flt) (r : List UInt8) (k : Nat), loopO m n d s = some (l, r, k) → s.length ≤ 16384 → n ≤ 40 → k + l.length ≤ n ∧ r.length + 1 ≤ s.length ∧ (∀ p ∈ l, p.Up 16385) ∧ (textFs l).length + 3 * (r.length + 1) ≤ 3 * s.length)
  | 0 => ⟨fun n d s f r k h => by simp [readO] at h, fun n d s l r k h => by simp [loopO] at h⟩
  | m + 1 => by
    obtain ⟨ih1, ih2⟩ := read_bound m
    constructor
    · intro n d s f r k h hs hn
      cases n with
      | zero => simp [readO] at h
      | succ n =>
        match s, h, hs with
        | [], h, hs => simp [readO] at h
        | [b], h, hs => simp [readO] at h
        | b :: c :: t, h, hs =>
          rw [readO] at h
          split at h
          · cases h
          · split at h
            · cases h
            · split at h
              · rename_i hk
                split at h
                · rename_i hc
                  simp only [Bool.and_eq_true] at hc
                  simp only [Option.some.injEq, Prod.mk.injEq] at h
                  obtain ⟨rfl, rfl, rfl⟩ := h
                  have hl := cut_len hc.2
                  have hb := leaf_bound (Lib.cut (c :: t) [41]).1
                  have ht := hb.text hc.1
                  simp only [List.length_cons] at hl hs ⊢
                  refine ⟨Nat.le_refl _, by omega, hb.up 16385 (by omega), ?_⟩
                  rw [textF_leaf (hb.kind hc.1)]
                  simp only [List.length_cons, List.length_append, List.length_nil]
                  omega
                · cases h
              · rename_i hk
                split at h
                · rename_i ps r' k' hlo
                  simp only [Option.some.injEq, Prod.mk.injEq] at h
                  obtain ⟨rfl, rfl, rfl⟩ := h
                  simp only [List.length_cons] at hs ⊢
                  obtain ⟨h1, h2, h3, h4⟩ := ih2 n d t ps r' k' hlo (by omega) (by omega)
                  refine ⟨by omega, by omega, .mk (Nat.zero_le _) (Nat.zero_le _) (Nat.zero_le _) (Nat.zero_le _) (Nat.zero_le _) (fun s h => by cases h) (by show ps.length ≤ _; omega) h3, ?_⟩
                  rw [textF_node (f := ⟨kindC c, [], [], [], [], [], ps⟩) (kindC_ge hk)]
                  simp only [List.length_cons, List.length_append, List.length_nil]
                  show (textFs ps).length + 1 + 1 + 1 + _ ≤ _
                  omega
                · cases h
    · intro n d s l r k h hs hn
      rw [loopO] at h
      split at h
      · rename_i hh
        simp only [Option.some.injEq, Prod.mk.injEq] at h
        obtain ⟨rfl, rfl, rfl⟩ := h
        cases s with
        | nil => simp at hh
        | cons x t => simp [textFs]
      · split at h
        · rename_i p s' n' hr
          obtain ⟨h1, h2, h3, h4⟩ := ih1 n (d + 1) s p s' n' hr hs hn
          split at h
          · rename_i ps r' k' hlo
            simp only [Option.some.injEq, Prod.mk.injEq] at h
            obtain ⟨rfl, rfl, rfl⟩ := h
            obtain ⟨g1, g2, g3, g4⟩ := ih2 n' d s' ps r' k' hlo (by omega) (by omega)
            refine ⟨by simp; omega, by omega, fun q hq => ?_, ?_⟩
            · rcases List.mem_cons.1 hq with rfl | hq
              · exact h3
              · exact g3 q hq
            · simp only [textFs, List.length_append]
              omega
          · cases h
        · cases h
end Go.Abs

/- The reader: its run. -/
namespace Go.Abs
open Go Go.Proofs

/-- A reader's box. -/
def rdr (s : List UInt8) (n : Int) : Box := .cells [.d (.str s), .d (.int .i64 n)]
theorem call_r {O : Orc} {f : FuncId} {v r : DV} {s s' : List UInt8} {n n' : Int} {rest : List Box} {tau : List Nat} (h : O f [.bp 0 0, .d (canon2 v)] [rdr s n] = some (r, [rdr s' n'])) :
    evCall O false f [.bp 0 0, .d v] (rdr s n :: rest) tau = some (.d r, rdr s' n' :: rest, tau) := by
  unfold rdr at h ⊢
  simp [evCall, argVs, argV, idxB, boxesOut, boxOut, dvs, AV.dv, h, boxesIn]
def nckK (bs : List Box) (tau : List Nat) : AV → OpR
  | .bp b o => some (.bp b o, bs, tau) | .ep cs => some (.ep cs, bs, tau) | .fn f c => some (.fn f c, bs, tau) | _ => none
theorem bN :
    (∀ {O : Orc} {e bs tau x}, evR O e bs tau (.nck x) = nckK bs tau (x.ev e)) ∧ (∀ {bs tau b o}, nckK bs tau (.bp b o) = some (.bp b o, bs, tau)) := by
  refine ⟨?_, fun {bs tau b o} => rfl⟩
  intros; rfl
theorem bRdr :
    (∀ {s n r tau}, ldK false 1 (rdr s n :: r) tau (.bp 0 0) = some (.d (.str s), rdr s n :: r, tau)) ∧
    (∀ {s n r tau}, ldK false 1 (rdr s n :: r) tau (.bp 0 1) = some (.d (.int .i64 n), rdr s n :: r, tau)) ∧
    (∀ {s n r tau t}, stK 1 (rdr s n :: r) tau (.bp 0 0) (.d (.str t)) = some (.junk, rdr t n :: r, tau)) ∧
    (∀ {s n r tau k}, stK 1 (rdr s n :: r) tau (.bp 0 1) (.d (.int .i64 k)) = some (.junk, rdr s k :: r, tau)) :=
  ⟨rfl, rfl, rfl, rfl⟩

theorem run92 (c : UInt8) (s : List UInt8) (n : Int) : TU 92 [.bp 0 0, .d (.int .u8 c.toNat)] [rdr s n] = some (.bool (s.head? == some c), [rdr (if s.head? = some c then s.tail else s) n]) := by
  refine oku92.run ?_
  have fin : ∀ {b t e tau}, finish [.t 0] 1 (some (.rt, .d (.bool b) :: e, [rdr t n], tau)) = some (.bool b, [rdr t n]) := by intros; rfl
  cases s with
  | nil =>
    simp only [bu92]
    simp only [bC, bO, bV, bF, bL, bFlt, bRdr, bN, grdK, cndK, if_true, if_false, Bool.false_eq_true, Bool.true_eq_false, reduceIte, beq_self_eq_true, List.length_nil, fin]
    rfl
  | cons x t =>
    have ix : ∀ bs tau, ixsK bs tau (.d (.str (x :: t))) (.d (.int .i64 0)) = some (.d (.int .u8 x.toNat), bs, tau) := by intros; rfl
    have e0 : ((x :: t) == ([] : List UInt8)) = false := rfl
    have sl : ∀ {bs tau e}, slsK bs tau e (some (.d (.int .i64 1))) none (.d (.str (x :: t))) = some (.d (.str t), bs, tau) := by
      intros; simp [slsK, bound, Opd.ev, asIx]
    by_cases h : x = c
    · subst h
      have e1 : ((x.toNat : Int) != x.toNat) = false := by simp
      simp only [bu92]
      simp only [bC, bO, bV, bF, bL, bM, bFlt, bRdr, bN, ix, sl, e0, e1, grdK, cndK, if_true, if_false, Bool.false_eq_true, Bool.true_eq_false, reduceIte, beq_self_eq_true, List.length_nil, fin]
      simp
    · have e1 : ((x.toNat : Int) != c.toNat) = true := by
        have : x.toNat ≠ c.toNat := fun e => h (UInt8.toNat_inj.1 e)
        simp; omega
      simp only [bu92]
      simp only [bC, bO, bV, bF, bL, bM, bFlt, bRdr, bN, ix, sl, e0, e1, grdK, cndK, if_true, if_false, Bool.false_eq_true, Bool.true_eq_false, reduceIte, beq_self_eq_true, List.length_nil, fin]
      simp [h]

/-- The box that is filled: of kind k, with parts. -/
def pbox (k : Int) (l : List Flt) : Box := .cells [.d (.int .i64 k), .d (.str []), .d (.str []), .d (.str []), .d (.str []), .d (.nils 0), ownP [] 33 7 (l.map encF)]
theorem p_ld {x : Box} {k : Int} {l : List Flt} {r : List Box} {tau : List Nat} : ldK false 1 (x :: pbox k l :: r) tau (.bp 1 6) = some (ownP [] 33 7 (l.map encF), x :: pbox k l :: r, tau) := rfl
theorem p_st {x : Box} {k : Int} {l l' : List Flt} {r : List Box} {tau : List Nat} : stK 1 (x :: pbox k l :: r) tau (.bp 1 6) (ownP [] 33 7 (l'.map encF)) = some (.junk, x :: pbox k l' :: r, tau) := by
  cases l' <;> rfl
theorem p_ldd {x : Box} {k : Int} {l : List Flt} {r : List Box} {tau : List Nat} : ∃ x6, ldK true 7 (x :: pbox k l :: r) tau (.bp 1 0) = some (.d (.agg [.int .i64 k, .str [], .str [], .str [], .str [], .nils 0, x6]), x :: pbox k l :: r, tau) ∧ canon1 x6 = slc 7 (l.map encF) := by
  obtain ⟨x6, hx, hc⟩ := @ownP_dv [] 33 7 (l.map encF)
  refine ⟨x6, ?_, hc⟩
  have h : dvs [.d (.int .i64 k), .d (.str []), .d (.str []), .d (.str []), .d (.str []), .d (.nils 0), ownP [] 33 7 (l.map encF)] = some [.int .i64 k, .str [], .str [], .str [], .str [], .nils 0, x6] := by simp only [dvs, AV.dv] at hx ⊢; simp only [hx]
  have h2 : ldK true 7 (x :: pbox k l :: r) tau (.bp 1 0) = optAV (match dvs [.d (.int .i64 k), .d (.str []), .d (.str []), .d (.str []), .d (.str []), .d (.nils 0), ownP [] 33 7 (l.map encF)] with | some l => some (.d (.agg l)) | none => none) (x :: pbox k l :: r) tau := rfl
  rw [h2, h]
  rfl
/-- What is handed back. -/
theorem p_fin {s : List UInt8} {n k : Int} {l : List Flt} {x6 : DV} (hc : canon1 x6 = slc 7 (l.map encF)) {b : Bool} {e : Env} {r : List Box} {tau : List Nat} :
    finish [.cell 0 true 7, .t 1] 1 (some (.rt, .bp 1 0 :: .d (.bool b) :: e, rdr s n :: .cells [.d (.int .i64 k), .d (.str []), .d (.str []), .d (.str []), .d (.str []), .d (.nils 0), .d x6] :: r, tau)) =
      some (.tup [encF ⟨k, [], [], [], [], [], l⟩, .bool b], [rdr s n]) := by
  have h : finish [.cell 0 true 7, .t 1] 1 (some (.rt, .bp 1 0 :: .d (.bool b) :: e, rdr s n :: .cells [.d (.int .i64 k), .d (.str []), .d (.str []), .d (.str []), .d (.str []), .d (.nils 0), .d x6] :: r, tau)) =
      some (canon (.tup [.agg [.int .i64 k, .str [], .str [], .str [], .str [], .nils 0, x6], .bool b]), [rdr s n]) := rfl
  rw [h, encF_eq]
  simp only [canon, List.map_cons, List.map_nil, canon2, hc]
  rfl
theorem p_fin2 {s : List UInt8} {n : Int} {f : Flt} {b : Bool} {e : Env} {r : List Box} {tau : List Nat} :
    finish [.cell 0 true 7, .t 1] 1 (some (.rt, .bp 1 0 :: .d (.bool b) :: e, rdr s n :: fbox f :: r, tau)) = some (.tup [encF f, .bool b], [rdr s n]) := by
  have h : finish [.cell 0 true 7, .t 1] 1 (some (.rt, .bp 1 0 :: .d (.bool b) :: e, rdr s n :: fbox f :: r, tau)) = some (canon (.tup [encF f, .bool b]), [rdr s n]) := by
    unfold fbox; rw [encF_eq]; rfl
  rw [h]
  simp only [canon, List.map_cons, List.map_nil, encF_canon2]
  rfl
/-- The boxes: a filter is stored, read, whole. -/
theorem bPb :
    (∀ {x k l r tau k'}, stK 1 (x :: pbox k l :: r) tau (.bp 1 0) (.d (.int .i64 k')) = some (.junk, x :: pbox k' l :: r, tau)) ∧
    (∀ {x k l r tau}, ldK false 1 (x :: pbox k l :: r) tau (.bp 1 0) = some (.d (.int .i64 k), x :: pbox k l :: r, tau)) ∧
    (∀ {x k l r tau f}, stK 7 (x :: pbox k l :: r) tau (.bp 1 0) (.d (encF f)) = some (.junk, x :: fbox f :: r, tau)) ∧
    (∀ {x f r tau g}, stK 7 (x :: fbox f :: r) tau (.bp 1 0) (.d (encF g)) = some (.junk, x :: fbox g :: r, tau)) ∧
    (∀ {x y f r tau}, ldK true 7 (x :: y :: fbox f :: r) tau (.bp 2 0) = some (.d (encF f), x :: y :: fbox f :: r, tau)) ∧
    (∀ {x y f r tau}, stK 7 (x :: y :: .cells [.d (.int .i64 0), .d (.str []), .d (.str []), .d (.str []), .d (.str []), .d (.nils 0), .d (.nils 0)] :: r) tau (.bp 2 0) (.d (encF f)) = some (.junk, x :: y :: fbox f :: r, tau)) ∧
    (∀ {x y f r tau}, stK 7 (x :: y :: .cells ([DV.int .i64 0, .str [], .str [], .str [], .str [], .nils 0, .nils 0].map .d) :: r) tau (.bp 2 0) (.d (encF f)) = some (.junk, x :: y :: fbox f :: r, tau)) := by
  refine ⟨rfl, rfl, ?_, ?_, ?_, ?_, ?_⟩
  all_goals intros
  all_goals unfold fbox
  all_goals (repeat rw [encF_eq])
  all_goals rfl

def ReadR (o : Option (Flt × List UInt8 × Nat)) (x : Option (DV × List Box)) : Prop :=
  match o with
  | some (f, r, k) => x = some (.tup [encF f, .bool true], [rdr r k])
  | none => ∃ f r k, x = some (.tup [encF f, .bool false], [rdr r k])
def LoopR (k0 : Int) (l : List Flt) (o : Option (List Flt × List UInt8 × Nat)) (x : Res) : Prop :=
  match o with
  | some (ps, r, k) => x = some (.ex 0, [.bp 1 0], [rdr r k, pbox k0 (l ++ ps)], ownPT [] ((l ++ ps).map encF))
  | none => ∃ (l' : List Flt) (r : List UInt8) (k : Int) (x6 : DV) (bs : List Box) (tau : List Nat), canon1 x6 = slc 7 (l'.map encF) ∧ x = some (.rt, [.bp 1 0, .d (.bool false)], rdr r k :: .cells [.d (.int .i64 k0), .d (.str []), .d (.str []), .d (.str []), .d (.str []), .d (.nils 0), .d x6] :: bs, tau)

theorem loop51 (k0 : Int) : ∀ (m n d : Nat) (s : List UInt8) (l : List Flt), (∀ (m' n' : Nat) (s' : List UInt8), m' < m → 2 * n' + 1 ≤ m' → n' ≤ n → s'.length ≤ 16384 → ReadR (readO m' n' (d + 1) s') (TU 51 [.bp 0 0, .d (.int .i64 (d + 1 : Nat))] [rdr s' n'])) → 2 * n + 2 ≤ m → n ≤ 40 → l.length + n ≤ 40 → d ≤ 20 → s.length ≤ 16384 →
    LoopR k0 l (loopO m n d s) (DnB TU (.loop bu51L0) [.bp 0 0, .d (.int .i64 d), .bp 1 0] [rdr s n, pbox k0 l] (ownPT [] (l.map encF))) := by
  intro m
  induction m with
  | zero => intro n d s l _ h; omega
  | succ m ih =>
    intro n d s l H hm hn hln hd hs
    have c92 : ∀ {r tau}, evCall TU false 92 [.bp 0 0, .d (.int .u8 41)] (rdr s n :: r) tau = some (.d (.bool (s.head? == some 41)), rdr (if s.head? = some 41 then s.tail else s) n :: r, tau) := call_r (run92 41 s n)
    have hw : IntKind.i64.wrap ((d : Int) + 1) = ((d + 1 : Nat) : Int) := by rw [wrap_s (by omega)]; omega
    rw [loopO]
    by_cases hh : s.head? = some 41
    · rw [if_pos hh]
      have hb : (s.head? == some 41) = true := by rw [hh]; rfl
      have e : LoopR k0 l (some ([], s.tail, n)) = fun x => x = some (.ex 0, [.bp 1 0], [rdr s.tail n, pbox k0 l], ownPT [] (l.map encF)) := by
        unfold LoopR
        simp only [List.append_nil]
      rw [L_loopU bu51L0_eq]
      simp only [bu51B0]
      rw [hb, if_pos hh] at c92
      simp only [LoopR, List.append_nil]
      simp only [bC, bO, bV, bF, bL, c92, grdK, cndK, if_true, if_false, Bool.false_eq_true, Bool.true_eq_false, reduceIte, Bool.not_true, Bool.not_false]
    · rw [if_neg hh]
      have hb : (s.head? == some 41) = false := by
        cases h : s.head? with
        | none => rfl
        | some x =>
          rw [h] at hh
          have : x ≠ 41 := fun e => hh (by rw [e])
          simpa using this
      rw [hb, if_neg hh] at c92
      have hr := H m n s (by omega) (by omega) (Nat.le_refl _) hs
      cases hread : readO m n (d + 1) s with
      | none =>
        rw [hread] at hr
        obtain ⟨f, r, k, hr⟩ := hr
        have c51 : ∀ {r' tau}, evCall TU false 51 [.bp 0 0, .d (.int .i64 (d + 1 : Nat))] (rdr s n :: r') tau = some (.d (.tup [encF f, .bool false]), rdr r k :: r', tau) := call_r hr
        have x0 : ∀ {bs tau}, extK 0 bs tau (.d (.tup [encF f, .bool false])) = some (.d (encF f), bs, tau) := rfl
        have x1 : ∀ {bs tau}, extK 1 bs tau (.d (.tup [encF f, .bool false])) = some (.d (.bool false), bs, tau) := rfl
        obtain ⟨x6, hld, hc⟩ := @p_ldd (rdr r k) k0 l [fbox f] (ownPT [] (l.map encF))
        have s2 : ∀ {x : Box} {r tau}, stK 7 (x :: pbox k0 l :: r) tau (.bp 1 0) (.d (.agg [.int .i64 k0, .str [], .str [], .str [], .str [], .nils 0, x6])) = some (.junk, x :: .cells [.d (.int .i64 k0), .d (.str []), .d (.str []), .d (.str []), .d (.str []), .d (.nils 0), .d x6] :: r, tau) := rfl
        rw [L_loopU bu51L0_eq]
        simp only [bu51B0]
        refine ⟨l, r, k, x6, [fbox f], ownPT [] (l.map encF), hc, ?_⟩
        simp only [bC, bO, bV, bF, bL, bFlt, bPb, bN, c92, c51, hw, x0, x1, hld, s2, grdK, cndK, if_true, if_false, Bool.false_eq_true, Bool.true_eq_false, reduceIte, Bool.not_true, Bool.not_false]
      | some v =>
        obtain ⟨p, s', n'⟩ := v
        rw [hread] at hr
        have c51 : ∀ {r' tau}, evCall TU false 51 [.bp 0 0, .d (.int .i64 (d + 1 : Nat))] (rdr s n :: r') tau = some (.d (.tup [encF p, .bool true]), rdr s' n' :: r', tau) := call_r hr
        have x0 : ∀ {bs tau}, extK 0 bs tau (.d (.tup [encF p, .bool true])) = some (.d (encF p), bs, tau) := rfl
        have x1 : ∀ {bs tau}, extK 1 bs tau (.d (.tup [encF p, .bool true])) = some (.d (.bool true), bs, tau) := rfl
        obtain ⟨b1, b2, _, _⟩ := (read_bound m).1 n (d + 1) s p s' n' hread hs hn
        have ih := ih n' d s' (l ++ [p]) (fun m' k' q h1 h2 h3 h4 => H m' k' q (by omega) h2 (by omega) h4) (by omega) (by omega) (by simp; omega) hd (by omega)
        have ap : ∀ {bs}, appK 33 7 bs (ownPT [] (l.map encF)) (ownP [] 33 7 (l.map encF)) (.d (.slice 7 [encF p])) = some (ownP [] 33 7 ((l ++ [p]).map encF), bs, ownPT [] ((l ++ [p]).map encF)) := by
          intro bs
          rw [List.map_append]
          exact app_ownP (by simp [elemsOf]) (by simp) (by simp only [List.length_map, List.length_cons, List.length_nil, maxLenN]; omega)
        suffices h : LoopR k0 (l ++ [p]) (loopO m n' d s') (DnB TU (.loop bu51L0) [.bp 0 0, .d (.int .i64 d), .bp 1 0] [rdr s n, pbox k0 l] (ownPT [] (l.map encF))) by
          cases hlo : loopO m n' d s' with
          | none =>
            rw [hlo] at h
            simp only [hlo]
            exact h
          | some v =>
            obtain ⟨ps, r, k⟩ := v
            rw [hlo] at h
            simp only [hlo]
            simp only [LoopR, List.append_assoc, List.cons_append, List.nil_append] at h ⊢
            exact h
        rw [L_loopU bu51L0_eq]
        simp only [bu51B0]
        simp only [bC, bO, bV, bF, bL, bFlt, bPb, bN, R_mks, List.map_cons, List.map_nil, mks_f, p_ld, p_st, ap, c92, c51, hw, x0, x1, grdK, cndK, if_true, if_false, Bool.false_eq_true, Bool.true_eq_false, reduceIte, Bool.not_true, Bool.not_false]
        exact ih

theorem run94 (s p : List UInt8) (hs : s.length ≤ 1073741824) : TU 94 [.d (.str s), .d (.str p)] [] = some (.tup [.str (Lib.cut s p).1, .str (Lib.cut s p).2.1, .bool (Lib.cut s p).2.2], []) := by
  refine Run_prim (T := Tab.of Tryz.prog prims1) rfl ?_
  simp only [pCut]
  rw [if_pos (show s.length ≤ maxLenN from hs)]
theorem run95 (s : List UInt8) (hs : s.length ≤ 16384) : TU 95 [.d (.str s)] [] = some (.tup [encF (leafF s).1, .bool (leafF s).2], []) := by
  refine Run_prim (T := Tab.of Tryz.prog prims1) rfl ?_
  simp only [pLeaf]
  rw [if_pos hs]
theorem run93' (s : List UInt8) (hs : s.length ≤ 1073741824) (c : UInt8) : TU 93 [.d (.str s), .d (.int .u8 c.toNat)] [] = some (.int .i64 (idxByte c s 0), []) := lift1 _ _ _ _ (run93 s hs c)
theorem cut_fst (s p : List UInt8) : (Lib.cut s p).1.length ≤ s.length := by
  unfold Lib.cut
  split
  · simp; omega
  · exact Nat.le_refl _

theorem run51 : ∀ (m n d : Nat) (s : List UInt8), 2 * n + 1 ≤ m → n ≤ 40 → d ≤ 21 → s.length ≤ 16384 → ReadR (readO m n d s) (TU 51 [.bp 0 0, .d (.int .i64 d)] [rdr s n])
  | 0, n, d, s, hm, _, _, _ => by omega
  | m + 1, n, d, s, hm, hn, hd, hs => by
    have zb : ∀ {x : Box}, [x, .cells ([DV.int .i64 0, .str [], .str [], .str [], .str [], .nils 0, .nils 0].map .d)] = [x, pbox 0 []] := by intros; rfl
    have zl : ∀ {x : Box} {k r tau}, ldK true 7 (x :: pbox k [] :: r) tau (.bp 1 0) = some (.d (.agg [.int .i64 k, .str [], .str [], .str [], .str [], .nils 0, .nils 0]), x :: pbox k [] :: r, tau) := by intros; rfl
    have zs : ∀ {x : Box} {k r tau}, stK 7 (x :: pbox k [] :: r) tau (.bp 1 0) (.d (.agg [.int .i64 k, .str [], .str [], .str [], .str [], .nils 0, .nils 0])) = some (.junk, x :: pbox k [] :: r, tau) := by intros; rfl
    have zfin : ∀ {s n k b e r tau}, finish [.cell 0 true 7, .t 1] 1 (some (.rt, .bp 1 0 :: .d (.bool b) :: e, rdr s n :: pbox k [] :: r, tau)) = some (.tup [encF ⟨k, [], [], [], [], [], []⟩, .bool b], [rdr s n]) := by
      intro s n k b e r tau; exact p_fin (s := s) (n := n) (k := k) (b := b) (e := e) (r := r) (tau := tau) (x6 := .nils 0) (l := []) rfl
    cases n with
    | zero =>
      have hw : IntKind.i64.wrap (((0 : Nat) : Int) - 1) = -1 := by decide
      have hl : ((-1 : Int) < 0) := by decide
      have e : readO (m + 1) 0 d s = none := by simp [readO]
      rw [e]
      refine ⟨⟨0, [], [], [], [], [], []⟩, s, -1, oku51.run (f := 51) ?_⟩
      · simp only [bu51]
        simp only [bC, bO, bV, bF, bL, bM, bFlt, bRdr, bN, bPb, zb, zl, zs, zfin, List.length_nil, List.length_cons, grdK, cndK, if_true, if_false, Bool.false_eq_true, Bool.true_eq_false, reduceIte, Bool.not_true, Bool.not_false, decide_true, decide_false, beq_self_eq_true, hw, hl]
    | succ n =>
      have hw : IntKind.i64.wrap (((n + 1 : Nat) : Int) - 1) = (n : Int) := by rw [wrap_s (by omega)]; omega
      have hl : ¬ ((n : Int) < 0) := by omega
      by_cases hd2 : 20 < d
      · have hdi : (20 : Int) < (d : Int) := by omega
        have e : readO (m + 1) (n + 1) d s = none := by
          match s with
          | [] => simp [readO]
          | [b] => simp [readO]
          | b :: c :: t => simp [readO, hd2]
        rw [e]
        refine ⟨⟨0, [], [], [], [], [], []⟩, s, n, oku51.run (f := 51) ?_⟩
        simp only [bu51]
        simp only [bC, bO, bV, bF, bL, bM, bFlt, bRdr, bN, bPb, zb, zl, zs, zfin, List.length_nil, List.length_cons, grdK, cndK, if_true, if_false, Bool.false_eq_true, Bool.true_eq_false, reduceIte, Bool.not_true, Bool.not_false, decide_true, decide_false, beq_self_eq_true, hw, hl, hdi]
      · have hdi : ¬ (20 : Int) < (d : Int) := by omega
        have c92 : ∀ {r tau}, evCall TU false 92 [.bp 0 0, .d (.int .u8 40)] (rdr s n :: r) tau = some (.d (.bool (s.head? == some 40)), rdr (if s.head? = some 40 then s.tail else s) n :: r, tau) := call_r (run92 40 s n)
        by_cases hh : s.head? = some 40
        · obtain ⟨t, rfl⟩ : ∃ t, s = 40 :: t := by
            cases s with
            | nil => simp at hh
            | cons x t => simp at hh; exact ⟨t, by rw [hh]⟩
          have c92 : ∀ {r tau}, evCall TU false 92 [.bp 0 0, .d (.int .u8 40)] (rdr (40 :: t) n :: r) tau = some (.d (.bool true), rdr t n :: r, tau) := c92
          cases t with
          | nil =>
            have e : readO (m + 1) (n + 1) d [40] = none := by simp [readO]
            rw [e]
            refine ⟨⟨0, [], [], [], [], [], []⟩, [], n, oku51.run (f := 51) ?_⟩
            simp only [bu51]
            simp only [bC, bO, bV, bF, bL, bM, bFlt, bRdr, bN, bPb, zb, zl, zs, zfin, List.length_nil, List.length_cons, grdK, cndK, if_true, if_false, Bool.false_eq_true, Bool.true_eq_false, reduceIte, Bool.not_true, Bool.not_false, decide_true, decide_false, beq_self_eq_true, hw, hl, hdi, c92]
          | cons c t =>
            have e0 : ((c :: t) == ([] : List UInt8)) = false := rfl
            have ix : ∀ {bs tau}, ixsK bs tau (.d (.str (c :: t))) (.d (.int .i64 0)) = some (.d (.int .u8 c.toNat), bs, tau) := by intros; rfl
            have c93 : ∀ {bs tau}, evCall TU false 93 [.d (.str [38, 124, 33]), .d (.int .u8 c.toNat)] bs tau = some (.d (.int .i64 (kindC c)), bs, tau) := call_d rfl (run93' [38, 124, 33] (by simp) c)
            have sl : ∀ {bs tau e}, slsK bs tau e (some (.d (.int .i64 1))) none (.d (.str (c :: t))) = some (.d (.str t), bs, tau) := by
              intros; simp [slsK, bound, Opd.ev, asIx]
            simp only [List.length_cons] at hs
            by_cases hk : kindC c < 0
            · have c94 : ∀ {bs tau}, evCall TU false 94 [.d (.str (c :: t)), .d (.str [41])] bs tau = some (.d (.tup [.str (Lib.cut (c :: t) [41]).1, .str (Lib.cut (c :: t) [41]).2.1, .bool (Lib.cut (c :: t) [41]).2.2]), bs, tau) :=
                call_d rfl (run94 (c :: t) [41] (by simp only [List.length_cons]; omega))
              have hcl := cut_fst (c :: t) [41]
              simp only [List.length_cons] at hcl
              have e : readO (m + 1) (n + 1) d (40 :: c :: t) = if (leafF (Lib.cut (c :: t) [41]).1).2 && (Lib.cut (c :: t) [41]).2.2 then some ((leafF (Lib.cut (c :: t) [41]).1).1, (Lib.cut (c :: t) [41]).2.1, n) else none := by
                rw [readO, if_neg hd2]
                simp only [ne_eq, not_true_eq_false, if_false]
                rw [if_pos hk]
              rw [e]
              generalize Lib.cut (c :: t) [41] = x at *
              obtain ⟨it, rest, has⟩ := x
              have c95 : ∀ {bs tau}, evCall TU false 95 [.d (.str it)] bs tau = some (.d (.tup [encF (leafF it).1, .bool (leafF it).2]), bs, tau) := call_d rfl (run95 it (by simp only at hcl; omega))
              generalize leafF it = y at *
              obtain ⟨f, ok⟩ := y
              have x0 : ∀ {bs tau}, extK 0 bs tau (.d (.tup [.str it, .str rest, .bool has])) = some (.d (.str it), bs, tau) := rfl
              have x1 : ∀ {bs tau}, extK 1 bs tau (.d (.tup [.str it, .str rest, .bool has])) = some (.d (.str rest), bs, tau) := rfl
              have x2 : ∀ {bs tau}, extK 2 bs tau (.d (.tup [.str it, .str rest, .bool has])) = some (.d (.bool has), bs, tau) := rfl
              have y0 : ∀ {bs tau}, extK 0 bs tau (.d (.tup [encF f, .bool ok])) = some (.d (encF f), bs, tau) := rfl
              have y1 : ∀ {bs tau}, extK 1 bs tau (.d (.tup [encF f, .bool ok])) = some (.d (.bool ok), bs, tau) := rfl
              have run : TU 51 [.bp 0 0, .d (.int .i64 d)] [rdr (40 :: c :: t) (n + 1 : Nat)] = some (.tup [encF f, .bool (ok && has)], [rdr rest n]) := by
                refine oku51.run (f := 51) ?_
                simp only [bu51]
                simp only [bC, bO, bV, bF, bL, bM, bFlt, bRdr, bN, bPb, zb, zl, zs, zfin, List.length_nil, List.length_cons, grdK, cndK, if_true, if_false, Bool.false_eq_true, Bool.true_eq_false, reduceIte, Bool.not_true, Bool.not_false, decide_true, decide_false, beq_self_eq_true, hw, hl, hdi, c92, e0, ix, c93, hk, c94, c95, x0, x1, x2, y0, y1]
                cases ok
                · simp only [bC, bO, bV, bF, bL, bM, bFlt, bRdr, bN, bPb, zb, zl, zs, zfin, List.length_nil, List.length_cons, grdK, cndK, if_true, if_false, Bool.false_eq_true, Bool.true_eq_false, reduceIte, Bool.not_true, Bool.not_false, decide_true, decide_false, beq_self_eq_true, p_fin2]
                  rfl
                · simp only [bC, bO, bV, bF, bL, bM, bFlt, bRdr, bN, bPb, zb, zl, zs, zfin, List.length_nil, List.length_cons, grdK, cndK, if_true, if_false, Bool.false_eq_true, Bool.true_eq_false, reduceIte, Bool.not_true, Bool.not_false, decide_true, decide_false, beq_self_eq_true, p_fin2]
                  rfl
              simp only
              cases h : (ok && has) with
              | true => rw [h] at run; simp only [if_true]; exact run
              | false => rw [h] at run; simp only [Bool.false_eq_true, if_false]; exact ⟨_, _, _, run⟩
            · have lp := loop51 (kindC c) m n d t [] (fun m' n' s' h1 h2 h3 h4 => run51 m' n' (d + 1) s' h2 (by omega) (by omega) h4) (by omega) (by omega) (by simp only [List.length_nil]; omega) (by omega) (by omega)
              have lp : LoopR (kindC c) [] (loopO m n d t) (DnB TU (.loop bu51L0) [.bp 0 0, .d (.int .i64 d), .bp 1 0] [rdr t n, pbox (kindC c) []] []) := lp
              cases hlo : loopO m n d t with
              | none =>
                rw [hlo] at lp
                obtain ⟨l', r, k, x6, bs, tau, hc, hx⟩ := lp
                have e : readO (m + 1) (n + 1) d (40 :: c :: t) = none := by
                  rw [readO, if_neg hd2]
                  simp only [ne_eq, not_true_eq_false, if_false]
                  rw [if_neg hk, hlo]
                rw [e]
                refine ⟨⟨kindC c, [], [], [], [], [], l'⟩, r, k, oku51.run (f := 51) ?_⟩
                simp only [bu51]
                simp only [bC, bO, bV, bF, bL, bM, bFlt, bRdr, bN, bPb, zb, zl, zs, zfin, List.length_nil, List.length_cons, grdK, cndK, if_true, if_false, Bool.false_eq_true, Bool.true_eq_false, reduceIte, Bool.not_true, Bool.not_false, decide_true, decide_false, beq_self_eq_true, hw, hl, hdi, c92, e0, ix, c93, hk, sl, hx, p_fin hc]
              | some v =>
                obtain ⟨ps, r, k⟩ := v
                rw [hlo] at lp
                have lp : DnB TU (.loop bu51L0) [.bp 0 0, .d (.int .i64 d), .bp 1 0] [rdr t n, pbox (kindC c) []] [] = some (.ex 0, [.bp 1 0], [rdr r k, pbox (kindC c) ps], ownPT [] (ps.map encF)) := lp
                obtain ⟨x6, hld, hc⟩ := @p_ldd (rdr r k) (kindC c) ps [] (ownPT [] (ps.map encF))
                have s2 : ∀ {x : Box} {r tau}, stK 7 (x :: pbox (kindC c) ps :: r) tau (.bp 1 0) (.d (.agg [.int .i64 (kindC c), .str [], .str [], .str [], .str [], .nils 0, x6])) = some (.junk, x :: .cells [.d (.int .i64 (kindC c)), .d (.str []), .d (.str []), .d (.str []), .d (.str []), .d (.nils 0), .d x6] :: r, tau) := rfl
                have e : readO (m + 1) (n + 1) d (40 :: c :: t) = some (⟨kindC c, [], [], [], [], [], ps⟩, r, k) := by
                  rw [readO, if_neg hd2]
                  simp only [ne_eq, not_true_eq_false, if_false]
                  rw [if_neg hk, hlo]
                rw [e]
                refine oku51.run (f := 51) ?_
                simp only [bu51]
                simp only [bC, bO, bV, bF, bL, bM, bFlt, bRdr, bN, bPb, zb, zl, zs, zfin, List.length_nil, List.length_cons, grdK, cndK, if_true, if_false, Bool.false_eq_true, Bool.true_eq_false, reduceIte, Bool.not_true, Bool.not_false, decide_true, decide_false, beq_self_eq_true, hw, hl, hdi, c92, e0, ix, c93, hk, sl, lp, hld, s2, p_fin hc]
        · have hb : (s.head? == some 40) = false := by
            cases h : s.head? with
            | none => rfl
            | some x =>
              rw [h] at hh
              have : x ≠ 40 := fun e => hh (by rw [e])
              simpa using this
          rw [hb, if_neg hh] at c92
          have e : readO (m + 1) (n + 1) d s = none := by
            match s, hh with
            | [], _ => simp [readO]
            | [b], _ => simp [readO]
            | b :: c :: t, hh =>
              have : b ≠ 40 := fun e => hh (by rw [e]; rfl)
              simp [readO, this]
          rw [e]
          refine ⟨⟨0, [], [], [], [], [], []⟩, s, n, oku51.run (f := 51) ?_⟩
          simp only [bu51]
          simp only [bC, bO, bV, bF, bL, bM, bFlt, bRdr, bN, bPb, zb, zl, zs, zfin, List.length_nil, List.length_cons, grdK, cndK, if_true, if_false, Bool.false_eq_true, Bool.true_eq_false, reduceIte, Bool.not_true, Bool.not_false, decide_true, decide_false, beq_self_eq_true, hw, hl, hdi, c92]
termination_by m => m
end Go.Abs

/- Pieces that follow one another are found: the plain law. -/
namespace Go.Abs
open Go

/-- Each piece is looked for behind the one before. -/
def cutAll : List (List UInt8) → List UInt8 → Bool
  | [], _ => true
  | p :: ps, t => (Lib.cut t p).2.2 && cutAll ps (Lib.cut t p).2.1
def piecesB (s x l : List UInt8) (ps : List (List UInt8)) : Bool :=
  Lib.hasPrefix s x && (Lib.hasSuffix (Lib.trimPrefix s x) l && cutAll ps (Lib.trimSuffix (Lib.trimPrefix s x) l))

/-- The pieces stand in a text, one behind the other. -/
def Has : List (List UInt8) → List UInt8 → Prop
  | [], _ => True
  | p :: ps, t => ∃ x y, t = x ++ (p ++ y) ∧ Has ps y
theorem Has_ext : ∀ {ps : List (List UInt8)} {z y : List UInt8}, Has ps y → Has ps (z ++ y)
  | [], _, _, _ => trivial
  | p :: ps, z, y, h => by
    obtain ⟨a, b, rfl, h⟩ := h
    exact ⟨z ++ a, b, by simp, h⟩
theorem index_occ : ∀ (x : Nat) (t p : List UInt8), p.isPrefixOf (t.drop x) = true → x ≤ t.length → 0 ≤ Lib.index t p ∧ Lib.index t p ≤ x
  | 0, t, p, h, _ => by
    cases t with
    | nil =>
      have : p = [] := by
        cases p with
        | nil => rfl
        | cons c p => simp [List.isPrefixOf] at h
      subst this
      simp [Lib.index]
    | cons b l =>
      simp only [List.drop_zero] at h
      simp only [Lib.index]
      rw [if_pos h]
      omega
  | x + 1, t, p, h, hx => by
    cases t with
    | nil => simp at hx
    | cons b l =>
      simp only [List.drop_succ_cons] at h
      have ih := index_occ x l p h (by simpa using hx)
      simp only [Lib.index]
      split
      · omega
      · rw [if_neg (by simp only [beq_iff_eq]; omega)]
        omega
theorem cutAll_has : ∀ {ps : List (List UInt8)} {t : List UInt8}, Has ps t → cutAll ps t = true
  | [], _, _ => rfl
  | p :: ps, t, h => by
    obtain ⟨x, y, rfl, h⟩ := h
    have h1 := index_occ x.length (x ++ (p ++ y)) p (by
      rw [List.drop_left]
      exact List.isPrefixOf_iff_prefix.2 ⟨y, rfl⟩) (by simp)
    have e : Lib.cut (x ++ (p ++ y)) p = ((x ++ (p ++ y)).take (Lib.index (x ++ (p ++ y)) p).toNat, (x ++ (p ++ y)).drop ((Lib.index (x ++ (p ++ y)) p).toNat + p.length), true) := by
      unfold Lib.cut
      rw [if_pos h1.1]
    simp only [cutAll, e, Bool.true_and]
    apply cutAll_has
    generalize hi : (Lib.index (x ++ (p ++ y)) p).toNat = i at *
    have hle : i ≤ x.length := by omega
    have e2 : (x ++ (p ++ y)).drop (i + p.length) = ((x ++ p).drop (i + p.length)) ++ y := by
      rw [← List.append_assoc, List.drop_append_of_le_length (by simp; omega)]
    rw [e2]
    exact Has_ext h

/-- What stands ahead of a piece. -/
def gapS (b : List (List UInt8)) (i : Nat) : List UInt8 := if i < b.length ∧ (b.getD i []).length ≤ 10 then b.getD i [] else []
def buildS (b : List (List UInt8)) : List (List UInt8) → Nat → List UInt8
  | [], _ => []
  | m :: ms, i => gapS b i ++ (m ++ buildS b ms (i + 1))
theorem build_has (b : List (List UInt8)) : ∀ (ms : List (List UInt8)) (i : Nat), Has ms (buildS b ms i)
  | [], _ => trivial
  | m :: ms, i => ⟨gapS b i, buildS b ms (i + 1), rfl, build_has b ms (i + 1)⟩
theorem pieces_found (x l : List UInt8) (b ms : List (List UInt8)) : piecesB (x ++ (buildS b ms 0 ++ l)) x l ms = true := by
  have h1 : Lib.hasPrefix (x ++ (buildS b ms 0 ++ l)) x = true := List.isPrefixOf_iff_prefix.2 ⟨_, rfl⟩
  have h2 : Lib.trimPrefix (x ++ (buildS b ms 0 ++ l)) x = buildS b ms 0 ++ l := by
    unfold Lib.trimPrefix
    rw [if_pos h1, List.drop_left]
  have h3 : Lib.hasSuffix (buildS b ms 0 ++ l) l = true := List.isSuffixOf_iff_suffix.2 ⟨_, rfl⟩
  have h4 : Lib.trimSuffix (buildS b ms 0 ++ l) l = buildS b ms 0 := by
    unfold Lib.trimSuffix
    rw [if_pos h3]
    simp
  unfold piecesB
  rw [h1, h2, h3, h4, cutAll_has (build_has b ms 0)]
  rfl
theorem gap_len (b : List (List UInt8)) (i : Nat) : (gapS b i).length ≤ 10 := by
  unfold gapS
  split
  · rename_i h; exact h.2
  · simp
theorem build_len (b : List (List UInt8)) : ∀ (ms : List (List UInt8)) (i : Nat), (∀ m ∈ ms, m.length ≤ 20) → (buildS b ms i).length ≤ 30 * ms.length
  | [], _, _ => by simp [buildS]
  | m :: ms, i, h => by
    have h1 := gap_len b i
    have h2 := h m (by simp)
    have h3 := build_len b ms (i + 1) fun x hx => h x (by simp [hx])
    simp only [buildS, List.length_append, List.length_cons]
    omega
end Go.Abs

/- The program's functions in the second form: written by wip/tools/PrintB.lean. -/
namespace Go.Abs
open Go Go.Proofs
/- 4: verger/vergerlaw07.FilterPieces, 4 -/
def bu4B0 : BC :=
  .seq (.seq (.ins [⟨none, .bin .lss (.t 6) (.t 5)⟩]) <|
  .seq (.cond (.t 7) (.skip) (.exit 0 [.t 0, .t 1, .t 2, .t 4])) <|
  .seq (.block 1 (.seq (.seq (.ins []) <|
  .seq (.seq (.ins [⟨none, .iad 1 (.t 2) (.t 6)⟩, ⟨none, .ld false 1 (.t 8)⟩, ⟨none, .lenS (.t 9)⟩, ⟨none, .bin .gtr (.t 10) (.d (.int .i64 20))⟩, ⟨some (11, false), .mv (.t 2)⟩, ⟨some (11, false), .mv (.t 6)⟩, ⟨some (11, false), .iad 1 (.t 12) (.t 13)⟩, ⟨some (11, false), .ld false 1 (.t 14)⟩, ⟨some (11, false), .lenS (.t 15)⟩, ⟨some (11, false), .bin .eql (.t 16) (.d (.int .i64 0))⟩, ⟨none, .pick (.t 11) (.d (.bool true)) (.t 17)⟩]) <|
  .cond (.t 18) (.seq (.ins []) <|
  .ret [.d (.bool true)]) (.skip)) <|
  .seq (.seq (.ins [⟨none, .len (.t 3)⟩, ⟨none, .bin .lss (.t 6) (.t 19)⟩, ⟨some (20, true), .mv (.t 3)⟩, ⟨some (20, true), .mv (.t 6)⟩, ⟨some (20, true), .iad 1 (.t 21) (.t 22)⟩, ⟨some (20, true), .ld false 1 (.t 23)⟩, ⟨some (20, true), .lenS (.t 24)⟩, ⟨some (20, true), .bin .leq (.t 25) (.d (.int .i64 10))⟩, ⟨none, .pick (.t 20) (.t 26) (.d (.bool false))⟩]) <|
  .cond (.t 27) (.seq (.ins [⟨none, .iad 1 (.t 3) (.t 6)⟩, ⟨none, .ld false 1 (.t 28)⟩, ⟨none, .bin .add (.t 4) (.t 29)⟩]) <|
  .foc [.t 0, .t 1, .t 2, .t 3, .t 30, .t 6, .t 5, .t 6]) (.seq (.skip) <|
  .foc [.t 0, .t 1, .t 2, .t 3, .t 4, .t 6, .t 5, .t 6])) <|
  .ins [⟨none, .iad 1 (.t 2) (.t 5)⟩, ⟨none, .ld false 1 (.t 8)⟩, ⟨none, .bin .add (.t 4) (.t 9)⟩]) <|
  .foc [.t 0, .t 1, .t 2, .t 3, .t 10, .t 6, .t 7])) <|
  .ins [⟨none, .bin .add (.t 6) (.d (.int .i64 1))⟩]) <|
  .foc [.t 0, .t 1, .t 2, .t 3, .t 4, .t 5, .t 7]
def bu4L0 : BC := bu4B0
theorem bu4L0_eq : bu4L0 = bu4B0 := rfl

def bu4 : BFun := ⟨[.t 0],
  .seq (.ins []) <|
  .seq (.seq (.ins [⟨none, .call false 11 []⟩, ⟨none, .not (.t 4)⟩, ⟨some (5, false), .mv (.t 2)⟩, ⟨some (5, false), .len (.t 6)⟩, ⟨some (5, false), .bin .gtr (.t 7) (.d (.int .i64 5))⟩, ⟨none, .pick (.t 5) (.d (.bool true)) (.t 8)⟩, ⟨some (9, false), .mv (.t 0)⟩, ⟨some (9, false), .lenS (.t 10)⟩, ⟨some (9, false), .mv (.t 1)⟩, ⟨some (9, false), .lenS (.t 12)⟩, ⟨some (9, false), .bin .add (.t 11) (.t 13)⟩, ⟨some (9, false), .bin .gtr (.t 14) (.d (.int .i64 60))⟩, ⟨none, .pick (.t 9) (.d (.bool true)) (.t 15)⟩]) <|
  .cond (.t 16) (.seq (.ins [⟨none, .call false 11 []⟩]) <|
  .ret [.t 17]) (.skip)) <|
  .seq (.ins []) <|
  .seq (.seq (.ins [⟨none, .len (.t 2)⟩]) <|
  .block 0 (.seq (.foc [.t 0, .t 1, .t 2, .t 3, .t 0, .t 17, .d (.int .i64 0)]) <|
  .loop bu4L0)) <|
  .seq (.ins [⟨none, .bin .add (.t 3) (.t 1)⟩]) <|
  .seq (.ins [⟨none, .build [.int .i64 0, .str [], .str [], .str [], .str [], .nils 0, .nils 0] [(0, 1, (.d (.int .i64 4))), (1, 1, (.d (.str [117, 115, 101, 114, 80, 97, 115, 115, 119, 111, 114, 100]))), (3, 1, (.t 0)), (5, 1, (.t 2)), (4, 1, (.t 1))]⟩, ⟨none, .alloc [.int .i64 0, .str [], .str [], .str [], .str [], .nils 0, .nils 0]⟩, ⟨none, .st 7 (.t 6) (.t 5)⟩]) <|
  .seq (.seq (.ins [⟨none, .ld true 7 (.t 6)⟩, ⟨none, .call false 17 [.t 8]⟩, ⟨none, .not (.t 9)⟩, ⟨some (10, false), .mv (.t 4)⟩, ⟨some (10, false), .lenS (.t 11)⟩, ⟨some (10, false), .bin .lss (.t 12) (.d (.int .i64 1))⟩, ⟨none, .pick (.t 10) (.d (.bool true)) (.t 13)⟩, ⟨some (14, false), .mv (.t 4)⟩, ⟨some (14, false), .lenS (.t 15)⟩, ⟨some (14, false), .bin .gtr (.t 16) (.d (.int .i64 200))⟩, ⟨none, .pick (.t 14) (.d (.bool true)) (.t 17)⟩]) <|
  .cond (.t 18) (.seq (.ins []) <|
  .ret [.d (.bool true)]) (.skip)) <|
  .seq (.ins [⟨none, .ld true 7 (.t 6)⟩, ⟨none, .mks none 1 2 [.str []] [(0, (.d (.str []))), (1, (.t 4))]⟩, ⟨none, .build [.str [], .nils 0] [(0, 1, (.d (.str [117, 115, 101, 114, 80, 97, 115, 115, 119, 111, 114, 100]))), (1, 1, (.t 20))]⟩, ⟨none, .mks none 2 1 [.str [], .nils 0] [(0, (.t 21))]⟩, ⟨none, .call false 14 [.t 19, .t 22]⟩, ⟨none, .bin .eql (.t 23) (.d (.int .i64 1))⟩]) <|
  .ret [.t 24]⟩
theorem oku4 : Code2 Tryz.prog prims1 4 4 bu4 := Code2.mk' rfl Tryz.func4 (by kernel_rfl) (by kernel_rfl)

end Go.Abs

/- A filter of pieces over a value of bytes: the run. -/
namespace Go.Abs
open Go Go.Proofs

/-- "userPassword". -/
def upS : List UInt8 := [117, 115, 101, 114, 80, 97, 115, 115, 119, 111, 114, 100]
set_option maxRecDepth 1000000 in
theorem type_up_T : runT prims1 tbU 20 80 [.d (.str upS)] [] = some (.tup [.str upS, .int .i64 2], []) := by kernel_rfl
theorem run80_up : TU 80 [.d (.str upS)] [] = some (.tup [.str upS, .int .i64 2], []) := runT_ok tbU_ok 20 _ _ _ _ type_up_T

theorem x2_si {t : List UInt8} {n : Int} : (∀ {bs tau}, extK 0 bs tau (.d (.tup [.str t, .int .i64 n])) = some (.d (.str t), bs, tau)) ∧ (∀ {bs tau}, extK 1 bs tau (.d (.tup [.str t, .int .i64 n])) = some (.d (.int .i64 n), bs, tau)) := ⟨rfl, rfl⟩
theorem x2_sb {t : List UInt8} {b : Bool} : (∀ {bs tau}, extK 0 bs tau (.d (.tup [.str t, .bool b])) = some (.d (.str t), bs, tau)) ∧ (∀ {bs tau}, extK 1 bs tau (.d (.tup [.str t, .bool b])) = some (.d (.bool b), bs, tau)) := ⟨rfl, rfl⟩
theorem x3_ssb {t u : List UInt8} {b : Bool} : (∀ {bs tau}, extK 0 bs tau (.d (.tup [.str t, .str u, .bool b])) = some (.d (.str t), bs, tau)) ∧ (∀ {bs tau}, extK 1 bs tau (.d (.tup [.str t, .str u, .bool b])) = some (.d (.str u), bs, tau)) ∧
    (∀ {bs tau}, extK 2 bs tau (.d (.tup [.str t, .str u, .bool b])) = some (.d (.bool b), bs, tau)) := ⟨rfl, rfl, rfl⟩

theorem run200_2 (v : List UInt8) : TU 200 [.d (.int .i64 2), .d (.str v)] [] = some (.tup [.str v, .bool true], []) := by
  refine oku200.run (f := 200) ?_
  have e1 : ((2 : Int) == 1) = false := by decide
  have e2 : ((2 : Int) == 3) = false := by decide
  have e3 : ((2 : Int) == 4) = false := by decide
  simp only [bu200]
  simp only [bC, bO, bV, bF, bL, e1, e2, e3, grdK, cndK, if_true, if_false, Bool.false_eq_true, Bool.true_eq_false, reduceIte, List.length_nil]
  rfl
theorem run166_up (v : List UInt8) (hv : v ≠ []) (hl : v.length ≤ 200) : TU 166 [.d (.str upS), .d (.str v)] [] = some (.tup [.str v, .int .i64 0], []) := by
  refine oku166.run (f := 166) ?_
  have c80 : ∀ {pu bs tau}, evCall TU pu 80 [.d (.str upS)] bs tau = some (.d (.tup [.str upS, .int .i64 2]), bs, tau) := call_d rfl run80_up
  have c200 : ∀ {pu bs tau}, evCall TU pu 200 [.d (.int .i64 2), .d (.str v)] bs tau = some (.d (.tup [.str v, .bool true]), bs, tau) := call_d rfl (run200_2 v)
  have e1 : ((2 : Int) == 0) = false := by decide
  have e2 : ((2 : Int) == 5) = false := by decide
  have e3 : (v == []) = false := by simpa using hv
  have e4 : ¬ (200 : Int) < (v.length : Int) := by omega
  simp only [bu166]
  simp only [bC, bO, bV, bF, bL, x2_si, x2_sb, c80, c200, e1, e2, e3, e4, List.getElem?_cons_zero, List.getElem?_cons_succ, decide_false, grdK, cndK, if_true, if_false, Bool.false_eq_true, Bool.true_eq_false, reduceIte, List.length_nil, Bool.not_true, Bool.not_false]
  rfl
theorem run166_no : TU 166 [.d (.str upS), .d (.str [])] [] = some (.tup [.str [], .int .i64 2], []) := by
  refine oku166.run (f := 166) ?_
  have c80 : ∀ {pu bs tau}, evCall TU pu 80 [.d (.str upS)] bs tau = some (.d (.tup [.str upS, .int .i64 2]), bs, tau) := call_d rfl run80_up
  have e1 : ((2 : Int) == 0) = false := by decide
  have e2 : ((2 : Int) == 5) = false := by decide
  simp only [bu166]
  simp only [bC, bO, bV, bF, bL, x2_si, x2_sb, c80, e1, e2, List.getElem?_cons_zero, List.getElem?_cons_succ, decide_false, grdK, cndK, if_true, if_false, Bool.false_eq_true, Bool.true_eq_false, reduceIte, List.length_nil, Bool.not_true, Bool.not_false, beq_self_eq_true]
  rfl
theorem run124_of (v w : List UInt8) (e : Int) (h : TU 166 [.d (.str upS), .d (.str v)] [] = some (.tup [.str w, .int .i64 e], [])) : TU 124 [.d (.str upS), .d (.str v)] [] = some (.tup [.str w, .int .i64 e], []) := by
  refine oku124.run (f := 124) ?_
  have c80 : ∀ {pu bs tau}, evCall TU pu 80 [.d (.str upS)] bs tau = some (.d (.tup [.str upS, .int .i64 2]), bs, tau) := call_d rfl run80_up
  have c166 : ∀ {pu bs tau}, evCall TU pu 166 [.d (.str upS), .d (.str v)] bs tau = some (.d (.tup [.str w, .int .i64 e]), bs, tau) := call_d rfl h
  have e1 : ((2 : Int) != 5) = true := by decide
  simp only [bu124]
  simp only [bC, bO, bV, bF, bL, x2_si, c80, c166, e1, List.getElem?_cons_zero, List.getElem?_cons_succ, grdK, cndK, if_true, if_false, Bool.false_eq_true, Bool.true_eq_false, reduceIte, List.length_nil, Bool.not_true, Bool.not_false]
  rfl
theorem run168 (t : List UInt8) : TU 168 [.d (.str t)] [] = some (.str t, []) := by
  refine oku168.run (f := 168) ?_
  simp only [bu168]
  simp only [bC, bO, bV, bF, bL, List.length_nil]

theorem run141 (s p : List UInt8) : TU 141 [.d (.str s), .d (.str p)] [] = some (.tup [.str (Lib.trimPrefix s p), .bool (Lib.hasPrefix s p)], []) := Run_prim (T := Tab.of Tryz.prog prims1) rfl rfl
theorem run201 (s p : List UInt8) (hs : s.length ≤ 1073741824) : TU 201 [.d (.str s), .d (.str p)] [] = some (.tup [.str (Lib.trimSuffix s p), .bool (Lib.hasSuffix s p)], []) := by
  refine Run_prim (T := Tab.of Tryz.prog prims1) rfl ?_
  simp only [pCutSuffix]
  rw [if_pos (show s.length ≤ maxLenN from hs)]
theorem cut_snd (s p : List UInt8) : (Lib.cut s p).2.1.length ≤ s.length := by
  unfold Lib.cut
  split
  · simp
  · simp
theorem trimP_len (s p : List UInt8) : (Lib.trimPrefix s p).length ≤ s.length := trimPrefix_len s p
theorem trimS_len (s p : List UInt8) : (Lib.trimSuffix s p).length ≤ s.length := by
  unfold Lib.trimSuffix
  split
  · simp
  · exact Nat.le_refl _

theorem loop167 (f : Flt) (hf : f.any.length ≤ 1073741824) : ∀ (n i : Nat) (t : List UInt8), n + i = f.any.length → t.length ≤ 1073741824 →
    DnB TU (.loop bu167L0) [.d (.str t), .fn 168 [], .d (slc 1 (f.any.map .str)), .d (.int .i64 f.any.length), .d (.int .i64 i)] [fbox f] [] = if cutAll (f.any.drop i) t then some (.ex 0, [], [fbox f], []) else some (.rt, [.d (.bool false)], [fbox f], [])
  | 0, i, t, hi, _ => by
    have : ¬ ((i : Int) < (f.any.length : Int)) := by omega
    have h2 : f.any.drop i = [] := List.drop_eq_nil_of_le (by omega)
    rw [L_loopU bu167L0_eq]
    simp only [bu167B0]
    simp only [bC, bO, bV, bF, bL, bM, bFlt, x2_si, x2_sb, x3_ssb, List.getElem?_cons_zero, List.getElem?_cons_succ, decide_false, decide_true, grdK, cndK, if_true, if_false, Bool.false_eq_true, Bool.true_eq_false, reduceIte, List.length_nil, List.length_cons, Bool.not_true, Bool.not_false, beq_self_eq_true, this, h2, cutAll]
  | n + 1, i, t, hi, ht => by
    have h1 : ((i : Int) < (f.any.length : Int)) := by omega
    have h1' : i < f.any.length := by omega
    have hw := wrap_inc h1' hf
    have hc := cut_snd t f.any[i]
    have ih := loop167 f hf n (i + 1) (Lib.cut t f.any[i]).2.1 (by omega) (by omega)
    have c168 : ∀ {pu bs tau}, evCall TU pu 168 [.d (.str f.any[i])] bs tau = some (.d (.str f.any[i]), bs, tau) := call_d rfl (run168 _)
    have c94 : ∀ {pu bs tau}, evCall TU pu 94 [.d (.str t), .d (.str f.any[i])] bs tau = some (.d (.tup [.str (Lib.cut t f.any[i]).1, .str (Lib.cut t f.any[i]).2.1, .bool (Lib.cut t f.any[i]).2.2]), bs, tau) := call_d rfl (run94 _ _ ht)
    rw [List.drop_eq_getElem_cons h1', L_loopU bu167L0_eq, show cutAll (f.any[i] :: f.any.drop (i + 1)) t = ((Lib.cut t f.any[i]).2.2 && cutAll (f.any.drop (i + 1)) (Lib.cut t f.any[i]).2.1) from rfl]
    simp only [bu167B0]
    cases hb : (Lib.cut t f.any[i]).2.2 with
    | true =>
      rw [hb] at c94
      simp only [bC, bO, bV, bF, bL, bM, bFlt, x2_si, x2_sb, x3_ssb, List.getElem?_cons_zero, List.getElem?_cons_succ, decide_false, decide_true, grdK, cndK, if_true, if_false, Bool.false_eq_true, Bool.true_eq_false, reduceIte, List.length_nil, List.length_cons, Bool.not_true, Bool.not_false, beq_self_eq_true, ia_map h1', c168, c94, h1, hw, ih, Bool.true_and]
    | false =>
      rw [hb] at c94
      simp only [bC, bO, bV, bF, bL, bM, bFlt, x2_si, x2_sb, x3_ssb, List.getElem?_cons_zero, List.getElem?_cons_succ, decide_false, decide_true, grdK, cndK, if_true, if_false, Bool.false_eq_true, Bool.true_eq_false, reduceIte, List.length_nil, List.length_cons, Bool.not_true, Bool.not_false, beq_self_eq_true, ia_map h1', c168, c94, h1, hw, Bool.false_and]
theorem run167 (f : Flt) (hf : f.any.length ≤ 1073741824) (s : List UInt8) (hs : s.length ≤ 1073741824) : TU 167 [.d (encF f), .d (.str s), .fn 168 []] [] = some (.bool (piecesB s f.first f.last f.any), []) := by
  refine oku167.run (f := 167) ?_
  have c168 : ∀ {t : List UInt8} {pu bs tau}, evCall TU pu 168 [.d (.str t)] bs tau = some (.d (.str t), bs, tau) := call_d rfl (run168 _)
  have c141 : ∀ {pu bs tau}, evCall TU pu 141 [.d (.str s), .d (.str f.first)] bs tau = some (.d (.tup [.str (Lib.trimPrefix s f.first), .bool (Lib.hasPrefix s f.first)]), bs, tau) := call_d rfl (run141 _ _)
  have t1 := trimP_len s f.first
  have c201 : ∀ {pu bs tau}, evCall TU pu 201 [.d (.str (Lib.trimPrefix s f.first)), .d (.str f.last)] bs tau = some (.d (.tup [.str (Lib.trimSuffix (Lib.trimPrefix s f.first) f.last), .bool (Lib.hasSuffix (Lib.trimPrefix s f.first) f.last)]), bs, tau) := call_d rfl (run201 _ _ (by omega))
  have t2 := trimS_len (Lib.trimPrefix s f.first) f.last
  have lp := loop167 f hf f.any.length 0 (Lib.trimSuffix (Lib.trimPrefix s f.first) f.last) rfl (by omega)
  have lp : DnB TU (.loop bu167L0) [.d (.str (Lib.trimSuffix (Lib.trimPrefix s f.first) f.last)), .fn 168 [], .d (slc 1 (f.any.map .str)), .d (.int .i64 f.any.length), .d (.int .i64 0)] [fbox f] [] = if cutAll f.any (Lib.trimSuffix (Lib.trimPrefix s f.first) f.last) then some (.ex 0, [], [fbox f], []) else some (.rt, [.d (.bool false)], [fbox f], []) := lp
  simp only [bu167, piecesB]
  cases h1 : Lib.hasPrefix s f.first with
  | false =>
    rw [h1] at c141
    simp only [bC, bO, bV, bF, bL, bM, bFlt, x2_si, x2_sb, x3_ssb, List.getElem?_cons_zero, List.getElem?_cons_succ, decide_false, decide_true, grdK, cndK, if_true, if_false, Bool.false_eq_true, Bool.true_eq_false, reduceIte, List.length_nil, List.length_cons, Bool.not_true, Bool.not_false, beq_self_eq_true, c168, c141, Bool.false_and]
    try rfl
  | true =>
    rw [h1] at c141
    cases h2 : Lib.hasSuffix (Lib.trimPrefix s f.first) f.last with
    | false =>
      rw [h2] at c201
      simp only [bC, bO, bV, bF, bL, bM, bFlt, x2_si, x2_sb, x3_ssb, List.getElem?_cons_zero, List.getElem?_cons_succ, decide_false, decide_true, grdK, cndK, if_true, if_false, Bool.false_eq_true, Bool.true_eq_false, reduceIte, List.length_nil, List.length_cons, Bool.not_true, Bool.not_false, beq_self_eq_true, c168, c141, c201, Bool.true_and, Bool.false_and]
      try rfl
    | true =>
      rw [h2] at c201
      cases h3 : cutAll f.any (Lib.trimSuffix (Lib.trimPrefix s f.first) f.last) with
      | true =>
        rw [h3] at lp
        simp only [bC, bO, bV, bF, bL, bM, bFlt, x2_si, x2_sb, x3_ssb, List.getElem?_cons_zero, List.getElem?_cons_succ, decide_false, decide_true, grdK, cndK, if_true, if_false, Bool.false_eq_true, Bool.true_eq_false, reduceIte, List.length_nil, List.length_cons, Bool.not_true, Bool.not_false, beq_self_eq_true, c168, c141, c201, slc_len, List.length_map, lp, Bool.true_and]
        try rfl
      | false =>
        rw [h3] at lp
        simp only [bC, bO, bV, bF, bL, bM, bFlt, x2_si, x2_sb, x3_ssb, List.getElem?_cons_zero, List.getElem?_cons_succ, decide_false, decide_true, grdK, cndK, if_true, if_false, Bool.false_eq_true, Bool.true_eq_false, reduceIte, List.length_nil, List.length_cons, Bool.not_true, Bool.not_false, beq_self_eq_true, c168, c141, c201, slc_len, List.length_map, lp, Bool.true_and]
        try rfl
end Go.Abs

/- A filter of pieces over a value of bytes: the run, on. -/
namespace Go.Abs
open Go Go.Proofs

theorem run125 (f : Flt) (hk : f.kind = 4) (ha : f.attr = upS) (hf : f.any.length ≤ 1073741824) (v : List UInt8) (hl : v.length ≤ 200) : TU 125 [.d (encF f), .d (.str v), .d (.int .i64 2)] [] = some (.bool (v != [] && piecesB v f.first f.last f.any), []) := by
  refine oku125.run (f := 125) ?_
  have k0 : ((4 : Int) == 1) = false := by decide
  have k1 : ((4 : Int) == 0) = false := by decide
  have k2 : ((4 : Int) == 2) = false := by decide
  have k3 : ((2 : Int) == 1) = false := by decide
  have k4 : ((2 : Int) == 0) = false := by decide
  have k5 : ((4 : Int) == 5) = false := by decide
  have k6 : ((4 : Int) == 6) = false := by decide
  have k7 : ((4 : Int) == 7) = false := by decide
  have k8 : ((4 : Int) != 4) = false := by decide
  have k9 : ((2 : Int) != 0) = true := by decide
  have ka : ((0 : Int) != 0) = false := by decide
  have kb : ¬ ((2 : Int) < 2) := by decide
  cases v with
  | nil =>
    have c124 : ∀ {pu bs tau}, evCall TU pu 124 [.d (.str upS), .d (.str [])] bs tau = some (.d (.tup [.str [], .int .i64 2]), bs, tau) := call_d rfl (run124_of [] [] 2 run166_no)
    simp only [bu125]
    simp only [bC, bO, bV, bF, bL, bM, bFlt, x2_si, x2_sb, x3_ssb, List.getElem?_cons_zero, List.getElem?_cons_succ, decide_false, decide_true, grdK, cndK, if_true, if_false, Bool.false_eq_true, Bool.true_eq_false, reduceIte, List.length_nil, List.length_cons, Bool.not_true, Bool.not_false, beq_self_eq_true, Bool.or_false, Bool.or_true, Bool.and_true, Bool.and_false, hk, ha, c124, k0, k1, k2, k3, k4, k5, k6, k7, k8, k9, ka, kb]
    rfl
  | cons c v =>
    have c124 : ∀ {pu bs tau}, evCall TU pu 124 [.d (.str upS), .d (.str (c :: v))] bs tau = some (.d (.tup [.str (c :: v), .int .i64 0]), bs, tau) := call_d rfl (run124_of _ _ 0 (run166_up _ (by simp) hl))
    have ea : argVs [] [.d (encF f), .d (.str (c :: v)), .fn 168 []] = some ([.d (encF f), .d (.str (c :: v)), .fn 168 []], []) := by simp only [bCall, encF_canon2]; rfl
    have c167 : ∀ {pu bs tau}, evCall TU pu 167 [.d (encF f), .d (.str (c :: v)), .fn 168 []] bs tau = some (.d (.bool (piecesB (c :: v) f.first f.last f.any)), bs, tau) := call_d ea (run167 f hf (c :: v) (by omega))
    have e0 : ((c :: v) != ([] : List UInt8)) = true := rfl
    rw [e0, Bool.true_and]
    simp only [bu125]
    simp only [bC, bO, bV, bF, bL, bM, bFlt, x2_si, x2_sb, x3_ssb, List.getElem?_cons_zero, List.getElem?_cons_succ, decide_false, decide_true, grdK, cndK, if_true, if_false, Bool.false_eq_true, Bool.true_eq_false, reduceIte, List.length_nil, List.length_cons, Bool.not_true, Bool.not_false, beq_self_eq_true, Bool.or_false, Bool.or_true, Bool.and_true, Bool.and_false, hk, ha, c124, c167, k0, k1, k2, k3, k4, k5, k6, k7, k8, k9, ka, kb]
    try rfl

theorem run82 (f : Flt) (hk : f.kind = 4) (ha : f.attr = upS) (hv : f.value = []) (hf : f.any.length ≤ 1073741824) (v : List UInt8) (hn : v ≠ []) (hl : v.length ≤ 200) (hp : piecesB v f.first f.last f.any = true) :
    TU 82 [.d (encF f), .d (.slice 2 [.agg [.str upS, .slice 1 [.str [], .str v]]])] [] = some (.int .i64 1, []) := by
  refine oku82.run (f := 82) ?_
  have k0 : ((4 : Int) == 1) = false := by decide
  have k1 : ((4 : Int) == 0) = false := by decide
  have k2 : ((4 : Int) == 2) = false := by decide
  have k3 : ((2 : Int) == 1) = false := by decide
  have k4 : ((2 : Int) == 0) = false := by decide
  have k5 : ((4 : Int) == 5) = false := by decide
  have k6 : ((4 : Int) == 6) = false := by decide
  have k7 : ((4 : Int) == 7) = false := by decide
  have k8 : ((4 : Int) != 4) = false := by decide
  have k9 : ((2 : Int) != 0) = true := by decide
  have ka : ((0 : Int) != 0) = false := by decide
  have kb : ¬ ((2 : Int) < 2) := by decide
  have kc : ((2 : Int) == 5) = false := by decide
  have kd : ((2 : Int) != 0) = true := by decide
  have w1 : IntKind.i64.wrap ((0 : Int) + 1) = 1 := by decide
  have w2 : IntKind.i64.wrap ((1 : Int) + 1) = 2 := by decide
  have l01 : (0 : Int) < 1 := by decide
  have l02 : (0 : Int) < 2 := by decide
  have l12 : (1 : Int) < 2 := by decide
  obtain ⟨V, hV⟩ : ∃ V, V = DV.slice 1 [.str [], .str v] := ⟨_, rfl⟩
  obtain ⟨A, hA⟩ : ∃ A, A = DV.slice 2 [.agg [.str upS, V]] := ⟨_, rfl⟩
  rw [← hV, ← hA]
  have lA : ∀ {bs tau}, lenK bs tau (.d A) = some (.d (.int .i64 1), bs, tau) := by intros; rw [hA]; rfl
  have lV : ∀ {bs tau}, lenK bs tau (.d V) = some (.d (.int .i64 2), bs, tau) := by intros; rw [hV]; rfl
  have iA : ∀ {bs tau}, iadK bs tau 2 (.d A) (.d (.int .i64 0)) = some (.ep [.str upS, V], bs, tau) := by intros; rw [hA, hV]; rfl
  have iV : ∀ {bs tau}, iadK bs tau 1 (.d V) (.d (.int .i64 0)) = some (.ep [.str []], bs, tau) := by intros; rw [hV]; rfl
  have jV : ∀ {bs tau}, iadK bs tau 1 (.d V) (.d (.int .i64 1)) = some (.ep [.str v], bs, tau) := by intros; rw [hV]; rfl
  have ld2 : ∀ {bs tau}, ldK true 2 bs tau (.ep [.str upS, V]) = some (.d (.agg [.str upS, V]), bs, tau) := by intros; rw [hV]; rfl
  have st2 : ∀ {x r tau}, stK 2 (x :: .cells [.d (.str []), .d (.nils 0)] :: r) tau (.bp 1 0) (.d (.agg [.str upS, V])) = some (.junk, x :: .cells [.d (.str upS), .d V] :: r, tau) := by intros; rw [hV]; rfl
  have la : ∀ {x r tau}, ldK false 1 (x :: .cells [.d (.str upS), .d V] :: r) tau (.bp 1 0) = some (.d (.str upS), x :: .cells [.d (.str upS), .d V] :: r, tau) := by intros; rw [hV]; rfl
  have lb : ∀ {x r tau}, ldK false 1 (x :: .cells [.d (.str upS), .d V] :: r) tau (.bp 1 1) = some (.d V, x :: .cells [.d (.str upS), .d V] :: r, tau) := by intros; rw [hV]; rfl
  have c80 : ∀ {pu bs tau}, evCall TU pu 80 [.d (.str upS)] bs tau = some (.d (.tup [.str upS, .int .i64 2]), bs, tau) := call_d rfl run80_up
  have c124 : ∀ {pu bs tau}, evCall TU pu 124 [.d (.str upS), .d (.str [])] bs tau = some (.d (.tup [.str [], .int .i64 2]), bs, tau) := call_d rfl (run124_of [] [] 2 run166_no)
  have ea : ∀ t, argVs [] [.d (encF f), .d (.str t), .d (.int .i64 2)] = some ([.d (encF f), .d (.str t), .d (.int .i64 2)], []) := fun t => by simp only [bCall, encF_canon2]; rfl
  have e0 : (([] : List UInt8) != ([] : List UInt8)) = false := rfl
  have e1 : (v != ([] : List UInt8)) = true := by simpa using hn
  have c125 : ∀ {pu bs tau}, evCall TU pu 125 [.d (encF f), .d (.str []), .d (.int .i64 2)] bs tau = some (.d (.bool false), bs, tau) := by
    intro pu bs tau
    have h := run125 f hk ha hf [] (by simp)
    rw [e0, Bool.false_and] at h
    exact call_d (ea _) h
  have d125 : ∀ {pu bs tau}, evCall TU pu 125 [.d (encF f), .d (.str v), .d (.int .i64 2)] bs tau = some (.d (.bool true), bs, tau) := by
    intro pu bs tau
    have h := run125 f hk ha hf v hl
    rw [e1, hp, Bool.true_and] at h
    exact call_d (ea _) h
  have u0 : (upS != upS) = false := by decide
  clear hA hV
  simp only [bu82]
  simp only [bC, bO, bV, bF, bL, bM, bFlt, x2_si, x2_sb, x3_ssb, List.getElem?_cons_zero, List.getElem?_cons_succ, decide_false, decide_true, grdK, cndK, if_true, if_false, Bool.false_eq_true, Bool.true_eq_false, reduceIte, List.length_nil, List.length_cons, Bool.not_true, Bool.not_false, beq_self_eq_true, bne_self_eq_false, Bool.or_false, Bool.or_true, Bool.and_true, Bool.and_false, List.map_cons, List.map_nil, hk, ha, hv, c80, c124, c125, d125, lA, lV, iA, iV, jV, ld2, st2, la, lb, u0, w1, w2, l01, l02, l12, k0, k1, k2, k3, k4, k5, k6, k7, k8, k9, ka, kb, kc, kd, L_loopU bu82L1_eq, L_loopU bu82L0_eq, bu82B0, bu82B1]
  try rfl

theorem run40 (f : Flt) (hk : f.kind = 4) (A : DV) (hA : canon2 A = A) (n : Int) (h : TU 82 [.d (encF f), .d A] [] = some (.int .i64 n, [])) : TU 40 [.d (encF f), .d A] [] = some (.int .i64 n, []) := by
  refine oku40.run (f := 40) ?_
  have k1 : ((4 : Int) == 0) = false := by decide
  have k2 : ((4 : Int) == 1) = false := by decide
  have k3 : ((4 : Int) == 2) = false := by decide
  have ea : argVs [] [.d (encF f), .d A] = some ([.d (encF f), .d A], []) := by simp only [bCall, encF_canon2, hA]
  have c82 : ∀ {pu bs tau}, evCall TU pu 82 [.d (encF f), .d A] bs tau = some (.d (.int .i64 n), bs, tau) := call_d ea h
  simp only [bu40]
  simp only [bC, bO, bV, bF, bL, bM, bFlt, x2_si, x2_sb, x3_ssb, List.getElem?_cons_zero, List.getElem?_cons_succ, decide_false, decide_true, grdK, cndK, if_true, if_false, Bool.false_eq_true, Bool.true_eq_false, reduceIte, List.length_nil, List.length_cons, Bool.not_true, Bool.not_false, beq_self_eq_true, bne_self_eq_false, Bool.or_false, Bool.or_true, Bool.and_true, Bool.and_false, hk, c82, k1, k2, k3]
  try rfl
theorem run14 (f : Flt) (hf : f.Ok) (hfm : formedF f = true) (A : DV) (hA : canon2 A = A) (n : Int) (h : TU 40 [.d (encF f), .d A] [] = some (.int .i64 n, [])) : TU 14 [.d (encF f), .d A] [] = some (.int .i64 n, []) := by
  refine oku14.run (f := 14) ?_
  have ea : argVs [] [.d (encF f), .d A] = some ([.d (encF f), .d A], []) := by simp only [bCall, encF_canon2, hA]
  have ea1 : argVs [] [.d (encF f)] = some ([.d (encF f)], []) := by simp only [bCall, encF_canon2]
  have c40 : ∀ {pu bs tau}, evCall TU pu 40 [.d (encF f), .d A] bs tau = some (.d (.int .i64 n), bs, tau) := call_d ea h
  have c17 : ∀ {pu bs tau}, evCall TU pu 17 [.d (encF f)] bs tau = some (.d (.bool true), bs, tau) := by
    intro pu bs tau
    have := lift1 _ _ _ _ (run17 f hf)
    rw [hfm] at this
    exact call_d ea1 this
  simp only [bu14]
  simp only [bC, bO, bV, bF, bL, bM, bFlt, x2_si, x2_sb, x3_ssb, List.getElem?_cons_zero, List.getElem?_cons_succ, decide_false, decide_true, grdK, cndK, if_true, if_false, Bool.false_eq_true, Bool.true_eq_false, reduceIte, List.length_nil, List.length_cons, Bool.not_true, Bool.not_false, beq_self_eq_true, bne_self_eq_false, Bool.or_false, Bool.or_true, Bool.and_true, Bool.and_false, c40, c17]
  try rfl
end Go.Abs

/- FilterPieces: the run. -/
namespace Go.Abs
open Go Go.Proofs

def okM (m : List UInt8) : Bool := decide (1 ≤ m.length) && decide (m.length ≤ 20)

theorem loop4 (x l : List UInt8) (M B : List (List UInt8)) (hM : M.length ≤ 5) (hB : B.length ≤ 1073741824) : ∀ (n i : Nat) (acc : List UInt8), n + i = M.length → acc.length ≤ 60 + 30 * i →
    DnB TU (.loop bu4L0) [.d (.str x), .d (.str l), .d (slc 1 (M.map .str)), .d (slc 1 (B.map .str)), .d (.str acc), .d (.int .i64 M.length), .d (.int .i64 i)] [] [] =
      if (M.drop i).all okM then some (.ex 0, [.d (.str x), .d (.str l), .d (slc 1 (M.map .str)), .d (.str (acc ++ buildS B (M.drop i) i))], [], []) else some (.rt, [.d (.bool true)], [], [])
  | 0, i, acc, hi, _ => by
    have : ¬ ((i : Int) < (M.length : Int)) := by omega
    have h2 : M.drop i = [] := List.drop_eq_nil_of_le (by omega)
    rw [L_loopU bu4L0_eq, h2]
    simp only [bu4B0]
    simp only [bC, bO, bV, bF, bL, bM, bFlt, x2_si, x2_sb, x3_ssb, slc_len, List.length_map, List.getElem?_cons_zero, List.getElem?_cons_succ, decide_false, decide_true, grdK, cndK, if_true, if_false, Bool.false_eq_true, Bool.true_eq_false, reduceIte, List.length_nil, List.length_cons, Bool.not_true, Bool.not_false, beq_self_eq_true, bne_self_eq_false, this, buildS, List.append_nil, List.all_nil]
  | n + 1, i, acc, hi, ha => by
    have h1 : ((i : Int) < (M.length : Int)) := by omega
    have h1' : i < M.length := by omega
    have hw := wrap_inc h1' (by omega)
    have hg := gap_len B i
    rw [List.drop_eq_getElem_cons h1', L_loopU bu4L0_eq, List.all_cons]
    by_cases hb : okM M[i] = true
    · have hb2 := hb
      simp only [okM, Bool.and_eq_true, decide_eq_true_eq] at hb2
      have ih := loop4 x l M B hM hB n (i + 1) (acc ++ gapS B i ++ M[i]) (by omega) (by simp only [List.length_append]; omega)
      rw [hb, Bool.true_and, show acc ++ buildS B (M[i] :: M.drop (i + 1)) i = acc ++ gapS B i ++ M[i] ++ buildS B (M.drop (i + 1)) (i + 1) by simp [buildS]]
      have g1 : ¬ (20 : Int) < (M[i].length : Int) := by omega
      have g2 : (((M[i].length : Nat) : Int) == 0) = false := by simp only [beq_eq_false_iff_ne]; omega
      by_cases hi2 : i < B.length
      · have j1 : (i : Int) < (B.length : Int) := by omega
        by_cases hl : (B[i]).length ≤ 10
        · have j2 : ((B[i].length : Nat) : Int) ≤ 10 := by omega
          have eg : gapS B i = B[i] := by
            unfold gapS
            have : B.getD i [] = B[i] := by simp [hi2]
            rw [if_pos ⟨hi2, by rw [this]; exact hl⟩, this]
          rw [eg] at ih ⊢
          have a1 : ∀ {bs tau}, binK bs tau .add (.d (.str acc)) (.d (.str B[i])) = some (.d (.str (acc ++ B[i])), bs, tau) := add_str (by simp only [maxLenN]; omega)
          have a2 : ∀ {bs tau}, binK bs tau .add (.d (.str (acc ++ B[i]))) (.d (.str M[i])) = some (.d (.str (acc ++ B[i] ++ M[i])), bs, tau) := add_str (by simp only [maxLenN, List.length_append]; omega)
          simp only [bu4B0]
          simp only [bC, bO, bV, bF, bL, bM, bFlt, x2_si, x2_sb, x3_ssb, slc_len, List.length_map, List.getElem?_cons_zero, List.getElem?_cons_succ, decide_false, decide_true, grdK, cndK, if_true, if_false, Bool.false_eq_true, Bool.true_eq_false, reduceIte, List.length_nil, List.length_cons, Bool.not_true, Bool.not_false, beq_self_eq_true, bne_self_eq_false, ia_map h1', ia_map hi2, h1, j1, j2, g1, g2, a1, a2, hw, ih]
        · have j2 : ¬ ((B[i].length : Nat) : Int) ≤ 10 := by omega
          have eg : gapS B i = [] := by
            unfold gapS
            have : B.getD i [] = B[i] := by simp [hi2]
            rw [if_neg (by rw [this]; omega)]
          rw [eg, List.append_nil] at ih ⊢
          have a2 : ∀ {bs tau}, binK bs tau .add (.d (.str acc)) (.d (.str M[i])) = some (.d (.str (acc ++ M[i])), bs, tau) := add_str (by simp only [maxLenN]; omega)
          simp only [bu4B0]
          simp only [bC, bO, bV, bF, bL, bM, bFlt, x2_si, x2_sb, x3_ssb, slc_len, List.length_map, List.getElem?_cons_zero, List.getElem?_cons_succ, decide_false, decide_true, grdK, cndK, if_true, if_false, Bool.false_eq_true, Bool.true_eq_false, reduceIte, List.length_nil, List.length_cons, Bool.not_true, Bool.not_false, beq_self_eq_true, bne_self_eq_false, ia_map h1', ia_map hi2, h1, j1, j2, g1, g2, a2, hw, ih]
      · have j1 : ¬ (i : Int) < (B.length : Int) := by omega
        have eg : gapS B i = [] := by
          unfold gapS
          rw [if_neg (fun h => hi2 h.1)]
        rw [eg, List.append_nil] at ih ⊢
        have a2 : ∀ {bs tau}, binK bs tau .add (.d (.str acc)) (.d (.str M[i])) = some (.d (.str (acc ++ M[i])), bs, tau) := add_str (by simp only [maxLenN]; omega)
        simp only [bu4B0]
        simp only [bC, bO, bV, bF, bL, bM, bFlt, x2_si, x2_sb, x3_ssb, slc_len, List.length_map, List.getElem?_cons_zero, List.getElem?_cons_succ, decide_false, decide_true, grdK, cndK, if_true, if_false, Bool.false_eq_true, Bool.true_eq_false, reduceIte, List.length_nil, List.length_cons, Bool.not_true, Bool.not_false, beq_self_eq_true, bne_self_eq_false, ia_map h1', h1, j1, g1, g2, a2, hw, ih]
    · have hb : okM M[i] = false := by simpa using hb
      rw [hb, Bool.false_and]
      have hb2 := hb
      simp only [okM, Bool.and_eq_false_iff, decide_eq_false_iff_not] at hb2
      by_cases g1 : (20 : Int) < (M[i].length : Int)
      · simp only [bu4B0]
        simp only [bC, bO, bV, bF, bL, bM, bFlt, x2_si, x2_sb, x3_ssb, slc_len, List.length_map, List.getElem?_cons_zero, List.getElem?_cons_succ, decide_false, decide_true, grdK, cndK, if_true, if_false, Bool.false_eq_true, Bool.true_eq_false, reduceIte, List.length_nil, List.length_cons, Bool.not_true, Bool.not_false, beq_self_eq_true, bne_self_eq_false, ia_map h1', h1, g1]
      · have g2 : (((M[i].length : Nat) : Int) == 0) = true := by simp only [beq_iff_eq]; omega
        simp only [bu4B0]
        simp only [bC, bO, bV, bF, bL, bM, bFlt, x2_si, x2_sb, x3_ssb, slc_len, List.length_map, List.getElem?_cons_zero, List.getElem?_cons_succ, decide_false, decide_true, grdK, cndK, if_true, if_false, Bool.false_eq_true, Bool.true_eq_false, reduceIte, List.length_nil, List.length_cons, Bool.not_true, Bool.not_false, beq_self_eq_true, bne_self_eq_false, ia_map h1', h1, g1, g2]

theorem run4 (x l : List UInt8) (M B : List (List UInt8)) (hx : x.length ≤ 1048576) (hl : l.length ≤ 1048576) (hB : B.length ≤ 1048576) (hM : M.length ≤ 1048576) :
    TU 4 [.d (.str x), .d (.str l), .d (slc 1 (M.map .str)), .d (slc 1 (B.map .str))] [] = some (.bool true, []) := by
  refine oku4.run (f := 4) ?_
  have c11 : ∀ {pu bs tau}, evCall TU pu 11 [] bs tau = some (.d (.bool true), bs, tau) := call_d rfl run11
  have hw : IntKind.i64.wrap ((x.length : Int) + l.length) = (x.length : Int) + l.length := by rw [wrap_s (by omega)]
  by_cases h5 : M.length ≤ 5
  case neg =>
    have g : (5 : Int) < (M.length : Int) := by omega
    simp only [bu4]
    simp only [bC, bO, bV, bF, bL, bM, bFlt, R_build, R_mks, List.map_cons, List.map_nil, slc_len, List.length_map, List.getElem?_cons_zero, List.getElem?_cons_succ, decide_false, decide_true, grdK, cndK, if_true, if_false, Bool.false_eq_true, Bool.true_eq_false, reduceIte, List.length_nil, List.length_cons, Bool.not_true, Bool.not_false, beq_self_eq_true, bne_self_eq_false, c11, g]
  have g5 : ¬ (5 : Int) < (M.length : Int) := by omega
  by_cases h60 : x.length + l.length ≤ 60
  case neg =>
    have g : (60 : Int) < (x.length : Int) + l.length := by omega
    simp only [bu4]
    simp only [bC, bO, bV, bF, bL, bM, bFlt, R_build, R_mks, List.map_cons, List.map_nil, slc_len, List.length_map, List.getElem?_cons_zero, List.getElem?_cons_succ, decide_false, decide_true, grdK, cndK, if_true, if_false, Bool.false_eq_true, Bool.true_eq_false, reduceIte, List.length_nil, List.length_cons, Bool.not_true, Bool.not_false, beq_self_eq_true, bne_self_eq_false, c11, g5, hw, g]
  have g60 : ¬ (60 : Int) < (x.length : Int) + l.length := by omega
  have lp := loop4 x l M B h5 (by omega) M.length 0 x rfl (by omega)
  have lp : DnB TU (.loop bu4L0) [.d (.str x), .d (.str l), .d (slc 1 (M.map .str)), .d (slc 1 (B.map .str)), .d (.str x), .d (.int .i64 M.length), .d (.int .i64 0)] [] [] =
      if M.all okM then some (.ex 0, [.d (.str x), .d (.str l), .d (slc 1 (M.map .str)), .d (.str (x ++ buildS B M 0))], [], []) else some (.rt, [.d (.bool true)], [], []) := lp
  cases hall : M.all okM with
  | false =>
    rw [hall] at lp
    simp only [bu4]
    simp only [bC, bO, bV, bF, bL, bM, bFlt, R_build, R_mks, List.map_cons, List.map_nil, slc_len, List.length_map, List.getElem?_cons_zero, List.getElem?_cons_succ, decide_false, decide_true, grdK, cndK, if_true, if_false, Bool.false_eq_true, Bool.true_eq_false, reduceIte, List.length_nil, List.length_cons, Bool.not_true, Bool.not_false, beq_self_eq_true, bne_self_eq_false, c11, g5, hw, g60, lp]
  | true =>
    rw [hall] at lp
    have hm : ∀ m ∈ M, m.length ≤ 20 := fun m hm => by
      have := List.all_eq_true.1 hall m hm
      simp only [okM, Bool.and_eq_true, decide_eq_true_eq] at this
      exact this.2
    have hbl := build_len B M 0 hm
    have hpf := pieces_found x l B M
    have hT : (x ++ buildS B M 0 ++ l).length ≤ 210 := by simp only [List.length_append]; omega
    have a1 : ∀ {bs tau}, binK bs tau .add (.d (.str (x ++ buildS B M 0))) (.d (.str l)) = some (.d (.str (x ++ buildS B M 0 ++ l)), bs, tau) := add_str (by simp only [maxLenN, List.length_append]; omega)
    rw [← List.append_assoc] at hpf
    generalize x ++ buildS B M 0 ++ l = T at *
    obtain ⟨f, hf⟩ : ∃ f : Flt, f = ⟨4, upS, [], x, l, M, []⟩ := ⟨_, rfl⟩
    have ok : f.Ok := by rw [hf]; exact .mk (by show upS.length ≤ _; decide) (by show M.length ≤ _; omega) (by show 0 ≤ _; omega) (fun p h => by cases h)
    have en : encF f = .agg [.int .i64 4, .str upS, .str [], .str x, .str l, slc 1 (M.map .str), .slice 0 []] := by rw [hf]; rfl
    have bd : ∀ {bs tau}, buildK [.int .i64 0, .str [], .str [], .str [], .str [], .nils 0, .nils 0] bs tau [(0, 1, .d (.int .i64 4)), (1, 1, .d (.str [117, 115, 101, 114, 80, 97, 115, 115, 119, 111, 114, 100])), (3, 1, .d (.str x)), (5, 1, .d (slc 1 (M.map .str))), (4, 1, .d (.str l))] = some (.d (.agg [.int .i64 4, .str upS, .str [], .str x, .str l, slc 1 (M.map .str), .nils 0]), bs, tau) := by
      intros
      generalize M.map DV.str = L
      cases L <;> rfl
    obtain ⟨X, hX⟩ : ∃ X, X = DV.agg [.int .i64 4, .str upS, .str [], .str x, .str l, slc 1 (M.map .str), .nils 0] := ⟨_, rfl⟩
    have cX : canon2 X = encF f := by rw [hX, en]; simp only [canon2, List.map_cons, List.map_nil, slc_c1]; rfl
    have sX : ∀ {tau}, stK 7 [.cells [.d (.int .i64 0), .d (.str []), .d (.str []), .d (.str []), .d (.str []), .d (.nils 0), .d (.nils 0)]] tau (.bp 0 0) (.d X) = some (.junk, [.cells (X.cells.map .d)], tau) := by
      intros; rw [hX]; generalize M.map DV.str = L; cases L <;> rfl
    have lX : ∀ {tau}, ldK true 7 [.cells (X.cells.map .d)] tau (.bp 0 0) = some (.d X, [.cells (X.cells.map .d)], tau) := by
      intros; rw [hX]; generalize M.map DV.str = L; cases L <;> rfl
    rw [← hX] at bd
    have ea1 : argVs [] [.d X] = some ([.d (encF f)], []) := by simp only [bCall, cX]
    have c17 : ∀ {pu bs tau}, evCall TU pu 17 [.d X] bs tau = some (.d (.bool (formedF f)), bs, tau) := call_d ea1 (lift1 _ _ _ _ (run17 f ok))
    have m1 : ∀ {bs tau}, mksK none 1 2 [.str []] bs tau [(0, .d (.str [])), (1, .d (.str T))] = some (.d (.slice 1 [.str [], .str T]), bs, tau) := by intros; rfl
    have m2 : ∀ {bs tau}, buildK [.str [], .nils 0] bs tau [(0, 1, .d (.str [117, 115, 101, 114, 80, 97, 115, 115, 119, 111, 114, 100])), (1, 1, .d (.slice 1 [.str [], .str T]))] = some (.d (.agg [.str upS, .slice 1 [.str [], .str T]]), bs, tau) := by intros; rfl
    have m3 : ∀ {bs tau}, mksK none 2 1 [.str [], .nils 0] bs tau [(0, .d (.agg [.str upS, .slice 1 [.str [], .str T]]))] = some (.d (.slice 2 [.agg [.str upS, .slice 1 [.str [], .str T]]]), bs, tau) := by intros; rfl
    cases hfm : formedF f with
    | false =>
      rw [hfm] at c17
      simp only [bu4]
      simp only [bC, bO, bV, bF, bL, bM, bFlt, R_build, R_mks, List.map_cons, List.map_nil, slc_len, List.length_map, List.getElem?_cons_zero, List.getElem?_cons_succ, decide_false, decide_true, grdK, cndK, if_true, if_false, Bool.false_eq_true, Bool.true_eq_false, reduceIte, List.length_nil, List.length_cons, Bool.not_true, Bool.not_false, beq_self_eq_true, bne_self_eq_false, c11, g5, hw, g60, lp, a1, bd, sX, lX, c17]
    | true =>
      rw [hfm] at c17
      by_cases t1 : T.length < 1
      · have g1 : (T.length : Int) < 1 := by omega
        simp only [bu4]
        simp only [bC, bO, bV, bF, bL, bM, bFlt, R_build, R_mks, List.map_cons, List.map_nil, slc_len, List.length_map, List.getElem?_cons_zero, List.getElem?_cons_succ, decide_false, decide_true, grdK, cndK, if_true, if_false, Bool.false_eq_true, Bool.true_eq_false, reduceIte, List.length_nil, List.length_cons, Bool.not_true, Bool.not_false, beq_self_eq_true, bne_self_eq_false, c11, g5, hw, g60, lp, a1, bd, sX, lX, c17, g1]
      · have g1 : ¬ (T.length : Int) < 1 := by omega
        by_cases t2 : 200 < T.length
        · have g2 : (200 : Int) < (T.length : Int) := by omega
          simp only [bu4]
          simp only [bC, bO, bV, bF, bL, bM, bFlt, R_build, R_mks, List.map_cons, List.map_nil, slc_len, List.length_map, List.getElem?_cons_zero, List.getElem?_cons_succ, decide_false, decide_true, grdK, cndK, if_true, if_false, Bool.false_eq_true, Bool.true_eq_false, reduceIte, List.length_nil, List.length_cons, Bool.not_true, Bool.not_false, beq_self_eq_true, bne_self_eq_false, c11, g5, hw, g60, lp, a1, bd, sX, lX, c17, g1, g2]
        · have g2 : ¬ (200 : Int) < (T.length : Int) := by omega
          have hne : T ≠ [] := fun e => t1 (by rw [e]; simp)
          have r82 := run82 f (by rw [hf]; rfl) (by rw [hf]; rfl) (by rw [hf]; rfl) (by rw [hf]; show M.length ≤ _; omega) T hne (by omega) (by rw [hf]; exact hpf)
          have r14 := run14 f ok hfm _ rfl 1 (run40 f (by rw [hf]; rfl) _ rfl 1 r82)
          have ea2 : argVs [] [.d X, .d (.slice 2 [.agg [.str upS, .slice 1 [.str [], .str T]]])] = some ([.d (encF f), .d (.slice 2 [.agg [.str upS, .slice 1 [.str [], .str T]]])], []) := by simp only [bCall, cX]; rfl
          have c14 : ∀ {pu bs tau}, evCall TU pu 14 [.d X, .d (.slice 2 [.agg [.str upS, .slice 1 [.str [], .str T]]])] bs tau = some (.d (.int .i64 1), bs, tau) := call_d ea2 r14
          simp only [bu4]
          simp only [bC, bO, bV, bF, bL, bM, bFlt, R_build, R_mks, List.map_cons, List.map_nil, slc_len, List.length_map, List.getElem?_cons_zero, List.getElem?_cons_succ, decide_false, decide_true, grdK, cndK, if_true, if_false, Bool.false_eq_true, Bool.true_eq_false, reduceIte, List.length_nil, List.length_cons, Bool.not_true, Bool.not_false, beq_self_eq_true, bne_self_eq_false, c11, g5, hw, g60, lp, a1, bd, sX, lX, c17, g1, g2, m1, m2, m3, c14]
end Go.Abs

/- FilterPieces: the row and the card, out of the run. Written by wip/tools/gen_row.py. -/
namespace Go.Proofs.YtinebfdbacaahaaGreatDoor.filterPieces
open Go Go.Abs Go.Proofs

theorem r1 : Rows.filterPiecesUptoRow.unfollowed = Tryz.prog.unfollowed 4 := by kernel_rfl
theorem r2 : Rows.filterPiecesUptoRow.recurses = Tryz.prog.recurses 4 := by kernel_rfl
theorem r3 : Rows.filterPiecesUptoRow.named = Tryz.prog.varsNamed 4 := by kernel_rfl
theorem r4 : Rows.filterPiecesUptoRow.inPlace = Tryz.prog.inPlace 4 := by kernel_rfl
theorem r5 : (Rows.filterPiecesUptoRow.lifted == Tryz.prog.liftsFinal) = true := by kernel_rfl
theorem r6 : (Tryz.prog.make == some Rows.filterPiecesUptoRow.make) = true := by kernel_rfl
theorem r7 : (Rows.filterPiecesUptoRow.plainKeys == Tryz.prog.plainKeys) = true := by kernel_rfl
theorem closed : joinedFacts Tryz.prog 4 Tryz.f4 (Rows.OpenSpec.upto Rows.filterPiecesSpec).bare Rows.filterPiecesUptoRow = true := by
  unfold joinedFacts
  simp only [Bool.and_eq_true]
  repeat' apply And.intro
  all_goals (with_reducible first | exact laidOut | exact mapsRow | exact heard | exact enters | exact r5 | exact r6 | exact r7 | exact beq_iff_eq.2 r1 | exact beq_iff_eq.2 r2 | exact beq_iff_eq.2 r3 | exact beq_iff_eq.2 r4 | skip)
  all_goals (as_aux_lemma => kernel_rfl)

theorem reads (os : Os) {H : Type} (enc : TypeId × Value → H) : ∃ places, DataW.whole enc Tryz.prog ((laidWorld os).forCall (fun _ _ => 0) ⟨#[], #[.string ⟨#[]⟩, .string ⟨#[]⟩, .slice none 0 0, .slice none 0 0], []⟩).memory Tryz.f4.params.toList Rows.filterPiecesSpec.vars false (#[.string ⟨#[]⟩, .string ⟨#[]⟩, .slice none 0 0, .slice none 0 0] : Array Value).toList 8 = some ([.lit (.string []), .lit (.string []), .nil, .nil], [], places) :=
  ⟨[], by kernel_rfl⟩
theorem fit1 (os : Os) : ((laidWorld os).forCall (fun _ _ => 0) ⟨#[], #[.string ⟨#[]⟩, .string ⟨#[]⟩, .slice none 0 0, .slice none 0 0], []⟩).variablesRefB Tryz.checked.prog = true := by kernel_rfl
theorem fit2 (os : Os) : (((laidWorld os).forCall (fun _ _ => 0) ⟨#[], #[.string ⟨#[]⟩, .string ⟨#[]⟩, .slice none 0 0, .slice none 0 0], []⟩).heap.toList.drop Tryz.checked.prog.globals.size).take ((begin Tryz.checked.prog (fun _ _ => 0) default).world.heap.size - Tryz.checked.prog.globals.size) =
      (begin Tryz.checked.prog (fun _ _ => 0) default).world.heap.toList.drop Tryz.checked.prog.globals.size := by kernel_rfl
theorem fit3 (os : Os) : Input.okWideB Tryz.checked.prog ((laidWorld os).forCall (fun _ _ => 0) ⟨#[], #[.string ⟨#[]⟩, .string ⟨#[]⟩, .slice none 0 0, .slice none 0 0], []⟩) 4 ⟨#[], #[.string ⟨#[]⟩, .string ⟨#[]⟩, .slice none 0 0, .slice none 0 0], []⟩ = true := by kernel_rfl
theorem pars : Tryz.f4.params.toList = [9, 9, 22, 22] := by rw [Tryz.params4]

set_option maxRecDepth 100000 in
theorem lifted {pr : FuncId → Option (List AV → List Box → Option (DV × List Box))} (hT : TabOK Tryz.prog (Tab.of Tryz.prog pr)) (hrun : ∀ xs, Al2 (fun t x => ∃ n, Typed Tryz.prog 1048576 n t x) [9, 9, 22, 22] xs → Run (Tab.of Tryz.prog pr) 4 (xs.map .d) [] = some (.bool true, []))
    (os : Os) (started : os.Started) (H : Type) (enc : TypeId × Value → H) (F : Stop.Interp) :
    ReturnsInHanded {} Tryz.checked os 4 .any ((Rows.OpenSpec.upto Rows.filterPiecesSpec).preRow enc Tryz.prog Tryz.f4 Rows.filterPiecesUptoRow.domain false Rows.filterPiecesUptoRow.laid) (((Rows.OpenSpec.upto Rows.filterPiecesSpec).at F).post enc Tryz.prog Tryz.f4 false true false false) := by
  obtain ⟨places, hx⟩ := reads os enc
  refine returnsInHanded_of_row (C := Tryz.checked) (s := Rows.OpenSpec.upto Rows.filterPiecesSpec) own started (by as_aux_lemma => kernel_rfl) Tryz.func4
    (witness_row_atRef (enc := enc) (C := Tryz.checked) false (laidWorld os) #[.string ⟨#[]⟩, .string ⟨#[]⟩, .slice none 0 0, .slice none 0 0] rfl (fit1 os) (fit2 os) (fit3 os)
      (OpenSpec.preRow_of_cond 8 hx (by as_aux_lemma => kernel_rfl) (fun k hk => by cases hk; kernel_rfl) (by as_aux_lemma => kernel_rfl) (laid_met os _))) ?_
  intro W base args ds gs before hval hW _ hcond _ hL hsh _
  have hb := of_decide_eq_true (hcond _ rfl)
  exact law_contract (s := Rows.filterPiecesSpec) (tb := 4) hT typesP_data typesP_read laidOut (by rw [pars]; decide) (by as_aux_lemma => kernel_rfl) Tryz.underlying4 rfl
    (fun ds hd => by
      rw [pars] at hd
      match ds, hd with
      | [d0, d1, d2, d3], _ => rfl)
    (by rw [pars]; exact hrun) W args ds gs before hval hW hb (glob_of hL hsh)

theorem said {pr : FuncId → Option (List AV → List Box → Option (DV × List Box))} (hT : TabOK Tryz.prog (Tab.of Tryz.prog pr)) (hrun : ∀ xs, Al2 (fun t x => ∃ n, Typed Tryz.prog 1048576 n t x) [9, 9, 22, 22] xs → Run (Tab.of Tryz.prog pr) 4 (xs.map .d) [] = some (.bool true, [])) : Rows.FilterPiecesUptoSaid :=
  OpenClaim.holds_of_cond 4 Tryz.f4 rfl rfl rfl rfl rfl rfl rfl ⟨rfl, rfl, rfl, rfl, rfl⟩ rfl rfl rfl rfl rfl (by as_aux_lemma => kernel_rfl) Tryz.func4 closed
    (of_decide_eq_true (by as_aux_lemma => kernel_rfl)) (by unfold Func.isWrapper; first | (rw [if_pos (by decide +kernel)]; kernel_rfl) | (rw [if_neg (by decide +kernel)]; exact ⟨rfl, rfl⟩))
    (fun os started H enc _ F => by rw [OpenClaim.pre_eq_preRow]; exact lifted hT hrun os started H enc F)

theorem named : Tryz.prog.funcNamed "verger/vergerlaw07.FilterPieces" = some 4 := by kernel_rfl
theorem plain (f : FuncId) (fn : Func) (hf : Tryz.pinned.checked.prog.funcNamed "verger/vergerlaw07.FilterPieces" = some f) (hfn : Tryz.pinned.checked.prog.funcs[f]? = some fn) :
    true = Tryz.pinned.checked.prog.looks [] ∧ ∀ (j : Nat) t, fn.params[j]? = some t → Tryz.pinned.checked.prog.wantsStandIn t = false := by
  obtain rfl : f = 4 := Option.some.inj (named.symm.trans hf) |>.symm
  obtain rfl : fn = Tryz.f4 := (Option.some.inj (Tryz.func4.symm.trans hfn)).symm
  refine ⟨lookOk, fun j t ht => ?_⟩
  have hm := Array.mem_of_getElem? ht
  rw [← Array.mem_toList_iff, pars] at hm
  exact typesP_stand t ((show ∀ t ∈ ([9, 9, 22, 22] : List TypeId), t ∈ typesP by decide) t hm)

theorem card {pr : FuncId → Option (List AV → List Box → Option (DV × List Box))} (hT : TabOK Tryz.prog (Tab.of Tryz.prog pr)) (hrun : ∀ xs, Al2 (fun t x => ∃ n, Typed Tryz.prog 1048576 n t x) [9, 9, 22, 22] xs → Run (Tab.of Tryz.prog pr) 4 (xs.map .d) [] = some (.bool true, [])) : Rows.FilterPiecesUptoCardSaid :=
  Claim7.holds_tied_plain_at .later [] _ _ _ _ (said hT hrun) (fun _ h => by cases h) (by as_aux_lemma => kernel_rfl) (fun _ h => by cases h) filterPiecesUpto_row_tie rfl ⟨rfl, rfl⟩ (by as_aux_lemma => kernel_rfl) rfl plain (by as_aux_lemma => kernel_rfl)
end Go.Proofs.YtinebfdbacaahaaGreatDoor.filterPieces

/- FilterPieces: the card. -/
namespace Go.Proofs.YtinebfdbacaahaaGreatDoor
open Go Go.Abs Go.Proofs

theorem filterPiecesUpto_card : Rows.FilterPiecesUptoCardSaid := by
  refine filterPieces.card tab1_ok fun xs h => ?_
  obtain ⟨a, _, rfl, ⟨n1, h1⟩, b, _, rfl, ⟨n2, h2⟩, c, _, rfl, ⟨n3, h3⟩, d, _, rfl, ⟨n4, h4⟩, rfl⟩ := h
  obtain ⟨x, rfl, hx⟩ := typed9 h1
  obtain ⟨l, rfl, hl⟩ := typed9 h2
  obtain ⟨M, rfl, hM, _⟩ := typed22 h3
  obtain ⟨B, rfl, hB, _⟩ := typed22 h4
  exact run4 x l M B hx hl hB hM
end Go.Proofs.YtinebfdbacaahaaGreatDoor
