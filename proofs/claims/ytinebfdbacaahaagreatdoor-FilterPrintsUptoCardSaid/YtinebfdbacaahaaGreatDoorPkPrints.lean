/- FilterPrints is proved in its UptoCardSaid form: for any two filters whose data are of a size up to the card's bound the statement's function returns true. There is no further condition. -/
import Derived.Test.YtinebfdbacaahaaGreatDoorPkH
import Derived.Test.YtinebfdbacaahaaGreatDoorPkG
import Derived.Test.YtinebfdbacaahaaGreatDoorPkD
import Derived.Test.YtinebfdbacaahaaGreatDoorPkF
import Derived.Test.YtinebfdbacaahaaGreatDoorPkC
import Derived.Test.YtinebfdbacaahaaGreatDoorCards
import Derived.Test.YtinebfdbacaahaaGreatDoorTie
import Derived.JoinedCond
import Derived.WalkKit
set_option linter.unusedSimpArgs false
set_option linter.unusedVariables false
set_option linter.unusedSectionVars false
set_option linter.unnecessarySimpa false

/- The program's functions in the second form: written by wip/tools/PrintB.lean. -/
namespace Go.Abs
open Go Go.Proofs
/- 5: verger/vergerlaw07.FilterPrints, 2 -/
def bu5 : BFun := ⟨[.t 0],
  .seq (.ins [⟨none, .box 7 (.t 0)⟩, ⟨none, .box 7 (.t 1)⟩]) <|
  .seq (.seq (.ins [⟨none, .call false 11 []⟩, ⟨none, .not (.t 4)⟩, ⟨some (5, false), .ld true 7 (.t 2)⟩, ⟨some (5, false), .call false 12 [.t 6]⟩, ⟨some (5, false), .not (.t 7)⟩, ⟨none, .pick (.t 5) (.d (.bool true)) (.t 8)⟩, ⟨some (9, false), .ld true 7 (.t 3)⟩, ⟨some (9, false), .call false 12 [.t 10]⟩, ⟨some (9, false), .not (.t 11)⟩, ⟨none, .pick (.t 9) (.d (.bool true)) (.t 12)⟩]) <|
  .cond (.t 13) (.seq (.ins [⟨none, .call false 11 []⟩]) <|
  .ret [.t 14]) (.skip)) <|
  .seq (.ins [⟨none, .ld true 7 (.t 2)⟩, ⟨none, .call false 15 [.t 14]⟩, ⟨none, .call false 18 [.t 15]⟩, ⟨none, .ext (.t 16) 0⟩, ⟨none, .ext (.t 16) 1⟩]) <|
  .seq (.ins [⟨none, .ld true 7 (.t 2)⟩, ⟨none, .call false 19 [.t 19]⟩, ⟨none, .ext (.t 20) 0⟩, ⟨none, .ext (.t 20) 1⟩]) <|
  .seq (.ins [⟨none, .bin .eql (.t 17) (.t 21)⟩, ⟨some (23, true), .mv (.t 18)⟩, ⟨some (23, true), .mv (.t 22)⟩, ⟨some (23, true), .bin .eql (.t 24) (.t 25)⟩, ⟨none, .pick (.t 23) (.t 26) (.d (.bool false))⟩, ⟨some (27, true), .ld true 7 (.t 2)⟩, ⟨some (27, true), .call true 15 [.t 28]⟩, ⟨some (27, true), .call true 17 [.t 29]⟩, ⟨some (27, true), .ld true 7 (.t 2)⟩, ⟨some (27, true), .call true 20 [.t 31]⟩, ⟨some (27, true), .binb .eql (.t 30) (.t 32)⟩, ⟨none, .pick (.t 27) (.t 33) (.d (.bool false))⟩, ⟨some (34, true), .ld true 7 (.t 2)⟩, ⟨some (34, true), .call true 15 [.t 35]⟩, ⟨some (34, true), .call true 21 [.t 36]⟩, ⟨some (34, true), .ld true 7 (.t 2)⟩, ⟨some (34, true), .call true 22 [.t 38]⟩, ⟨some (34, true), .bin .eql (.t 37) (.t 39)⟩, ⟨none, .pick (.t 34) (.t 40) (.d (.bool false))⟩, ⟨some (41, true), .ld true 7 (.t 2)⟩, ⟨some (41, true), .call true 15 [.t 42]⟩, ⟨some (41, true), .ld true 7 (.t 3)⟩, ⟨some (41, true), .call true 15 [.t 44]⟩, ⟨some (41, true), .call true 23 [.t 43, .t 45]⟩, ⟨some (41, true), .ld true 7 (.t 2)⟩, ⟨some (41, true), .ld true 7 (.t 3)⟩, ⟨some (41, true), .call false 24 [.t 47, .t 48]⟩, ⟨some (41, true), .binb .eql (.t 46) (.t 49)⟩, ⟨none, .pick (.t 41) (.t 50) (.d (.bool false))⟩]) <|
  .ret [.t 51]⟩
theorem oku5 : Code2 Tryz.prog prims1 5 2 bu5 := Code2.mk' rfl Tryz.func5 (by kernel_rfl) (by kernel_rfl)

/- 11: verger/vergerlaw07.awake, 0 -/
def bu11 : BFun := ⟨[.t 0],
  .seq (.ins []) <|
  .seq (.ins [⟨none, .call false 25 [.d (.str [40, 99, 110, 61, 97, 42, 41])]⟩, ⟨none, .ext (.t 0) 0⟩, ⟨none, .ext (.t 0) 1⟩, ⟨none, .alloc [.int .i64 0, .str [], .str [], .str [], .str [], .nils 0, .nils 0]⟩, ⟨none, .st 7 (.t 3) (.t 1)⟩]) <|
  .seq (.ins [⟨none, .bin .eql (.t 2) (.d (.int .i64 0))⟩, ⟨some (5, true), .fad (.t 3) 0⟩, ⟨some (5, true), .ld false 1 (.t 6)⟩, ⟨some (5, true), .bin .eql (.t 7) (.d (.int .i64 4))⟩, ⟨none, .pick (.t 5) (.t 8) (.d (.bool false))⟩, ⟨some (9, true), .fad (.t 3) 3⟩, ⟨some (9, true), .ld false 1 (.t 10)⟩, ⟨some (9, true), .bin .eql (.t 11) (.d (.str [97]))⟩, ⟨none, .pick (.t 9) (.t 12) (.d (.bool false))⟩, ⟨some (13, true), .ld true 7 (.t 3)⟩, ⟨some (13, true), .mks none 1 1 [.str []] [(0, (.d (.str [65, 110, 110])))]⟩, ⟨some (13, true), .build [.str [], .nils 0] [(0, 1, (.d (.str [99, 110]))), (1, 1, (.t 15))]⟩, ⟨some (13, true), .mks none 2 1 [.str [], .nils 0] [(0, (.t 16))]⟩, ⟨some (13, true), .call false 14 [.t 14, .t 17]⟩, ⟨some (13, true), .bin .eql (.t 18) (.d (.int .i64 1))⟩, ⟨none, .pick (.t 13) (.t 19) (.d (.bool false))⟩]) <|
  .ret [.t 20]⟩
theorem oku11 : Code2 Tryz.prog prims1 11 0 bu11 := Code2.mk' rfl Tryz.func11 (by kernel_rfl) (by kernel_rfl)

/- 25: verger/filter.Parse, 1 -/
def bu25 : BFun := ⟨[.cell 0 true 7, .t 1],
  .seq (.ins [⟨none, .alloc [.int .i64 0, .str [], .str [], .str [], .str [], .nils 0, .nils 0]⟩]) <|
  .seq (.seq (.ins [⟨none, .lenS (.t 0)⟩, ⟨none, .bin .gtr (.t 2) (.d (.int .i64 16384))⟩]) <|
  .cond (.t 3) (.seq (.ins [⟨none, .build [.int .i64 0, .str [], .str [], .str [], .str [], .nils 0, .nils 0] []⟩, ⟨none, .st 7 (.t 1) (.t 4)⟩]) <|
  .ret [.t 1, .d (.int .i64 4)]) (.skip)) <|
  .seq (.ins [⟨none, .build [.str [], .int .i64 0] [(0, 1, (.t 0)), (1, 1, (.d (.int .i64 40)))]⟩, ⟨none, .box 2 (.t 4)⟩]) <|
  .seq (.ins [⟨none, .call false 51 [.t 5, .d (.int .i64 1)]⟩, ⟨none, .ext (.t 6) 0⟩, ⟨none, .ext (.t 6) 1⟩, ⟨none, .alloc [.int .i64 0, .str [], .str [], .str [], .str [], .nils 0, .nils 0]⟩, ⟨none, .st 7 (.t 9) (.t 7)⟩]) <|
  .seq (.seq (.ins [⟨none, .not (.t 8)⟩, ⟨some (11, false), .mv (.t 5)⟩, ⟨some (11, false), .nck (.t 12)⟩, ⟨some (11, false), .fad (.t 13) 0⟩, ⟨some (11, false), .ld false 1 (.t 14)⟩, ⟨some (11, false), .bin .neq (.t 15) (.d (.str []))⟩, ⟨none, .pick (.t 11) (.d (.bool true)) (.t 16)⟩, ⟨some (17, false), .ld true 7 (.t 9)⟩, ⟨some (17, false), .call false 17 [.t 18]⟩, ⟨some (17, false), .not (.t 19)⟩, ⟨none, .pick (.t 17) (.d (.bool true)) (.t 20)⟩]) <|
  .cond (.t 21) (.seq (.ins [⟨none, .build [.int .i64 0, .str [], .str [], .str [], .str [], .nils 0, .nils 0] []⟩, ⟨none, .st 7 (.t 1) (.t 22)⟩]) <|
  .ret [.t 1, .d (.int .i64 2)]) (.skip)) <|
  .seq (.ins [⟨none, .ld true 7 (.t 9)⟩, ⟨none, .st 7 (.t 1) (.t 22)⟩]) <|
  .ret [.t 1, .d (.int .i64 0)]⟩
theorem oku25 : Code2 Tryz.prog prims1 25 1 bu25 := Code2.mk' rfl Tryz.func25 (by kernel_rfl) (by kernel_rfl)

/- 51: (*verger/filter.reader).read, 2 -/
def bu51B0 : BC :=
  .seq (.seq (.seq (.ins [⟨none, .call false 92 [.t 0, .d (.int .u8 41)]⟩, ⟨none, .not (.t 3)⟩]) <|
  .cond (.t 4) (.skip) (.exit 0 [.t 2])) <|
  .block 1 (.seq (.seq (.ins [⟨none, .bin .add (.t 1) (.d (.int .i64 1))⟩, ⟨none, .call false 51 [.t 0, .t 5]⟩, ⟨none, .ext (.t 6) 0⟩, ⟨none, .ext (.t 6) 1⟩, ⟨none, .alloc [.int .i64 0, .str [], .str [], .str [], .str [], .nils 0, .nils 0]⟩, ⟨none, .st 7 (.t 9) (.t 7)⟩]) <|
  .seq (.seq (.ins [⟨none, .not (.t 8)⟩]) <|
  .cond (.t 11) (.seq (.ins [⟨none, .ld true 7 (.t 2)⟩, ⟨none, .st 7 (.t 2) (.t 12)⟩]) <|
  .ret [.t 2, .d (.bool false)]) (.skip)) <|
  .ins [⟨none, .fad (.t 2) 6⟩, ⟨none, .ld false 1 (.t 12)⟩, ⟨none, .ld true 7 (.t 9)⟩, ⟨none, .mks none 7 1 [.int .i64 0, .str [], .str [], .str [], .str [], .nils 0, .nils 0] [(0, (.t 14))]⟩, ⟨none, .app 33 7 (.t 13) (.t 15)⟩, ⟨none, .fad (.t 2) 6⟩, ⟨none, .st 1 (.t 17) (.t 16)⟩]) <|
  .foc [.t 0, .t 1, .t 2])) <|
  .foc [.t 0, .t 1, .t 2]
def bu51L0 : BC := bu51B0
theorem bu51L0_eq : bu51L0 = bu51B0 := rfl

def bu51 : BFun := ⟨[.cell 0 true 7, .t 1],
  .seq (.ins [⟨none, .alloc [.int .i64 0, .str [], .str [], .str [], .str [], .nils 0, .nils 0]⟩]) <|
  .seq (.seq (.ins [⟨none, .nck (.t 0)⟩, ⟨none, .fad (.t 3) 1⟩, ⟨none, .ld false 1 (.t 4)⟩, ⟨none, .bin .sub (.t 5) (.d (.int .i64 1))⟩, ⟨none, .nck (.t 0)⟩, ⟨none, .fad (.t 7) 1⟩, ⟨none, .st 1 (.t 8) (.t 6)⟩]) <|
  .seq (.ins [⟨none, .nck (.t 0)⟩, ⟨none, .fad (.t 10) 1⟩, ⟨none, .ld false 1 (.t 11)⟩, ⟨none, .bin .lss (.t 12) (.d (.int .i64 0))⟩, ⟨some (13, false), .mv (.t 1)⟩, ⟨some (13, false), .bin .gtr (.t 14) (.d (.int .i64 20))⟩, ⟨none, .pick (.t 13) (.d (.bool true)) (.t 15)⟩, ⟨some (16, false), .mv (.t 0)⟩, ⟨some (16, false), .call false 92 [.t 17, .d (.int .u8 40)]⟩, ⟨some (16, false), .not (.t 18)⟩, ⟨none, .pick (.t 16) (.d (.bool true)) (.t 19)⟩, ⟨some (20, false), .mv (.t 0)⟩, ⟨some (20, false), .nck (.t 21)⟩, ⟨some (20, false), .fad (.t 22) 0⟩, ⟨some (20, false), .ld false 1 (.t 23)⟩, ⟨some (20, false), .bin .eql (.t 24) (.d (.str []))⟩, ⟨none, .pick (.t 20) (.d (.bool true)) (.t 25)⟩]) <|
  .cond (.t 26) (.seq (.ins [⟨none, .ld true 7 (.t 2)⟩, ⟨none, .st 7 (.t 2) (.t 27)⟩]) <|
  .ret [.t 2, .d (.bool false)]) (.skip)) <|
  .seq (.ins [⟨none, .nck (.t 0)⟩, ⟨none, .fad (.t 27) 0⟩, ⟨none, .ld false 1 (.t 28)⟩, ⟨none, .ixs (.t 29) (.d (.int .i64 0))⟩, ⟨none, .call false 93 [.d (.str [38, 124, 33]), .t 30]⟩, ⟨none, .fad (.t 2) 0⟩, ⟨none, .st 1 (.t 32) (.t 31)⟩]) <|
  .seq (.seq (.ins [⟨none, .fad (.t 2) 0⟩, ⟨none, .ld false 1 (.t 34)⟩, ⟨none, .bin .lss (.t 35) (.d (.int .i64 0))⟩]) <|
  .cond (.t 36) (.seq (.ins [⟨none, .nck (.t 0)⟩, ⟨none, .fad (.t 37) 0⟩, ⟨none, .ld false 1 (.t 38)⟩, ⟨none, .call false 94 [.t 39, .d (.str [41])]⟩, ⟨none, .ext (.t 40) 0⟩, ⟨none, .ext (.t 40) 1⟩, ⟨none, .ext (.t 40) 2⟩]) <|
  .seq (.ins [⟨none, .nck (.t 0)⟩, ⟨none, .fad (.t 44) 0⟩, ⟨none, .st 1 (.t 45) (.t 42)⟩]) <|
  .seq (.ins [⟨none, .call false 95 [.t 41]⟩, ⟨none, .ext (.t 47) 0⟩, ⟨none, .ext (.t 47) 1⟩, ⟨none, .st 7 (.t 2) (.t 48)⟩]) <|
  .seq (.ins [⟨none, .ld true 7 (.t 2)⟩, ⟨some (49, true), .mv (.t 43)⟩, ⟨none, .pick (.t 49) (.t 52) (.d (.bool false))⟩, ⟨none, .st 7 (.t 2) (.t 51)⟩]) <|
  .ret [.t 2, .t 53]) (.skip)) <|
  .seq (.ins [⟨none, .nck (.t 0)⟩, ⟨none, .fad (.t 37) 0⟩, ⟨none, .ld false 1 (.t 38)⟩, ⟨none, .sls (.t 39) (some (.d (.int .i64 1))) none⟩, ⟨none, .nck (.t 0)⟩, ⟨none, .fad (.t 41) 0⟩, ⟨none, .st 1 (.t 42) (.t 40)⟩]) <|
  .seq (.block 0 (.seq (.foc [.t 0, .t 1, .t 2]) <|
  .loop bu51L0)) <|
  .seq (.ins [⟨none, .ld true 7 (.t 0)⟩, ⟨none, .st 7 (.t 0) (.t 1)⟩]) <|
  .ret [.t 0, .d (.bool true)]⟩
theorem oku51 : Code2 Tryz.prog prims1 51 2 bu51 := Code2.mk' rfl Tryz.func51 (by kernel_rfl) (by kernel_rfl)

/- 92: (*verger/filter.reader).skip, 2 -/
def bu92 : BFun := ⟨[.t 0],
  .seq (.ins []) <|
  .seq (.seq (.ins [⟨none, .nck (.t 0)⟩, ⟨none, .fad (.t 2) 0⟩, ⟨none, .ld false 1 (.t 3)⟩, ⟨none, .bin .eql (.t 4) (.d (.str []))⟩, ⟨some (5, false), .mv (.t 0)⟩, ⟨some (5, false), .nck (.t 6)⟩, ⟨some (5, false), .fad (.t 7) 0⟩, ⟨some (5, false), .ld false 1 (.t 8)⟩, ⟨some (5, false), .ixs (.t 9) (.d (.int .i64 0))⟩, ⟨some (5, false), .mv (.t 1)⟩, ⟨some (5, false), .bin .neq (.t 10) (.t 11)⟩, ⟨none, .pick (.t 5) (.d (.bool true)) (.t 12)⟩]) <|
  .cond (.t 13) (.seq (.ins []) <|
  .ret [.d (.bool false)]) (.skip)) <|
  .seq (.ins [⟨none, .nck (.t 0)⟩, ⟨none, .fad (.t 14) 0⟩, ⟨none, .ld false 1 (.t 15)⟩, ⟨none, .sls (.t 16) (some (.d (.int .i64 1))) none⟩, ⟨none, .nck (.t 0)⟩, ⟨none, .fad (.t 18) 0⟩, ⟨none, .st 1 (.t 19) (.t 17)⟩]) <|
  .seq (.ins []) <|
  .ret [.d (.bool true)]⟩
theorem oku92 : Code2 Tryz.prog prims1 92 2 bu92 := Code2.mk' rfl Tryz.func92 (by kernel_rfl) (by kernel_rfl)

/- 17: verger/filter.Formed, 1 -/
def bu17 : BFun := ⟨[.t 0],
  .seq (.ins [⟨none, .box 7 (.t 0)⟩]) <|
  .seq (.ins [⟨none, .ld true 7 (.t 1)⟩, ⟨none, .call false 21 [.t 2]⟩, ⟨none, .bin .leq (.t 3) (.d (.int .i64 40))⟩, ⟨some (4, true), .ld true 7 (.t 1)⟩, ⟨some (4, true), .call false 42 [.t 5, .d (.int .i64 1)]⟩, ⟨none, .pick (.t 4) (.t 6) (.d (.bool false))⟩]) <|
  .ret [.t 7]⟩
theorem oku17 : Code2 Tryz.prog prims1 17 1 bu17 := Code2.mk' rfl Tryz.func17 (by kernel_rfl) (by kernel_rfl)

/- 21: verger/filter.Nodes, 1 -/
def bu21B0 : BC :=
  .seq (.seq (.ins [⟨none, .bin .lss (.t 3) (.t 2)⟩]) <|
  .seq (.cond (.t 4) (.skip) (.exit 0 [.t 0])) <|
  .seq (.block 1 (.seq (.seq (.ins [⟨none, .iad 7 (.t 1) (.t 3)⟩, ⟨none, .ld true 7 (.t 5)⟩, ⟨none, .alloc [.int .i64 0, .str [], .str [], .str [], .str [], .nils 0, .nils 0]⟩, ⟨none, .st 7 (.t 7) (.t 6)⟩]) <|
  .seq (.ins [⟨none, .ld true 7 (.t 7)⟩, ⟨none, .call false 21 [.t 9]⟩, ⟨none, .bin .add (.t 0) (.t 10)⟩]) <|
  .seq (.ins [⟨none, .bin .gtr (.t 11) (.d (.int .i64 40))⟩]) <|
  .cond (.t 12) (.seq (.ins []) <|
  .ret [.d (.int .i64 41)]) (.skip)) <|
  .foc [.t 11, .t 1, .t 2, .t 3])) <|
  .ins [⟨none, .bin .add (.t 3) (.d (.int .i64 1))⟩]) <|
  .foc [.t 0, .t 1, .t 2, .t 4]
def bu21L0 : BC := bu21B0
theorem bu21L0_eq : bu21L0 = bu21B0 := rfl

def bu21 : BFun := ⟨[.t 0],
  .seq (.ins [⟨none, .box 7 (.t 0)⟩]) <|
  .seq (.ins []) <|
  .seq (.seq (.ins [⟨none, .fad (.t 1) 6⟩, ⟨none, .ld false 1 (.t 2)⟩, ⟨none, .len (.t 3)⟩]) <|
  .block 0 (.seq (.foc [.d (.int .i64 1), .t 3, .t 4, .d (.int .i64 0)]) <|
  .loop bu21L0)) <|
  .seq (.ins []) <|
  .ret [.t 0]⟩
theorem oku21 : Code2 Tryz.prog prims1 21 1 bu21 := Code2.mk' rfl Tryz.func21 (by kernel_rfl) (by kernel_rfl)

/- 42: verger/filter.formed, 2 -/
def bu42B0 : BC :=
  .seq (.seq (.ins [⟨none, .bin .lss (.t 3) (.t 2)⟩]) <|
  .seq (.cond (.t 4) (.skip) (.exit 0 [])) <|
  .seq (.block 1 (.seq (.seq (.ins [⟨none, .iad 7 (.t 1) (.t 3)⟩, ⟨none, .ld true 7 (.t 5)⟩, ⟨none, .alloc [.int .i64 0, .str [], .str [], .str [], .str [], .nils 0, .nils 0]⟩, ⟨none, .st 7 (.t 7) (.t 6)⟩]) <|
  .seq (.ins [⟨none, .ld true 7 (.t 7)⟩, ⟨none, .bin .add (.t 0) (.d (.int .i64 1))⟩, ⟨none, .call false 42 [.t 9, .t 10]⟩, ⟨none, .not (.t 11)⟩]) <|
  .cond (.t 12) (.seq (.ins []) <|
  .ret [.d (.bool false)]) (.skip)) <|
  .foc [.t 0, .t 1, .t 2, .t 3])) <|
  .ins [⟨none, .bin .add (.t 3) (.d (.int .i64 1))⟩]) <|
  .foc [.t 0, .t 1, .t 2, .t 4]
def bu42L0 : BC := bu42B0
theorem bu42L0_eq : bu42L0 = bu42B0 := rfl

def bu42 : BFun := ⟨[.t 0],
  .seq (.ins [⟨none, .box 7 (.t 0)⟩]) <|
  .seq (.seq (.ins [⟨none, .bin .gtr (.t 1) (.d (.int .i64 20))⟩, ⟨some (3, false), .ld true 7 (.t 2)⟩, ⟨some (3, false), .call false 84 [.t 4]⟩, ⟨some (3, false), .not (.t 5)⟩, ⟨none, .pick (.t 3) (.d (.bool true)) (.t 6)⟩]) <|
  .cond (.t 7) (.seq (.ins []) <|
  .ret [.d (.bool false)]) (.skip)) <|
  .seq (.seq (.ins [⟨none, .fad (.t 2) 6⟩, ⟨none, .ld false 1 (.t 8)⟩, ⟨none, .len (.t 9)⟩]) <|
  .block 0 (.seq (.foc [.t 1, .t 9, .t 10, .d (.int .i64 0)]) <|
  .loop bu42L0)) <|
  .seq (.ins []) <|
  .ret [.d (.bool true)]⟩
theorem oku42 : Code2 Tryz.prog prims1 42 2 bu42 := Code2.mk' rfl Tryz.func42 (by kernel_rfl) (by kernel_rfl)

/- 84: verger/filter.own, 1 -/
def bu84 : BFun := ⟨[.t 0],
  .seq (.ins [⟨none, .box 7 (.t 0)⟩]) <|
  .seq (.ins [⟨none, .fad (.t 1) 3⟩, ⟨none, .ld false 1 (.t 2)⟩, ⟨none, .bin .neq (.t 3) (.d (.str []))⟩, ⟨some (4, false), .fad (.t 1) 4⟩, ⟨some (4, false), .ld false 1 (.t 5)⟩, ⟨some (4, false), .bin .neq (.t 6) (.d (.str []))⟩, ⟨none, .pick (.t 4) (.d (.bool true)) (.t 7)⟩, ⟨some (8, false), .fad (.t 1) 5⟩, ⟨some (8, false), .ld false 1 (.t 9)⟩, ⟨some (8, false), .len (.t 10)⟩, ⟨some (8, false), .bin .gtr (.t 11) (.d (.int .i64 0))⟩, ⟨none, .pick (.t 8) (.d (.bool true)) (.t 12)⟩]) <|
  .seq (.ins [⟨none, .fad (.t 1) 6⟩, ⟨none, .ld false 1 (.t 14)⟩, ⟨none, .len (.t 15)⟩, ⟨none, .bin .eql (.t 16) (.d (.int .i64 0))⟩, ⟨some (17, true), .fad (.t 1) 1⟩, ⟨some (17, true), .ld false 1 (.t 18)⟩, ⟨some (17, true), .call false 131 [.t 19]⟩, ⟨none, .pick (.t 17) (.t 20) (.d (.bool false))⟩]) <|
  .seq (.seq (.ins [⟨none, .fad (.t 1) 0⟩, ⟨none, .ld false 1 (.t 22)⟩]) <|
  .block 0 (.seq (.seq (.seq (.ins [⟨none, .bin .eql (.t 23) (.d (.int .i64 0))⟩]) <|
  .cond (.t 24) (.seq (.skip) <|
  .foc [.t 1, .t 13, .t 21, .t 23, .t 24]) (.seq (.seq (.ins [⟨none, .bin .eql (.t 23) (.d (.int .i64 1))⟩]) <|
  .cond (.t 25) (.seq (.skip) <|
  .foc [.t 1, .t 13, .t 21, .t 23, .t 25]) (.seq (.ins [⟨none, .bin .eql (.t 23) (.d (.int .i64 2))⟩]) <|
  .foc [.t 1, .t 13, .t 21, .t 23, .t 26])) <|
  .foc [.t 0, .t 1, .t 2, .t 3, .t 4])) <|
  .cond (.t 4) (.seq (.ins [⟨none, .fad (.t 0) 1⟩, ⟨none, .ld false 1 (.t 5)⟩, ⟨none, .bin .eql (.t 6) (.d (.str []))⟩, ⟨some (7, true), .fad (.t 0) 2⟩, ⟨some (7, true), .ld false 1 (.t 8)⟩, ⟨some (7, true), .bin .eql (.t 9) (.d (.str []))⟩, ⟨none, .pick (.t 7) (.t 10) (.d (.bool false))⟩, ⟨some (11, true), .mv (.t 1)⟩, ⟨some (11, true), .not (.t 12)⟩, ⟨none, .pick (.t 11) (.t 13) (.d (.bool false))⟩, ⟨some (14, true), .fad (.t 0) 0⟩, ⟨some (14, true), .ld false 1 (.t 15)⟩, ⟨some (14, true), .bin .neq (.t 16) (.d (.int .i64 2))⟩, ⟨some (14, true), .mv (.t 17)⟩, ⟨some (18, false), .fad (.t 0) 6⟩, ⟨some (18, false), .ld false 1 (.t 19)⟩, ⟨some (18, false), .len (.t 20)⟩, ⟨some (18, false), .bin .eql (.t 21) (.d (.int .i64 1))⟩, ⟨some (14, true), .pick (.t 18) (.d (.bool true)) (.t 22)⟩, ⟨none, .pick (.t 14) (.t 23) (.d (.bool false))⟩]) <|
  .ret [.t 24]) (.seq (.seq (.ins [⟨none, .bin .eql (.t 3) (.d (.int .i64 3))⟩]) <|
  .cond (.t 5) (.seq (.skip) <|
  .foc [.t 0, .t 1, .t 2, .t 3, .t 5]) (.seq (.seq (.ins [⟨none, .bin .eql (.t 3) (.d (.int .i64 5))⟩]) <|
  .cond (.t 6) (.seq (.skip) <|
  .foc [.t 0, .t 1, .t 2, .t 3, .t 6]) (.seq (.seq (.ins [⟨none, .bin .eql (.t 3) (.d (.int .i64 6))⟩]) <|
  .cond (.t 7) (.seq (.skip) <|
  .foc [.t 0, .t 1, .t 2, .t 3, .t 7]) (.seq (.ins [⟨none, .bin .eql (.t 3) (.d (.int .i64 8))⟩]) <|
  .foc [.t 0, .t 1, .t 2, .t 3, .t 8])) <|
  .foc [.t 0, .t 1, .t 2, .t 3, .t 4])) <|
  .foc [.t 0, .t 1, .t 2, .t 3, .t 4])) <|
  .cond (.t 4) (.seq (.ins [⟨some (2, true), .fad (.t 0) 2⟩, ⟨some (2, true), .ld false 1 (.t 5)⟩, ⟨some (2, true), .call false 132 [.t 6]⟩, ⟨none, .pick (.t 2) (.t 7) (.d (.bool false))⟩, ⟨some (8, true), .mv (.t 1)⟩, ⟨some (8, true), .not (.t 9)⟩, ⟨none, .pick (.t 8) (.t 10) (.d (.bool false))⟩]) <|
  .ret [.t 11]) (.seq (.ins [⟨none, .bin .eql (.t 3) (.d (.int .i64 7))⟩]) <|
  .cond (.t 5) (.seq (.ins [⟨some (2, true), .fad (.t 0) 2⟩, ⟨some (2, true), .ld false 1 (.t 6)⟩, ⟨some (2, true), .bin .eql (.t 7) (.d (.str []))⟩, ⟨none, .pick (.t 2) (.t 8) (.d (.bool false))⟩, ⟨some (9, true), .mv (.t 1)⟩, ⟨some (9, true), .not (.t 10)⟩, ⟨none, .pick (.t 9) (.t 11) (.d (.bool false))⟩]) <|
  .ret [.t 12]) (.seq (.ins [⟨none, .bin .eql (.t 3) (.d (.int .i64 4))⟩]) <|
  .cond (.t 6) (.seq (.ins [⟨some (2, true), .fad (.t 0) 2⟩, ⟨some (2, true), .ld false 1 (.t 7)⟩, ⟨some (2, true), .bin .eql (.t 8) (.d (.str []))⟩, ⟨none, .pick (.t 2) (.t 9) (.d (.bool false))⟩, ⟨some (10, true), .mv (.t 1)⟩, ⟨none, .pick (.t 10) (.t 11) (.d (.bool false))⟩, ⟨some (12, true), .fad (.t 0) 3⟩, ⟨some (12, true), .ld false 1 (.t 13)⟩, ⟨some (12, true), .lenS (.t 14)⟩, ⟨some (12, true), .bin .leq (.t 15) (.d (.int .i64 200))⟩, ⟨none, .pick (.t 12) (.t 16) (.d (.bool false))⟩, ⟨some (17, true), .fad (.t 0) 4⟩, ⟨some (17, true), .ld false 1 (.t 18)⟩, ⟨some (17, true), .lenS (.t 19)⟩, ⟨some (17, true), .bin .leq (.t 20) (.d (.int .i64 200))⟩, ⟨none, .pick (.t 17) (.t 21) (.d (.bool false))⟩, ⟨some (22, true), .fad (.t 0) 5⟩, ⟨some (22, true), .ld false 1 (.t 23)⟩, ⟨some (22, true), .call false 133 [.t 24, .fn 134]⟩, ⟨some (22, true), .not (.t 25)⟩, ⟨none, .pick (.t 22) (.t 26) (.d (.bool false))⟩]) <|
  .ret [.t 27]) (.skip))))) <|
  .foc [])) <|
  .seq (.ins []) <|
  .ret [.d (.bool false)]⟩
theorem oku84 : Code2 Tryz.prog prims1 84 1 bu84 := Code2.mk' rfl Tryz.func84 (by kernel_rfl) (by kernel_rfl)

/- 131: verger/filter.Attribute, 1 -/
def bu131B0 : BC :=
  .seq (.seq (.ins [⟨none, .bin .lss (.t 3) (.t 2)⟩]) <|
  .seq (.cond (.t 4) (.skip) (.exit 0 [.t 0])) <|
  .seq (.block 1 (.seq (.seq (.ins [⟨none, .iad 1 (.t 1) (.t 3)⟩, ⟨none, .ld false 1 (.t 5)⟩]) <|
  .seq (.ins [⟨none, .bin .or (.t 6) (.d (.int .u8 32))⟩, ⟨none, .bin .geq (.t 7) (.d (.int .u8 97))⟩, ⟨some (8, true), .mv (.t 6)⟩, ⟨some (8, true), .bin .or (.t 9) (.d (.int .u8 32))⟩, ⟨some (8, true), .bin .leq (.t 10) (.d (.int .u8 122))⟩, ⟨none, .pick (.t 8) (.t 11) (.d (.bool false))⟩]) <|
  .seq (.ins [⟨none, .not (.t 12)⟩, ⟨some (13, true), .mv (.t 3)⟩, ⟨some (13, true), .bin .eql (.t 14) (.d (.int .i64 0))⟩, ⟨some (13, true), .mv (.t 15)⟩, ⟨some (16, false), .mv (.t 6)⟩, ⟨some (16, false), .bin .neq (.t 17) (.d (.int .u8 45))⟩, ⟨some (16, false), .mv (.t 18)⟩, ⟨some (19, true), .mv (.t 6)⟩, ⟨some (19, true), .bin .lss (.t 20) (.d (.int .u8 48))⟩, ⟨some (19, true), .mv (.t 21)⟩, ⟨some (22, false), .mv (.t 6)⟩, ⟨some (22, false), .bin .gtr (.t 23) (.d (.int .u8 57))⟩, ⟨some (19, true), .pick (.t 22) (.d (.bool true)) (.t 24)⟩, ⟨some (16, false), .pick (.t 19) (.t 25) (.d (.bool false))⟩, ⟨some (13, true), .pick (.t 16) (.d (.bool true)) (.t 26)⟩, ⟨none, .pick (.t 13) (.t 27) (.d (.bool false))⟩]) <|
  .cond (.t 28) (.seq (.ins []) <|
  .ret [.d (.bool false)]) (.skip)) <|
  .foc [.t 0, .t 1, .t 2, .t 3])) <|
  .ins [⟨none, .bin .add (.t 3) (.d (.int .i64 1))⟩]) <|
  .foc [.t 0, .t 1, .t 2, .t 4]
def bu131L0 : BC := bu131B0
theorem bu131L0_eq : bu131L0 = bu131B0 := rfl

def bu131 : BFun := ⟨[.t 0],
  .seq (.ins []) <|
  .seq (.seq (.ins [⟨none, .conv .sb (.t 0)⟩, ⟨none, .len (.t 1)⟩]) <|
  .block 0 (.seq (.foc [.t 0, .t 1, .t 2, .d (.int .i64 0)]) <|
  .loop bu131L0)) <|
  .seq (.ins [⟨none, .bin .neq (.t 0) (.d (.str []))⟩, ⟨some (1, true), .mv (.t 0)⟩, ⟨some (1, true), .lenS (.t 2)⟩, ⟨some (1, true), .bin .leq (.t 3) (.d (.int .i64 40))⟩, ⟨none, .pick (.t 1) (.t 4) (.d (.bool false))⟩]) <|
  .ret [.t 5]⟩
theorem oku131 : Code2 Tryz.prog prims1 131 1 bu131 := Code2.mk' rfl Tryz.func131 (by kernel_rfl) (by kernel_rfl)

/- 132: verger/filter.fits, 1 -/
def bu132 : BFun := ⟨[.t 0],
  .seq (.ins []) <|
  .seq (.ins [⟨none, .bin .neq (.t 0) (.d (.str []))⟩, ⟨some (1, true), .mv (.t 0)⟩, ⟨some (1, true), .lenS (.t 2)⟩, ⟨some (1, true), .bin .leq (.t 3) (.d (.int .i64 200))⟩, ⟨none, .pick (.t 1) (.t 4) (.d (.bool false))⟩]) <|
  .ret [.t 5]⟩
theorem oku132 : Code2 Tryz.prog prims1 132 1 bu132 := Code2.mk' rfl Tryz.func132 (by kernel_rfl) (by kernel_rfl)

/- 133: slices.ContainsFunc[[]string,string], 2 -/
def bu133 : BFun := ⟨[.t 0],
  .seq (.ins []) <|
  .seq (.ins [⟨none, .call false 177 [.t 0, .t 1]⟩, ⟨none, .bin .geq (.t 2) (.d (.int .i64 0))⟩]) <|
  .ret [.t 3]⟩
theorem oku133 : Code2 Tryz.prog prims1 133 2 bu133 := Code2.mk' rfl Tryz.func133 (by kernel_rfl) (by kernel_rfl)

/- 134: verger/filter.own$1, 1 -/
def bu134 : BFun := ⟨[.t 0],
  .seq (.ins []) <|
  .seq (.ins [⟨none, .call false 132 [.t 0]⟩, ⟨none, .not (.t 1)⟩]) <|
  .ret [.t 2]⟩
theorem oku134 : Code2 Tryz.prog prims1 134 1 bu134 := Code2.mk' rfl Tryz.func134 (by kernel_rfl) (by kernel_rfl)

/- 177: slices.IndexFunc[[]string,string], 2 -/
def bu177B0 : BC :=
  .seq (.seq (.ins [⟨none, .bin .lss (.t 3) (.t 2)⟩]) <|
  .seq (.cond (.t 4) (.skip) (.exit 0 [])) <|
  .seq (.block 1 (.seq (.seq (.ins []) <|
  .seq (.ins [⟨none, .iad 1 (.t 0) (.t 3)⟩, ⟨none, .ld false 1 (.t 5)⟩, ⟨none, .callv false (.t 1) [.t 6]⟩]) <|
  .cond (.t 7) (.seq (.ins []) <|
  .ret [.t 3]) (.skip)) <|
  .foc [.t 0, .t 1, .t 2, .t 3])) <|
  .ins [⟨none, .bin .add (.t 3) (.d (.int .i64 1))⟩]) <|
  .foc [.t 0, .t 1, .t 2, .t 4]
def bu177L0 : BC := bu177B0
theorem bu177L0_eq : bu177L0 = bu177B0 := rfl

def bu177 : BFun := ⟨[.t 0],
  .seq (.ins []) <|
  .seq (.seq (.ins [⟨none, .len (.t 0)⟩]) <|
  .block 0 (.seq (.foc [.t 0, .t 1, .t 2, .d (.int .i64 0)]) <|
  .loop bu177L0)) <|
  .seq (.ins []) <|
  .ret [.d (.int .i64 (-1))]⟩
theorem oku177 : Code2 Tryz.prog prims1 177 2 bu177 := Code2.mk' rfl Tryz.func177 (by kernel_rfl) (by kernel_rfl)

/- 14: verger/filter.Eval, 2 -/
def bu14 : BFun := ⟨[.t 0],
  .seq (.ins [⟨none, .box 7 (.t 0)⟩]) <|
  .seq (.seq (.ins [⟨none, .ld true 7 (.t 2)⟩, ⟨none, .call false 17 [.t 3]⟩, ⟨none, .not (.t 4)⟩]) <|
  .cond (.t 5) (.seq (.ins []) <|
  .ret [.d (.int .i64 (-1))]) (.skip)) <|
  .seq (.ins [⟨none, .ld true 7 (.t 2)⟩, ⟨none, .call false 40 [.t 6, .t 1]⟩]) <|
  .ret [.t 7]⟩
theorem oku14 : Code2 Tryz.prog prims1 14 2 bu14 := Code2.mk' rfl Tryz.func14 (by kernel_rfl) (by kernel_rfl)

/- 40: (verger/filter.Filter).eval, 2 -/
def bu40B0 : BC :=
  .seq (.seq (.ins [⟨none, .bin .lss (.t 5) (.t 4)⟩]) <|
  .seq (.cond (.t 6) (.skip) (.exit 1 [.t 2])) <|
  .seq (.block 2 (.seq (.seq (.ins [⟨none, .iad 7 (.t 3) (.t 5)⟩, ⟨none, .ld true 7 (.t 7)⟩, ⟨none, .alloc [.int .i64 0, .str [], .str [], .str [], .str [], .nils 0, .nils 0]⟩, ⟨none, .st 7 (.t 9) (.t 8)⟩]) <|
  .seq (.ins [⟨none, .ld true 7 (.t 9)⟩, ⟨none, .call false 40 [.t 11, .t 0]⟩]) <|
  .seq (.ins []) <|
  .block 3 (.seq (.seq (.ins [⟨none, .fad (.t 1) 0⟩, ⟨none, .ld false 1 (.t 13)⟩, ⟨none, .bin .eql (.t 12) (.t 14)⟩]) <|
  .cond (.t 15) (.seq (.ins []) <|
  .ret [.t 12]) (.seq (.ins [⟨none, .bin .eql (.t 12) (.d (.int .i64 (-1)))⟩]) <|
  .cond (.t 16) (.seq (.ins []) <|
  .foc [.t 0, .t 1, .d (.int .i64 (-1)), .t 3, .t 4, .t 5]) (.seq (.skip) <|
  .foc [.t 0, .t 1, .t 2, .t 3, .t 4, .t 5]))) <|
  .foc [.t 0, .t 1, .t 2, .t 3, .t 4, .t 5])) <|
  .foc [.t 0, .t 1, .t 2, .t 3, .t 4, .t 5])) <|
  .ins [⟨none, .bin .add (.t 5) (.d (.int .i64 1))⟩]) <|
  .foc [.t 0, .t 1, .t 2, .t 3, .t 4, .t 6]
def bu40L0 : BC := bu40B0
theorem bu40L0_eq : bu40L0 = bu40B0 := rfl

def bu40 : BFun := ⟨[.t 0],
  .seq (.ins [⟨none, .box 7 (.t 0)⟩]) <|
  .seq (.seq (.ins [⟨none, .fad (.t 2) 0⟩, ⟨none, .ld false 1 (.t 3)⟩]) <|
  .block 0 (.seq (.seq (.seq (.ins [⟨none, .bin .eql (.t 4) (.d (.int .i64 0))⟩]) <|
  .cond (.t 5) (.seq (.skip) <|
  .foc [.t 1, .t 2, .t 4, .t 5]) (.seq (.ins [⟨none, .bin .eql (.t 4) (.d (.int .i64 1))⟩]) <|
  .foc [.t 1, .t 2, .t 4, .t 6])) <|
  .cond (.t 3) (.seq (.ins [⟨none, .fad (.t 1) 0⟩, ⟨none, .ld false 1 (.t 4)⟩, ⟨none, .bin .sub (.d (.int .i64 1)) (.t 5)⟩]) <|
  .seq (.seq (.ins [⟨none, .fad (.t 1) 6⟩, ⟨none, .ld false 1 (.t 7)⟩, ⟨none, .len (.t 8)⟩]) <|
  .block 1 (.seq (.foc [.t 0, .t 1, .t 6, .t 8, .t 9, .d (.int .i64 0)]) <|
  .loop bu40L0)) <|
  .seq (.ins []) <|
  .ret [.t 0]) (.seq (.ins [⟨none, .bin .eql (.t 2) (.d (.int .i64 2))⟩]) <|
  .cond (.t 4) (.seq (.seq (.ins [⟨none, .fad (.t 1) 6⟩, ⟨none, .ld false 1 (.t 5)⟩, ⟨none, .iad 7 (.t 6) (.d (.int .i64 0))⟩, ⟨none, .ld true 7 (.t 7)⟩, ⟨none, .call false 40 [.t 8, .t 0]⟩]) <|
  .seq (.ins [⟨none, .bin .neq (.t 9) (.d (.int .i64 (-1)))⟩]) <|
  .cond (.t 10) (.seq (.ins [⟨none, .bin .eql (.t 9) (.d (.int .i64 0))⟩, ⟨none, .call false 81 [.t 11]⟩]) <|
  .ret [.t 12]) (.skip)) <|
  .seq (.ins []) <|
  .ret [.d (.int .i64 (-1))]) (.skip))) <|
  .foc [.t 0, .t 1])) <|
  .seq (.ins [⟨none, .ld true 7 (.t 1)⟩, ⟨none, .call false 82 [.t 2, .t 0]⟩]) <|
  .ret [.t 3]⟩
theorem oku40 : Code2 Tryz.prog prims1 40 2 bu40 := Code2.mk' rfl Tryz.func40 (by kernel_rfl) (by kernel_rfl)

/- 81: verger/filter.truth, 1 -/
def bu81 : BFun := ⟨[.t 0],
  .seq (.ins []) <|
  .seq (.seq (.ins []) <|
  .cond (.t 0) (.seq (.ins []) <|
  .ret [.d (.int .i64 1)]) (.skip)) <|
  .seq (.ins []) <|
  .ret [.d (.int .i64 0)]⟩
theorem oku81 : Code2 Tryz.prog prims1 81 1 bu81 := Code2.mk' rfl Tryz.func81 (by kernel_rfl) (by kernel_rfl)

/- 82: (verger/filter.Filter).leaf, 2 -/
def bu82B0 : BC :=
  .seq (.seq (.ins [⟨none, .bin .lss (.t 8) (.t 7)⟩]) <|
  .seq (.cond (.t 9) (.skip) (.exit 3 [.t 0, .t 1, .t 2, .t 3, .t 4, .t 5])) <|
  .seq (.block 4 (.seq (.seq (.ins [⟨none, .iad 1 (.t 6) (.t 8)⟩, ⟨none, .ld false 1 (.t 10)⟩]) <|
  .seq (.ins [⟨none, .fad (.t 0) 0⟩, ⟨none, .ld false 1 (.t 12)⟩, ⟨none, .bin .eql (.t 13) (.d (.int .i64 7))⟩, ⟨some (14, false), .ld true 7 (.t 0)⟩, ⟨some (14, false), .mv (.t 11)⟩, ⟨some (14, false), .mv (.t 2)⟩, ⟨some (14, false), .call false 125 [.t 15, .t 16, .t 17]⟩, ⟨none, .pick (.t 14) (.d (.bool true)) (.t 18)⟩]) <|
  .cond (.t 19) (.seq (.ins []) <|
  .ret [.d (.int .i64 1)]) (.skip)) <|
  .foc [.t 0, .t 1, .t 2, .t 3, .t 4, .t 5, .t 6, .t 7, .t 8])) <|
  .ins [⟨none, .bin .add (.t 8) (.d (.int .i64 1))⟩]) <|
  .foc [.t 0, .t 1, .t 2, .t 3, .t 4, .t 5, .t 6, .t 7, .t 9]
def bu82L0 : BC := bu82B0
theorem bu82L0_eq : bu82L0 = bu82B0 := rfl

def bu82B1 : BC :=
  .seq (.seq (.ins [⟨none, .bin .lss (.t 5) (.t 4)⟩]) <|
  .seq (.cond (.t 6) (.skip) (.exit 1 [])) <|
  .seq (.block 2 (.seq (.seq (.ins [⟨none, .iad 2 (.t 3) (.t 5)⟩, ⟨none, .ld true 2 (.t 7)⟩, ⟨none, .alloc [.str [], .nils 0]⟩, ⟨none, .st 2 (.t 9) (.t 8)⟩]) <|
  .seq (.seq (.ins [⟨none, .fad (.t 9) 0⟩, ⟨none, .ld false 1 (.t 11)⟩, ⟨none, .call false 80 [.t 12]⟩, ⟨none, .ext (.t 13) 0⟩, ⟨none, .ext (.t 13) 1⟩]) <|
  .seq (.ins [⟨none, .bin .neq (.t 14) (.t 1)⟩]) <|
  .cond (.t 16) (.exit 2 [.t 0, .t 1, .t 2, .t 3, .t 4, .t 5]) (.skip)) <|
  .seq (.ins [⟨none, .fad (.t 9) 1⟩, ⟨none, .ld false 1 (.t 17)⟩, ⟨none, .len (.t 18)⟩]) <|
  .block 3 (.seq (.foc [.t 0, .t 1, .t 2, .t 3, .t 4, .t 5, .t 18, .t 19, .d (.int .i64 0)]) <|
  .loop bu82L0)) <|
  .foc [.t 0, .t 1, .t 2, .t 3, .t 4, .t 5])) <|
  .ins [⟨none, .bin .add (.t 5) (.d (.int .i64 1))⟩]) <|
  .foc [.t 0, .t 1, .t 2, .t 3, .t 4, .t 6]
def bu82L1 : BC := bu82B1
theorem bu82L1_eq : bu82L1 = bu82B1 := rfl

def bu82 : BFun := ⟨[.t 0],
  .seq (.ins [⟨none, .box 7 (.t 0)⟩]) <|
  .seq (.ins [⟨none, .fad (.t 2) 1⟩, ⟨none, .ld false 1 (.t 3)⟩, ⟨none, .call false 80 [.t 4]⟩, ⟨none, .ext (.t 5) 0⟩, ⟨none, .ext (.t 5) 1⟩]) <|
  .seq (.ins [⟨none, .fad (.t 2) 1⟩, ⟨none, .ld false 1 (.t 8)⟩, ⟨none, .fad (.t 2) 2⟩, ⟨none, .ld false 1 (.t 10)⟩, ⟨none, .call false 124 [.t 9, .t 11]⟩, ⟨none, .ext (.t 12) 0⟩, ⟨none, .ext (.t 12) 1⟩]) <|
  .seq (.block 0 (.seq (.seq (.seq (.ins [⟨none, .bin .eql (.t 7) (.d (.int .i64 0))⟩]) <|
  .cond (.t 15) (.seq (.skip) <|
  .foc [.t 1, .t 2, .t 6, .t 7, .t 15]) (.seq (.seq (.ins [⟨none, .fad (.t 2) 0⟩, ⟨none, .ld false 1 (.t 16)⟩, ⟨none, .bin .eql (.t 17) (.d (.int .i64 4))⟩, ⟨some (18, true), .mv (.t 7)⟩, ⟨some (18, true), .bin .gtr (.t 19) (.d (.int .i64 2))⟩, ⟨none, .pick (.t 18) (.t 20) (.d (.bool false))⟩]) <|
  .cond (.t 21) (.seq (.skip) <|
  .foc [.t 1, .t 2, .t 6, .t 7, .t 21]) (.seq (.seq (.ins [⟨none, .fad (.t 2) 0⟩, ⟨none, .ld false 1 (.t 22)⟩, ⟨none, .bin .eql (.t 23) (.d (.int .i64 5))⟩, ⟨some (24, false), .fad (.t 2) 0⟩, ⟨some (24, false), .ld false 1 (.t 25)⟩, ⟨some (24, false), .bin .eql (.t 26) (.d (.int .i64 6))⟩, ⟨none, .pick (.t 24) (.d (.bool true)) (.t 27)⟩, ⟨some (28, true), .mv (.t 7)⟩, ⟨some (28, true), .bin .eql (.t 29) (.d (.int .i64 2))⟩, ⟨some (28, true), .mv (.t 30)⟩, ⟨some (31, false), .mv (.t 7)⟩, ⟨some (31, false), .bin .eql (.t 32) (.d (.int .i64 5))⟩, ⟨some (28, true), .pick (.t 31) (.d (.bool true)) (.t 33)⟩, ⟨none, .pick (.t 28) (.t 34) (.d (.bool false))⟩]) <|
  .cond (.t 35) (.seq (.skip) <|
  .foc [.t 1, .t 2, .t 6, .t 7, .t 35]) (.seq (.ins [⟨none, .fad (.t 2) 0⟩, ⟨none, .ld false 1 (.t 36)⟩, ⟨none, .bin .neq (.t 37) (.d (.int .i64 4))⟩, ⟨some (38, true), .fad (.t 2) 0⟩, ⟨some (38, true), .ld false 1 (.t 39)⟩, ⟨some (38, true), .bin .neq (.t 40) (.d (.int .i64 7))⟩, ⟨none, .pick (.t 38) (.t 41) (.d (.bool false))⟩, ⟨some (42, true), .mv (.t 14)⟩, ⟨some (42, true), .bin .neq (.t 43) (.d (.int .i64 0))⟩, ⟨none, .pick (.t 42) (.t 44) (.d (.bool false))⟩]) <|
  .foc [.t 1, .t 2, .t 6, .t 7, .t 45])) <|
  .foc [.t 0, .t 1, .t 2, .t 3, .t 4])) <|
  .foc [.t 0, .t 1, .t 2, .t 3, .t 4])) <|
  .cond (.t 4) (.seq (.ins []) <|
  .ret [.d (.int .i64 (-1))]) (.skip)) <|
  .foc [.t 0, .t 1, .t 2, .t 3])) <|
  .seq (.seq (.ins [⟨none, .len (.t 0)⟩]) <|
  .block 1 (.seq (.foc [.t 1, .t 2, .t 3, .t 0, .t 4, .d (.int .i64 0)]) <|
  .loop bu82L1)) <|
  .seq (.ins []) <|
  .ret [.d (.int .i64 0)]⟩
theorem oku82 : Code2 Tryz.prog prims1 82 2 bu82 := Code2.mk' rfl Tryz.func82 (by kernel_rfl) (by kernel_rfl)

/- 80: verger/rule.Type, 1 -/
def bu80B0 : BC :=
  .seq (.seq (.ins [⟨none, .bin .lss (.t 7) (.t 6)⟩]) <|
  .seq (.cond (.t 8) (.skip) (.exit 2 [.t 0, .t 2, .t 3, .t 4])) <|
  .seq (.block 3 (.seq (.seq (.ins [⟨none, .iad 1 (.t 5) (.t 7)⟩, ⟨none, .ld false 1 (.t 9)⟩]) <|
  .seq (.ins [⟨none, .call false 123 [.t 10]⟩, ⟨none, .call false 123 [.t 0]⟩, ⟨none, .bin .eql (.t 11) (.t 12)⟩]) <|
  .cond (.t 13) (.seq (.ins []) <|
  .ret [.t 10, .t 1]) (.skip)) <|
  .foc [.t 0, .t 1, .t 2, .t 3, .t 4, .t 5, .t 6, .t 7])) <|
  .ins [⟨none, .bin .add (.t 7) (.d (.int .i64 1))⟩]) <|
  .foc [.t 0, .t 1, .t 2, .t 3, .t 4, .t 5, .t 6, .t 8]
def bu80L0 : BC := bu80B0
theorem bu80L0_eq : bu80L0 = bu80B0 := rfl

def bu80B1 : BC :=
  .seq (.seq (.ins [⟨none, .bin .lss (.t 3) (.t 2)⟩]) <|
  .seq (.cond (.t 4) (.skip) (.exit 0 [])) <|
  .seq (.block 1 (.seq (.seq (.ins [⟨none, .iad 1 (.t 1) (.t 3)⟩, ⟨none, .ld false 1 (.t 5)⟩]) <|
  .seq (.ins [⟨none, .len (.t 6)⟩]) <|
  .block 2 (.seq (.foc [.t 0, .t 3, .t 1, .t 2, .t 3, .t 6, .t 7, .d (.int .i64 0)]) <|
  .loop bu80L0)) <|
  .foc [.t 0, .t 1, .t 2, .t 3])) <|
  .ins [⟨none, .bin .add (.t 3) (.d (.int .i64 1))⟩]) <|
  .foc [.t 0, .t 1, .t 2, .t 4]
def bu80L1 : BC := bu80B1
theorem bu80L1_eq : bu80L1 = bu80B1 := rfl

def bu80 : BFun := ⟨[.t 0, .t 1],
  .seq (.ins []) <|
  .seq (.seq (.ins [⟨none, .mks none 1 8 [.str []] [(0, (.d (.str [111, 98, 106, 101, 99, 116, 67, 108, 97, 115, 115]))), (1, (.d (.str [99, 110]))), (2, (.d (.str [111, 117]))), (3, (.d (.str [111]))), (4, (.d (.str [100, 99]))), (5, (.d (.str [117, 105, 100]))), (6, (.d (.str [100, 101, 115, 99, 114, 105, 112, 116, 105, 111, 110]))), (7, (.d (.str [109, 97, 105, 108])))]⟩, ⟨none, .mks none 1 2 [.str []] [(0, (.d (.str [117, 115, 101, 114, 80, 97, 115, 115, 119, 111, 114, 100]))), (1, (.d (.str [114, 101, 102])))]⟩, ⟨none, .mks none 1 1 [.str []] [(0, (.d (.str [115, 101, 114, 105, 97, 108, 78, 117, 109, 98, 101, 114])))]⟩, ⟨none, .mks none 1 1 [.str []] [(0, (.d (.str [112, 111, 115, 105, 116, 105, 111, 110])))]⟩, ⟨none, .mks none 1 2 [.str []] [(0, (.d (.str [97, 108, 105, 97, 115, 101, 100, 79, 98, 106, 101, 99, 116, 78, 97, 109, 101]))), (1, (.d (.str [109, 101, 109, 98, 101, 114])))]⟩, ⟨none, .mks none 1 6 [.nils 0] [(1, (.t 1)), (2, (.t 2)), (3, (.t 3)), (4, (.t 4)), (5, (.t 5))]⟩, ⟨none, .len (.t 6)⟩]) <|
  .block 0 (.seq (.foc [.t 0, .t 6, .t 7, .d (.int .i64 0)]) <|
  .loop bu80L1)) <|
  .seq (.ins []) <|
  .ret [.d (.str []), .d (.int .i64 0)]⟩
theorem oku80 : Code2 Tryz.prog prims1 80 1 bu80 := Code2.mk' rfl Tryz.func80 (by kernel_rfl) (by kernel_rfl)

/- 124: verger/dn.Value, 2 -/
def bu124 : BFun := ⟨[.t 0, .t 1],
  .seq (.ins []) <|
  .seq (.seq (.ins [⟨none, .call false 80 [.t 0]⟩, ⟨none, .ext (.t 2) 0⟩, ⟨none, .ext (.t 2) 1⟩]) <|
  .seq (.ins [⟨none, .bin .neq (.t 4) (.d (.int .i64 5))⟩]) <|
  .cond (.t 5) (.seq (.ins [⟨none, .call false 166 [.t 0, .t 1]⟩, ⟨none, .ext (.t 6) 0⟩, ⟨none, .ext (.t 6) 1⟩]) <|
  .ret [.t 7, .t 8]) (.skip)) <|
  .seq (.ins [⟨none, .call false 67 [.t 1]⟩, ⟨none, .ext (.t 6) 0⟩, ⟨none, .ext (.t 6) 1⟩]) <|
  .seq (.seq (.ins [⟨none, .bin .neq (.t 8) (.d (.int .i64 0))⟩, ⟨some (9, false), .mv (.t 7)⟩, ⟨some (9, false), .bin .eql (.t 10) (.d (.str []))⟩, ⟨none, .pick (.t 9) (.d (.bool true)) (.t 11)⟩, ⟨some (12, false), .mv (.t 1)⟩, ⟨some (12, false), .lenS (.t 13)⟩, ⟨some (12, false), .bin .gtr (.t 14) (.d (.int .i64 200))⟩, ⟨none, .pick (.t 12) (.d (.bool true)) (.t 15)⟩]) <|
  .cond (.t 16) (.seq (.ins []) <|
  .ret [.d (.str []), .d (.int .i64 2)]) (.skip)) <|
  .seq (.ins []) <|
  .ret [.t 7, .d (.int .i64 0)]⟩
theorem oku124 : Code2 Tryz.prog prims1 124 2 bu124 := Code2.mk' rfl Tryz.func124 (by kernel_rfl) (by kernel_rfl)

/- 166: verger/rule.Normal, 2 -/
def bu166 : BFun := ⟨[.t 0, .t 1],
  .seq (.ins []) <|
  .seq (.ins [⟨none, .call false 80 [.t 0]⟩, ⟨none, .ext (.t 2) 0⟩, ⟨none, .ext (.t 2) 1⟩]) <|
  .seq (.block 0 (.seq (.seq (.ins [⟨none, .bin .eql (.t 4) (.d (.int .i64 0))⟩]) <|
  .cond (.t 5) (.seq (.ins []) <|
  .ret [.d (.str []), .d (.int .i64 5)]) (.seq (.ins [⟨none, .bin .eql (.t 4) (.d (.int .i64 5))⟩]) <|
  .cond (.t 6) (.seq (.ins []) <|
  .ret [.d (.str []), .d (.int .i64 1)]) (.seq (.ins [⟨none, .bin .eql (.t 1) (.d (.str []))⟩, ⟨some (7, false), .mv (.t 1)⟩, ⟨some (7, false), .lenS (.t 8)⟩, ⟨some (7, false), .bin .gtr (.t 9) (.d (.int .i64 200))⟩, ⟨none, .pick (.t 7) (.d (.bool true)) (.t 10)⟩]) <|
  .cond (.t 11) (.seq (.ins []) <|
  .ret [.d (.str []), .d (.int .i64 2)]) (.skip)))) <|
  .foc [.t 1, .t 4])) <|
  .seq (.ins [⟨none, .call false 200 [.t 1, .t 0]⟩, ⟨none, .ext (.t 2) 0⟩, ⟨none, .ext (.t 2) 1⟩]) <|
  .seq (.seq (.ins [⟨none, .not (.t 4)⟩]) <|
  .cond (.t 5) (.seq (.ins []) <|
  .ret [.d (.str []), .d (.int .i64 2)]) (.skip)) <|
  .seq (.ins []) <|
  .ret [.t 3, .d (.int .i64 0)]⟩
theorem oku166 : Code2 Tryz.prog prims1 166 2 bu166 := Code2.mk' rfl Tryz.func166 (by kernel_rfl) (by kernel_rfl)

/- 200: verger/rule.normal, 2 -/
def bu200 : BFun := ⟨[.t 0, .t 1],
  .seq (.ins []) <|
  .seq (.seq (.ins []) <|
  .block 0 (.seq (.seq (.ins [⟨none, .bin .eql (.t 0) (.d (.int .i64 1))⟩]) <|
  .cond (.t 2) (.seq (.ins [⟨none, .call false 123 [.t 1]⟩, ⟨none, .call false 233 [.t 3]⟩, ⟨none, .call false 109 [.t 4, .d (.str [32])]⟩]) <|
  .seq (.ins [⟨none, .bin .neq (.t 5) (.d (.str []))⟩, ⟨some (6, true), .mv (.t 5)⟩, ⟨some (6, true), .call false 93 [.t 7, .d (.int .u8 0)]⟩, ⟨some (6, true), .bin .lss (.t 8) (.d (.int .i64 0))⟩, ⟨none, .pick (.t 6) (.t 9) (.d (.bool false))⟩]) <|
  .ret [.t 5, .t 10]) (.seq (.ins [⟨none, .bin .eql (.t 0) (.d (.int .i64 3))⟩]) <|
  .cond (.t 3) (.seq (.ins [⟨none, .call false 206 [.t 1, .d (.int .i64 10), .d (.int .i64 64)]⟩, ⟨none, .ext (.t 4) 0⟩, ⟨none, .ext (.t 4) 1⟩]) <|
  .seq (.ins [⟨none, .u2 .eqn (.t 6) (.d (.nili))⟩, ⟨some (7, true), .mv (.t 5)⟩, ⟨some (7, true), .call false 234 [.t 8, .d (.int .i64 10)]⟩, ⟨some (7, true), .mv (.t 1)⟩, ⟨some (7, true), .bin .eql (.t 9) (.t 10)⟩, ⟨none, .pick (.t 7) (.t 11) (.d (.bool false))⟩, ⟨some (12, true), .mv (.t 1)⟩, ⟨some (12, true), .call false 235 [.t 13, .d (.str [45])]⟩, ⟨some (12, true), .lenS (.t 14)⟩, ⟨some (12, true), .bin .leq (.t 15) (.d (.int .i64 18))⟩, ⟨none, .pick (.t 12) (.t 16) (.d (.bool false))⟩]) <|
  .ret [.t 1, .t 17]) (.seq (.ins [⟨none, .bin .eql (.t 0) (.d (.int .i64 4))⟩]) <|
  .cond (.t 4) (.seq (.ins [⟨none, .call false 204 [.t 1]⟩, ⟨none, .ext (.t 5) 0⟩, ⟨none, .ext (.t 5) 1⟩]) <|
  .seq (.ins [⟨none, .bin .eql (.t 7) (.d (.int .i64 0))⟩]) <|
  .ret [.t 1, .t 8]) (.skip)))) <|
  .foc [.t 1])) <|
  .seq (.ins []) <|
  .ret [.t 0, .d (.bool true)]⟩
theorem oku200 : Code2 Tryz.prog prims1 200 2 bu200 := Code2.mk' rfl Tryz.func200 (by kernel_rfl) (by kernel_rfl)

/- 233: verger/rule.words, 1 -/
def bu233B0 : BC :=
  .seq (.seq (.ins [⟨none, .bin .lss (.t 3) (.t 2)⟩]) <|
  .seq (.cond (.t 4) (.skip) (.exit 0 [.t 0])) <|
  .seq (.block 1 (.seq (.seq (.ins [⟨none, .iad 1 (.t 1) (.t 3)⟩, ⟨none, .ld false 1 (.t 5)⟩]) <|
  .seq (.ins [⟨none, .bin .neq (.t 6) (.d (.str []))⟩]) <|
  .cond (.t 7) (.seq (.ins [⟨none, .mks none 1 1 [.str []] [(0, (.t 6))]⟩, ⟨none, .app 9 1 (.t 0) (.t 8)⟩]) <|
  .foc [.t 9, .t 1, .t 2, .t 3]) (.seq (.skip) <|
  .foc [.t 0, .t 1, .t 2, .t 3])) <|
  .foc [.t 0, .t 1, .t 2, .t 3])) <|
  .ins [⟨none, .bin .add (.t 3) (.d (.int .i64 1))⟩]) <|
  .foc [.t 0, .t 1, .t 2, .t 4]
def bu233L0 : BC := bu233B0
theorem bu233L0_eq : bu233L0 = bu233B0 := rfl

def bu233 : BFun := ⟨[.t 0],
  .seq (.ins []) <|
  .seq (.ins []) <|
  .seq (.seq (.ins [⟨none, .call false 143 [.t 0, .d (.str [32])]⟩, ⟨none, .len (.t 1)⟩]) <|
  .block 0 (.seq (.foc [.d (.nils 0), .t 1, .t 2, .d (.int .i64 0)]) <|
  .loop bu233L0)) <|
  .seq (.ins []) <|
  .ret [.t 0]⟩
theorem oku233 : Code2 Tryz.prog prims1 233 1 bu233 := Code2.mk' rfl Tryz.func233 (by kernel_rfl) (by kernel_rfl)

/- 125: (verger/filter.Filter).value, 3 -/
def bu125 : BFun := ⟨[.t 0],
  .seq (.ins [⟨none, .box 7 (.t 0)⟩]) <|
  .seq (.ins [⟨none, .fad (.t 3) 1⟩, ⟨none, .ld false 1 (.t 4)⟩, ⟨none, .call false 124 [.t 5, .t 1]⟩, ⟨none, .ext (.t 6) 0⟩, ⟨none, .ext (.t 6) 1⟩]) <|
  .seq (.seq (.ins [⟨none, .bin .neq (.t 8) (.d (.int .i64 0))⟩]) <|
  .cond (.t 9) (.seq (.ins []) <|
  .ret [.d (.bool false)]) (.skip)) <|
  .seq (.block 0 (.seq (.seq (.ins [⟨none, .fad (.t 3) 0⟩, ⟨none, .ld false 1 (.t 10)⟩, ⟨none, .bin .eql (.t 11) (.d (.int .i64 4))⟩, ⟨some (12, true), .mv (.t 2)⟩, ⟨some (12, true), .bin .eql (.t 13) (.d (.int .i64 1))⟩, ⟨none, .pick (.t 12) (.t 14) (.d (.bool false))⟩]) <|
  .cond (.t 15) (.seq (.ins [⟨none, .ld true 7 (.t 3)⟩, ⟨none, .call false 167 [.t 16, .t 7, .fn 123]⟩]) <|
  .ret [.t 17]) (.seq (.ins [⟨none, .fad (.t 3) 0⟩, ⟨none, .ld false 1 (.t 16)⟩, ⟨none, .bin .eql (.t 17) (.d (.int .i64 4))⟩]) <|
  .cond (.t 18) (.seq (.ins [⟨none, .ld true 7 (.t 3)⟩, ⟨none, .call false 167 [.t 19, .t 7, .fn 168]⟩]) <|
  .ret [.t 20]) (.seq (.ins [⟨none, .fad (.t 3) 0⟩, ⟨none, .ld false 1 (.t 19)⟩, ⟨none, .bin .eql (.t 20) (.d (.int .i64 3))⟩, ⟨some (21, false), .mv (.t 2)⟩, ⟨some (21, false), .bin .eql (.t 22) (.d (.int .i64 5))⟩, ⟨none, .pick (.t 21) (.d (.bool true)) (.t 23)⟩]) <|
  .cond (.t 24) (.seq (.ins [⟨none, .fad (.t 3) 1⟩, ⟨none, .ld false 1 (.t 25)⟩, ⟨none, .fad (.t 3) 2⟩, ⟨none, .ld false 1 (.t 27)⟩, ⟨none, .call false 124 [.t 26, .t 28]⟩, ⟨none, .ext (.t 29) 0⟩, ⟨none, .ext (.t 29) 1⟩]) <|
  .seq (.ins [⟨none, .bin .eql (.t 7) (.t 30)⟩]) <|
  .ret [.t 32]) (.seq (.ins [⟨none, .fad (.t 3) 0⟩, ⟨none, .ld false 1 (.t 25)⟩, ⟨none, .bin .eql (.t 26) (.d (.int .i64 8))⟩]) <|
  .cond (.t 27) (.seq (.ins [⟨none, .fad (.t 3) 1⟩, ⟨none, .ld false 1 (.t 28)⟩, ⟨none, .fad (.t 3) 2⟩, ⟨none, .ld false 1 (.t 30)⟩, ⟨none, .call false 169 [.t 29, .t 1, .t 31]⟩, ⟨none, .ext (.t 32) 0⟩, ⟨none, .ext (.t 32) 1⟩]) <|
  .seq (.ins []) <|
  .ret [.t 33]) (.skip))))) <|
  .foc [.t 1, .t 3])) <|
  .seq (.ins [⟨none, .fad (.t 1) 1⟩, ⟨none, .ld false 1 (.t 2)⟩, ⟨none, .fad (.t 1) 2⟩, ⟨none, .ld false 1 (.t 4)⟩, ⟨none, .call false 170 [.t 3, .t 0, .t 5]⟩, ⟨none, .ext (.t 6) 0⟩, ⟨none, .ext (.t 6) 1⟩]) <|
  .seq (.ins [⟨none, .fad (.t 1) 0⟩, ⟨none, .ld false 1 (.t 9)⟩, ⟨none, .bin .eql (.t 10) (.d (.int .i64 5))⟩, ⟨some (11, true), .mv (.t 7)⟩, ⟨some (11, true), .bin .geq (.t 12) (.d (.int .i64 0))⟩, ⟨none, .pick (.t 11) (.t 13) (.d (.bool false))⟩, ⟨some (14, false), .fad (.t 1) 0⟩, ⟨some (14, false), .ld false 1 (.t 15)⟩, ⟨some (14, false), .bin .eql (.t 16) (.d (.int .i64 6))⟩, ⟨some (14, false), .mv (.t 17)⟩, ⟨some (18, true), .mv (.t 7)⟩, ⟨some (18, true), .bin .leq (.t 19) (.d (.int .i64 0))⟩, ⟨some (14, false), .pick (.t 18) (.t 20) (.d (.bool false))⟩, ⟨none, .pick (.t 14) (.d (.bool true)) (.t 21)⟩]) <|
  .ret [.t 22]⟩
theorem oku125 : Code2 Tryz.prog prims1 125 3 bu125 := Code2.mk' rfl Tryz.func125 (by kernel_rfl) (by kernel_rfl)

/- 167: (verger/filter.Filter).pieces, 3 -/
def bu167B0 : BC :=
  .seq (.seq (.ins [⟨none, .bin .lss (.t 4) (.t 3)⟩]) <|
  .seq (.cond (.t 5) (.skip) (.exit 0 [])) <|
  .seq (.block 1 (.seq (.seq (.ins [⟨none, .iad 1 (.t 2) (.t 4)⟩, ⟨none, .ld false 1 (.t 6)⟩]) <|
  .seq (.ins [⟨none, .callv false (.t 1) [.t 7]⟩, ⟨none, .call false 94 [.t 0, .t 8]⟩, ⟨none, .ext (.t 9) 0⟩, ⟨none, .ext (.t 9) 1⟩, ⟨none, .ext (.t 9) 2⟩]) <|
  .seq (.ins [⟨none, .not (.t 12)⟩]) <|
  .cond (.t 13) (.seq (.ins []) <|
  .ret [.d (.bool false)]) (.skip)) <|
  .foc [.t 11, .t 1, .t 2, .t 3, .t 4])) <|
  .ins [⟨none, .bin .add (.t 4) (.d (.int .i64 1))⟩]) <|
  .foc [.t 0, .t 1, .t 2, .t 3, .t 5]
def bu167L0 : BC := bu167B0
theorem bu167L0_eq : bu167L0 = bu167B0 := rfl

def bu167 : BFun := ⟨[.t 0],
  .seq (.ins [⟨none, .box 7 (.t 0)⟩]) <|
  .seq (.ins [⟨none, .fad (.t 3) 3⟩, ⟨none, .ld false 1 (.t 4)⟩, ⟨none, .callv false (.t 2) [.t 5]⟩, ⟨none, .call false 141 [.t 1, .t 6]⟩, ⟨none, .ext (.t 7) 0⟩, ⟨none, .ext (.t 7) 1⟩]) <|
  .seq (.seq (.ins [⟨none, .not (.t 9)⟩]) <|
  .cond (.t 10) (.seq (.ins []) <|
  .ret [.d (.bool false)]) (.skip)) <|
  .seq (.seq (.ins [⟨none, .fad (.t 3) 4⟩, ⟨none, .ld false 1 (.t 11)⟩, ⟨none, .callv false (.t 2) [.t 12]⟩, ⟨none, .call false 201 [.t 8, .t 13]⟩, ⟨none, .ext (.t 14) 0⟩, ⟨none, .ext (.t 14) 1⟩]) <|
  .seq (.ins [⟨none, .not (.t 16)⟩]) <|
  .cond (.t 17) (.seq (.ins []) <|
  .ret [.d (.bool false)]) (.skip)) <|
  .seq (.seq (.ins [⟨none, .fad (.t 3) 5⟩, ⟨none, .ld false 1 (.t 18)⟩, ⟨none, .len (.t 19)⟩]) <|
  .block 0 (.seq (.foc [.t 15, .t 2, .t 19, .t 20, .d (.int .i64 0)]) <|
  .loop bu167L0)) <|
  .seq (.ins []) <|
  .ret [.d (.bool true)]⟩
theorem oku167 : Code2 Tryz.prog prims1 167 3 bu167 := Code2.mk' rfl Tryz.func167 (by kernel_rfl) (by kernel_rfl)

/- 168: (verger/filter.Filter).value$1, 1 -/
def bu168 : BFun := ⟨[.t 0],
  .seq (.ins []) <|
  .seq (.ins []) <|
  .ret [.t 0]⟩
theorem oku168 : Code2 Tryz.prog prims1 168 1 bu168 := Code2.mk' rfl Tryz.func168 (by kernel_rfl) (by kernel_rfl)

end Go.Abs

/- FilterPrints: the run. -/
namespace Go.Abs
open Go Go.Proofs

def tbU : FuncId → Option (Nat × BFun)
  | 11 => some (0, bu11) | 25 => some (1, bu25) | 51 => some (2, bu51) | 92 => some (2, bu92) | 17 => some (1, bu17) | 21 => some (1, bu21)
  | 42 => some (2, bu42) | 84 => some (1, bu84) | 131 => some (1, bu131) | 132 => some (1, bu132) | 133 => some (2, bu133) | 134 => some (1, bu134)
  | 177 => some (2, bu177) | 14 => some (2, bu14) | 40 => some (2, bu40) | 81 => some (1, bu81) | 82 => some (2, bu82) | 80 => some (1, bu80)
  | 124 => some (2, bu124) | 166 => some (2, bu166) | 200 => some (2, bu200) | 233 => some (1, bu233) | 125 => some (3, bu125) | 167 => some (3, bu167) | 168 => some (1, bu168)
  | _ => none
set_option maxRecDepth 1000000 in
theorem awake_T : runT prims1 tbU 40 11 [] [] = some (.bool true, []) := by kernel_rfl
theorem tbU_ok (f : FuncId) (np : Nat) (b : BFun) (h : tbU f = some (np, b)) : Code2 Tryz.prog prims1 f np b := by
  unfold tbU at h
  split at h
  all_goals (first | (cases h; done) | (cases h; first | exact oku11 | exact oku25 | exact oku51 | exact oku92 | exact oku17 | exact oku21 | exact oku42 | exact oku84 | exact oku131 | exact oku132 | exact oku133 | exact oku134 | exact oku177 | exact oku14 | exact oku40 | exact oku81 | exact oku82 | exact oku80 | exact oku124 | exact oku166 | exact oku200 | exact oku233 | exact oku125 | exact oku167 | exact oku168))
theorem run11 : TU 11 [] [] = some (.bool true, []) := runT_ok tbU_ok 40 _ _ _ _ awake_T

/-- A call of a function of data. -/
theorem call_d {O : Orc} {f : FuncId} {args : List AV} {r : DV} {pu : Bool} {bs : List Box} {tau : List Nat} {vs : List AV} (ha : argVs [] args = some (vs, [])) (h : O f vs [] = some (r, [])) : evCall O pu f args bs tau = some (.d r, bs, tau) := by
  rw [evCall_A, ha]
  simp only [callA, callK, h]

theorem run5 (f g : Flt) (hf : f.Ok) (hg : g.Ok) : TU 5 [.d (encF f), .d (encF g)] [] = some (.bool true, []) := by
  refine oku5.run ?_
  have c11 : ∀ {pu bs tau}, evCall TU pu 11 [] bs tau = some (.d (.bool true), bs, tau) := call_d rfl run11
  have ea : ∀ (x : Flt), argVs [] [.d (encF x)] = some ([.d (encF x)], []) := fun x => by simp only [bCall, encF_canon2]
  have ea2 : ∀ (x y : Flt), argVs [] [.d (encF x), .d (encF y)] = some ([.d (encF x), .d (encF y)], []) := fun x y => by simp only [bCall, encF_canon2]
  have c12 : ∀ {x : Flt} {pu bs tau}, x.Ok → evCall TU pu 12 [.d (encF x)] bs tau = some (.d (.bool (small x)), bs, tau) := fun h => call_d (ea _) (lift1 _ _ _ _ (run12 _ h))
  have c15 : ∀ {x : Flt} {pu bs tau}, x.Ok → evCall TU pu 15 [.d (encF x)] bs tau = some (.d (encF x), bs, tau) := fun h => call_d (ea _) (lift1 _ _ _ _ (run15 _ _ (Nat.le_refl _) h))
  have c17 : ∀ {x : Flt} {pu bs tau}, x.Ok → evCall TU pu 17 [.d (encF x)] bs tau = some (.d (.bool (formedF x)), bs, tau) := fun h => call_d (ea _) (lift1 _ _ _ _ (run17 _ h))
  have c20 : ∀ {x : Flt} {pu bs tau}, x.Ok → evCall TU pu 20 [.d (encF x)] bs tau = some (.d (.bool (formedF x)), bs, tau) := fun h => call_d (ea _) (lift1 _ _ _ _ (run20 _ h))
  have c21 : ∀ {x : Flt} {pu bs tau}, x.Ok → evCall TU pu 21 [.d (encF x)] bs tau = some (.d (.int .i64 (nodes x)), bs, tau) := fun h => call_d (ea _) (lift1 _ _ _ _ (run21 _ _ (Nat.le_refl _) h))
  have c22 : ∀ {x : Flt} {pu bs tau}, x.Ok → evCall TU pu 22 [.d (encF x)] bs tau = some (.d (.int .i64 (nodes x)), bs, tau) := fun h => call_d (ea _) (lift1 _ _ _ _ (run22 _ _ (Nat.le_refl _) h))
  have c23 : ∀ {x y : Flt} {pu bs tau}, x.Ok → evCall TU pu 23 [.d (encF x), .d (encF y)] bs tau = some (.d (.bool (sameF x y)), bs, tau) := fun h => call_d (ea2 _ _) (lift1 _ _ _ _ (run23 _ _ _ (Nat.le_refl _) h))
  have c24 : ∀ {x y : Flt} {pu bs tau}, x.Ok → evCall TU pu 24 [.d (encF x), .d (encF y)] bs tau = some (.d (.bool (sameF x y)), bs, tau) := fun h => call_d (ea2 _ _) (lift1 _ _ _ _ (run24 _ _ _ (Nat.le_refl _) h))
  by_cases hs : small f = true ∧ small g = true
  · obtain ⟨s1, s2⟩ := hs
    obtain ⟨t, n, hp⟩ : ∃ t n, printF f = .tup [.str t, .int .i64 n] := by
      unfold printF; split
      · exact ⟨_, _, rfl⟩
      · exact ⟨_, _, rfl⟩
    have c18 : ∀ {pu bs tau}, evCall TU pu 18 [.d (encF f)] bs tau = some (.d (.tup [.str t, .int .i64 n]), bs, tau) := by rw [← hp]; exact call_d (ea _) (lift1 _ _ _ _ (run18 _ hf (text_small s1)))
    have c19 : ∀ {pu bs tau}, evCall TU pu 19 [.d (encF f)] bs tau = some (.d (.tup [.str t, .int .i64 n]), bs, tau) := by rw [← hp]; exact call_d (ea _) (lift1 _ _ _ _ (run19 _ hf (text_small s1)))
    have x0 : ∀ {bs tau}, extK 0 bs tau (.d (.tup [.str t, .int .i64 n])) = some (.d (.str t), bs, tau) := rfl
    have x1 : ∀ {bs tau}, extK 1 bs tau (.d (.tup [.str t, .int .i64 n])) = some (.d (.int .i64 n), bs, tau) := rfl
    simp only [bu5]
    simp only [x0, x1, bC, bO, bV, bF, bL, bFlt, List.length_nil, List.nil_append, List.cons_append, List.length_cons, c11, c12 hf, c12 hg, c15 hf, c15 hg, c17 hf, c20 hf, c21 hf, c22 hf, c23 hf, c24 hf, Bool.not_true, Bool.not_false, grdK, cndK, if_true, if_false, Bool.false_eq_true, Bool.true_eq_false, reduceIte, beq_self_eq_true, c18, c19, s1, s2]
  · have hs : small f = false ∨ small f = true ∧ small g = false := by
      cases h1 : small f <;> cases h2 : small g <;> simp_all
    rcases hs with h1 | ⟨h1, h2⟩
    · simp only [bu5]
      simp only [bC, bO, bV, bF, bL, bFlt, List.length_nil, List.nil_append, List.cons_append, List.length_cons, c11, c12 hf, c12 hg, c15 hf, c15 hg, c17 hf, c20 hf, c21 hf, c22 hf, c23 hf, c24 hf, Bool.not_true, Bool.not_false, grdK, cndK, if_true, if_false, Bool.false_eq_true, Bool.true_eq_false, reduceIte, beq_self_eq_true, h1]
    · simp only [bu5]
      simp only [bC, bO, bV, bF, bL, bFlt, List.length_nil, List.nil_append, List.cons_append, List.length_cons, c11, c12 hf, c12 hg, c15 hf, c15 hg, c17 hf, c20 hf, c21 hf, c22 hf, c23 hf, c24 hf, Bool.not_true, Bool.not_false, grdK, cndK, if_true, if_false, Bool.false_eq_true, Bool.true_eq_false, reduceIte, beq_self_eq_true, h1, h2]
end Go.Abs

/- What was read as a filter is a filter. -/
namespace Go.Abs
open Go Go.Proofs

theorem Al2_map {α β γ : Type} {R : γ → β → Prop} (g : α → γ) : ∀ {xs : List α} {ys : List β}, Al2 (fun x y => R (g x) y) xs ys → Al2 R (xs.map g) ys
  | [], ys, h => h
  | x :: xs, ys, h => by
    obtain ⟨y, zs, rfl, h1, h2⟩ := h
    exact ⟨y, zs, rfl, h1, Al2_map g h2⟩
theorem choose_map {α β : Type} {g : α → β} {p : α → Prop} : ∀ {l : List β}, (∀ y ∈ l, ∃ a, y = g a ∧ p a) → ∃ k : List α, l = k.map g ∧ ∀ a ∈ k, p a
  | [], _ => ⟨[], rfl, by simp⟩
  | y :: l, h => by
    obtain ⟨a, rfl, ha⟩ := h y (by simp)
    obtain ⟨k, rfl, hk⟩ := choose_map (l := l) fun z hz => h z (List.mem_cons_of_mem _ hz)
    exact ⟨a :: k, rfl, fun b hb => by rcases List.mem_cons.1 hb with rfl | hb; exact ha; exact hk b hb⟩

theorem und3 : Tryz.prog.underlying 3 = some (.int .i64) := by kernel_rfl
theorem und9 : Tryz.prog.underlying 9 = some .string := by kernel_rfl
theorem und22 : Tryz.prog.underlying 22 = some (.slice 9) := by kernel_rfl
theorem und23 : Tryz.prog.underlying 23 = some (.slice 25) := by kernel_rfl
theorem und25 : ((Tryz.prog.underlying 25).bind fun d => match d with | .struct fs => some (fs.toList.map fun f => f.type) | _ => none) = some [3, 9, 9, 9, 9, 22, 23] := by kernel_rfl
theorem cells9 : Tryz.prog.cellsOf 9 = 1 := by kernel_rfl
theorem cells25 : Tryz.prog.cellsOf 25 = 7 := by kernel_rfl

theorem typed3 {N n : Nat} {x : DV} (h : Typed Tryz.prog N n 3 x) : ∃ i, x = .int .i64 i := by
  cases n with
  | zero => exact h.elim
  | succ n => simp only [Typed, und3] at h; obtain ⟨i, rfl, _⟩ := h; exact ⟨i, rfl⟩
theorem typed9 {N n : Nat} {x : DV} (h : Typed Tryz.prog N n 9 x) : ∃ s, x = .str s ∧ s.length ≤ N := by
  cases n with
  | zero => exact h.elim
  | succ n => simp only [Typed, und9] at h; exact h
theorem typed22 {N n : Nat} {x : DV} (h : Typed Tryz.prog N n 22 x) : ∃ l : List (List UInt8), x = slc 1 (l.map .str) ∧ l.length ≤ N ∧ ∀ s ∈ l, s.length ≤ N := by
  cases n with
  | zero => exact h.elim
  | succ n =>
    simp only [Typed, und22, cells9] at h
    obtain ⟨es, rfl, h1, h2⟩ := h
    obtain ⟨l, rfl, h3⟩ := choose_map fun y hy => typed9 (h2 y hy)
    exact ⟨l, rfl, by simpa using h1, h3⟩

/-- Every length is bounded. -/
inductive Flt.Up (N : Nat) : Flt → Prop
  | mk {f : Flt} : f.attr.length ≤ N → f.value.length ≤ N → f.first.length ≤ N → f.last.length ≤ N → f.any.length ≤ N → (∀ s ∈ f.any, s.length ≤ N) → f.parts.length ≤ N → (∀ p ∈ f.parts, Flt.Up N p) → Flt.Up N f
set_option maxRecDepth 100000 in
theorem typed25 {N : Nat} (n : Nat) : ∀ {x : DV}, Typed Tryz.prog N n 25 x → ∃ f : Flt, x = encF f ∧ f.Up N := by
  induction n using Nat.strongRecOn with
  | ind n ih =>
  cases n with
  | zero => intro x h; exact h.elim
  | succ n =>
    intro x h
    have hu := und25
    cases hd : Tryz.prog.underlying 25 with
    | none => rw [hd] at hu; cases hu
    | some d =>
      rw [hd] at hu
      cases d <;> simp only [Option.bind_some, reduceCtorEq] at hu
      rename_i fs
      simp only [Typed, hd] at h
      obtain ⟨ys, rfl, h1⟩ := h
      have h2 := Al2_map (R := fun t y => Typed Tryz.prog N n t y) (fun f : Field => f.type) h1
      rw [Option.some.inj hu] at h2
      obtain ⟨y0, _, rfl, t0, y1, _, rfl, t1, y2, _, rfl, t2, y3, _, rfl, t3, y4, _, rfl, t4, y5, _, rfl, t5, y6, _, rfl, t6, rfl⟩ := h2
      obtain ⟨i, rfl⟩ := typed3 t0
      obtain ⟨a, rfl, ha⟩ := typed9 t1
      obtain ⟨v, rfl, hv⟩ := typed9 t2
      obtain ⟨p, rfl, hp⟩ := typed9 t3
      obtain ⟨q, rfl, hq⟩ := typed9 t4
      obtain ⟨l, rfl, hl, hl2⟩ := typed22 t5
      have h6 : ∃ fs : List Flt, y6 = slc 7 (fs.map encF) ∧ fs.length ≤ N ∧ ∀ f ∈ fs, f.Up N := by
        cases n with
        | zero => exact t6.elim
        | succ n =>
          simp only [Typed, und23, cells25] at t6
          obtain ⟨es, rfl, k1, k2⟩ := t6
          obtain ⟨l, rfl, k3⟩ := choose_map fun y hy => ih n (by omega) (k2 y hy)
          exact ⟨l, rfl, by simpa using k1, k3⟩
      obtain ⟨ps, rfl, hps, hps2⟩ := h6
      refine ⟨⟨i, a, v, p, q, l, ps⟩, ?_, .mk ha hv hp hq hl hl2 hps hps2⟩
      rw [encF_eq]
      simp only [List.flatMap_cons, List.flatMap_nil, slc_cells, Flt.kind, Flt.attr, Flt.value, Flt.first, Flt.last, Flt.any, Flt.parts]
      rfl
theorem Flt.Up.ok {N : Nat} (hN : N ≤ 1073741824) {f : Flt} (h : f.Up N) : f.Ok := by
  induction h with
  | mk h1 h2 h3 h4 h5 h6 h7 h8 ih => exact .mk (by omega) (by omega) (by omega) ih
end Go.Abs

/- FilterPrints: the row and the card, out of the run. Written by wip/tools/gen_row.py. -/
namespace Go.Proofs.YtinebfdbacaahaaGreatDoor.filterPrints
open Go Go.Abs Go.Proofs

theorem r1 : Rows.filterPrintsUptoRow.unfollowed = Tryz.prog.unfollowed 5 := by kernel_rfl
theorem r2 : Rows.filterPrintsUptoRow.recurses = Tryz.prog.recurses 5 := by kernel_rfl
theorem r3 : Rows.filterPrintsUptoRow.named = Tryz.prog.varsNamed 5 := by kernel_rfl
theorem r4 : Rows.filterPrintsUptoRow.inPlace = Tryz.prog.inPlace 5 := by kernel_rfl
theorem r5 : (Rows.filterPrintsUptoRow.lifted == Tryz.prog.liftsFinal) = true := by kernel_rfl
theorem r6 : (Tryz.prog.make == some Rows.filterPrintsUptoRow.make) = true := by kernel_rfl
theorem r7 : (Rows.filterPrintsUptoRow.plainKeys == Tryz.prog.plainKeys) = true := by kernel_rfl
theorem closed : joinedFacts Tryz.prog 5 Tryz.f5 (Rows.OpenSpec.upto Rows.filterPrintsSpec).bare Rows.filterPrintsUptoRow = true := by
  unfold joinedFacts
  simp only [Bool.and_eq_true]
  repeat' apply And.intro
  all_goals (with_reducible first | exact laidOut | exact mapsRow | exact heard | exact enters | exact r5 | exact r6 | exact r7 | exact beq_iff_eq.2 r1 | exact beq_iff_eq.2 r2 | exact beq_iff_eq.2 r3 | exact beq_iff_eq.2 r4 | skip)
  all_goals (as_aux_lemma => kernel_rfl)

theorem reads (os : Os) {H : Type} (enc : TypeId × Value → H) : ∃ places, DataW.whole enc Tryz.prog ((laidWorld os).forCall (fun _ _ => 0) ⟨#[], #[zeroF, zeroF], []⟩).memory Tryz.f5.params.toList Rows.filterPrintsSpec.vars false (#[zeroF, zeroF] : Array Value).toList 8 = some ([zeroFD, zeroFD], [], places) :=
  ⟨[], by kernel_rfl⟩
theorem fit1 (os : Os) : ((laidWorld os).forCall (fun _ _ => 0) ⟨#[], #[zeroF, zeroF], []⟩).variablesRefB Tryz.checked.prog = true := by kernel_rfl
theorem fit2 (os : Os) : (((laidWorld os).forCall (fun _ _ => 0) ⟨#[], #[zeroF, zeroF], []⟩).heap.toList.drop Tryz.checked.prog.globals.size).take ((begin Tryz.checked.prog (fun _ _ => 0) default).world.heap.size - Tryz.checked.prog.globals.size) =
      (begin Tryz.checked.prog (fun _ _ => 0) default).world.heap.toList.drop Tryz.checked.prog.globals.size := by kernel_rfl
theorem fit3 (os : Os) : Input.okWideB Tryz.checked.prog ((laidWorld os).forCall (fun _ _ => 0) ⟨#[], #[zeroF, zeroF], []⟩) 5 ⟨#[], #[zeroF, zeroF], []⟩ = true := by kernel_rfl
theorem pars : Tryz.f5.params.toList = [25, 25] := by rw [Tryz.params5]

set_option maxRecDepth 100000 in
theorem lifted {pr : FuncId → Option (List AV → List Box → Option (DV × List Box))} (hT : TabOK Tryz.prog (Tab.of Tryz.prog pr)) (hrun : ∀ xs, Al2 (fun t x => ∃ n, Typed Tryz.prog 1048576 n t x) [25, 25] xs → Run (Tab.of Tryz.prog pr) 5 (xs.map .d) [] = some (.bool true, []))
    (os : Os) (started : os.Started) (H : Type) (enc : TypeId × Value → H) (F : Stop.Interp) :
    ReturnsInHanded {} Tryz.checked os 5 .any ((Rows.OpenSpec.upto Rows.filterPrintsSpec).preRow enc Tryz.prog Tryz.f5 Rows.filterPrintsUptoRow.domain false Rows.filterPrintsUptoRow.laid) (((Rows.OpenSpec.upto Rows.filterPrintsSpec).at F).post enc Tryz.prog Tryz.f5 false true false false) := by
  obtain ⟨places, hx⟩ := reads os enc
  refine returnsInHanded_of_row (C := Tryz.checked) (s := Rows.OpenSpec.upto Rows.filterPrintsSpec) own started (by as_aux_lemma => kernel_rfl) Tryz.func5
    (witness_row_atRef (enc := enc) (C := Tryz.checked) false (laidWorld os) #[zeroF, zeroF] rfl (fit1 os) (fit2 os) (fit3 os)
      (OpenSpec.preRow_of_cond 8 hx (by as_aux_lemma => kernel_rfl) (fun k hk => by cases hk; kernel_rfl) (by as_aux_lemma => kernel_rfl) (laid_met os _))) ?_
  intro W base args ds gs before hval hW _ hcond _ hL hsh _
  have hb := of_decide_eq_true (hcond _ rfl)
  exact law_contract (s := Rows.filterPrintsSpec) (tb := 4) hT typesP_data typesP_read laidOut (by rw [pars]; decide) (by as_aux_lemma => kernel_rfl) Tryz.underlying4 rfl
    (fun ds hd => by
      rw [pars] at hd
      match ds, hd with
      | [d0, d1], _ => rfl)
    (by rw [pars]; exact hrun) W args ds gs before hval hW hb (glob_of hL hsh)

theorem said {pr : FuncId → Option (List AV → List Box → Option (DV × List Box))} (hT : TabOK Tryz.prog (Tab.of Tryz.prog pr)) (hrun : ∀ xs, Al2 (fun t x => ∃ n, Typed Tryz.prog 1048576 n t x) [25, 25] xs → Run (Tab.of Tryz.prog pr) 5 (xs.map .d) [] = some (.bool true, [])) : Rows.FilterPrintsUptoSaid :=
  OpenClaim.holds_of_cond 5 Tryz.f5 rfl rfl rfl rfl rfl rfl rfl ⟨rfl, rfl, rfl, rfl, rfl⟩ rfl rfl rfl rfl rfl (by as_aux_lemma => kernel_rfl) Tryz.func5 closed
    (of_decide_eq_true (by as_aux_lemma => kernel_rfl)) (by unfold Func.isWrapper; first | (rw [if_pos (by decide +kernel)]; kernel_rfl) | (rw [if_neg (by decide +kernel)]; exact ⟨rfl, rfl⟩))
    (fun os started H enc _ F => by rw [OpenClaim.pre_eq_preRow]; exact lifted hT hrun os started H enc F)

theorem named : Tryz.prog.funcNamed "verger/vergerlaw07.FilterPrints" = some 5 := by kernel_rfl
theorem plain (f : FuncId) (fn : Func) (hf : Tryz.pinned.checked.prog.funcNamed "verger/vergerlaw07.FilterPrints" = some f) (hfn : Tryz.pinned.checked.prog.funcs[f]? = some fn) :
    true = Tryz.pinned.checked.prog.looks [] ∧ ∀ (j : Nat) t, fn.params[j]? = some t → Tryz.pinned.checked.prog.wantsStandIn t = false := by
  obtain rfl : f = 5 := Option.some.inj (named.symm.trans hf) |>.symm
  obtain rfl : fn = Tryz.f5 := (Option.some.inj (Tryz.func5.symm.trans hfn)).symm
  refine ⟨lookOk, fun j t ht => ?_⟩
  have hm := Array.mem_of_getElem? ht
  rw [← Array.mem_toList_iff, pars] at hm
  exact typesP_stand t ((show ∀ t ∈ ([25, 25] : List TypeId), t ∈ typesP by decide) t hm)

theorem card {pr : FuncId → Option (List AV → List Box → Option (DV × List Box))} (hT : TabOK Tryz.prog (Tab.of Tryz.prog pr)) (hrun : ∀ xs, Al2 (fun t x => ∃ n, Typed Tryz.prog 1048576 n t x) [25, 25] xs → Run (Tab.of Tryz.prog pr) 5 (xs.map .d) [] = some (.bool true, [])) : Rows.FilterPrintsUptoCardSaid :=
  Claim7.holds_tied_plain_at .later [] _ _ _ _ (said hT hrun) (fun _ h => by cases h) (by as_aux_lemma => kernel_rfl) (fun _ h => by cases h) filterPrintsUpto_row_tie rfl ⟨rfl, rfl⟩ (by as_aux_lemma => kernel_rfl) rfl plain (by as_aux_lemma => kernel_rfl)
end Go.Proofs.YtinebfdbacaahaaGreatDoor.filterPrints

/- FilterPrints: the card. -/
namespace Go.Proofs.YtinebfdbacaahaaGreatDoor
open Go Go.Abs Go.Proofs

theorem filterPrintsUpto_card : Rows.FilterPrintsUptoCardSaid := by
  refine filterPrints.card tab1_ok fun xs h => ?_
  obtain ⟨x, _, rfl, ⟨n, h1⟩, y, _, rfl, ⟨k, h2⟩, rfl⟩ := h
  obtain ⟨f, rfl, hf⟩ := typed25 n h1
  obtain ⟨g, rfl, hg⟩ := typed25 k h2
  exact run5 f g (hf.ok (by decide)) (hg.ok (by decide))
end Go.Proofs.YtinebfdbacaahaaGreatDoor
