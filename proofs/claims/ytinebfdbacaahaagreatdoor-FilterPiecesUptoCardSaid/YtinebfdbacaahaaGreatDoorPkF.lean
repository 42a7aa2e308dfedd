/- Part PkF of the proof: Flt CodA FunA FunB FunC FunD FunE FunF. -/
import Derived.Test.YtinebfdbacaahaaGreatDoorPkC
import Derived.Test.YtinebfdbacaahaaGreatDoorChecked
set_option linter.unusedSimpArgs false
set_option linter.unusedVariables false
set_option linter.unusedSectionVars false
set_option linter.unnecessarySimpa false

/- A filter as data; the equations that speak of it. -/
namespace Go.Abs
open Go

inductive Flt where
  | mk (kind : Int) (attr value first last : List UInt8) (any : List (List UInt8)) (parts : List Flt)

namespace Flt
def kind : Flt → Int | .mk k _ _ _ _ _ _ => k
def attr : Flt → List UInt8 | .mk _ a _ _ _ _ _ => a
def value : Flt → List UInt8 | .mk _ _ v _ _ _ _ => v
def first : Flt → List UInt8 | .mk _ _ _ f _ _ _ => f
def last : Flt → List UInt8 | .mk _ _ _ _ l _ _ => l
def any : Flt → List (List UInt8) | .mk _ _ _ _ _ y _ => y
def parts : Flt → List Flt | .mk _ _ _ _ _ _ p => p
end Flt

mutual
def encF : Flt → DV
  | .mk k a v f l y p => .agg [.int .i64 k, .str a, .str v, .str f, .str l, slc 1 (y.map .str), slc 7 (encFs p)]
def encFs : List Flt → List DV
  | [] => []
  | p :: ps => encF p :: encFs ps
end
theorem encFs_eq : ∀ l, encFs l = l.map encF
  | [] => rfl
  | p :: ps => by simp only [encFs, List.map_cons, encFs_eq ps]
theorem encF_eq (f : Flt) : encF f = .agg [.int .i64 f.kind, .str f.attr, .str f.value, .str f.first, .str f.last, slc 1 (f.any.map .str), slc 7 (f.parts.map encF)] := by
  cases f; simp only [encF, encFs_eq, Flt.kind, Flt.attr, Flt.value, Flt.first, Flt.last, Flt.any, Flt.parts]
theorem slc_c1 {s : Nat} {l : List DV} : canon1 (slc s l) = slc s l := by cases l <;> rfl
theorem encF_canon2 (f : Flt) : canon2 (encF f) = encF f := by rw [encF_eq]; simp only [canon2, List.map_cons, List.map_nil, slc_c1]; rfl
theorem encF_canon (f : Flt) : canon (encF f) = encF f := by rw [encF_eq]; simp only [canon, canon2, List.map_cons, List.map_nil, slc_c1]; rfl
/-- The box of a filter. -/
def fbox (f : Flt) : Box := .cells ((encF f).cells.map .d)
theorem encF_cells (f : Flt) : (encF f).cells = [.int .i64 f.kind, .str f.attr, .str f.value, .str f.first, .str f.last, slc 1 (f.any.map .str), slc 7 (f.parts.map encF)] := by rw [encF_eq]; rfl

theorem f_box {bs : List Box} {tau : List Nat} (f : Flt) : boxK 7 bs tau (.d (encF f)) = some (.bp bs.length 0, bs ++ [fbox f], tau) := by
  unfold fbox; rw [encF_eq]; rfl
theorem f_ep {bs : List Box} {tau : List Nat} (f : Flt) : ldK true 7 bs tau (.ep (encF f).cells) = some (.d (encF f), bs, tau) := by
  rw [encF_eq]; rfl

theorem bFlt :
    (∀ {f r tau}, ldK true 7 (fbox f :: r) tau (.bp 0 0) = some (.d (encF f), fbox f :: r, tau)) ∧
    (∀ {f r tau}, ldK false 1 (fbox f :: r) tau (.bp 0 0) = some (.d (.int .i64 f.kind), fbox f :: r, tau)) ∧
    (∀ {f r tau}, ldK false 1 (fbox f :: r) tau (.bp 0 1) = some (.d (.str f.attr), fbox f :: r, tau)) ∧
    (∀ {f r tau}, ldK false 1 (fbox f :: r) tau (.bp 0 2) = some (.d (.str f.value), fbox f :: r, tau)) ∧
    (∀ {f r tau}, ldK false 1 (fbox f :: r) tau (.bp 0 3) = some (.d (.str f.first), fbox f :: r, tau)) ∧
    (∀ {f r tau}, ldK false 1 (fbox f :: r) tau (.bp 0 4) = some (.d (.str f.last), fbox f :: r, tau)) ∧
    (∀ {f r tau}, ldK false 1 (fbox f :: r) tau (.bp 0 5) = some (.d (slc 1 (f.any.map .str)), fbox f :: r, tau)) ∧
    (∀ {f r tau}, ldK false 1 (fbox f :: r) tau (.bp 0 6) = some (.d (slc 7 (f.parts.map encF)), fbox f :: r, tau)) ∧
    (∀ {x f r tau}, ldK true 7 (x :: fbox f :: r) tau (.bp 1 0) = some (.d (encF f), x :: fbox f :: r, tau)) ∧
    (∀ {x f r tau}, ldK false 1 (x :: fbox f :: r) tau (.bp 1 0) = some (.d (.int .i64 f.kind), x :: fbox f :: r, tau)) ∧
    (∀ {x f r tau}, ldK false 1 (x :: fbox f :: r) tau (.bp 1 1) = some (.d (.str f.attr), x :: fbox f :: r, tau)) ∧
    (∀ {x f r tau}, ldK false 1 (x :: fbox f :: r) tau (.bp 1 2) = some (.d (.str f.value), x :: fbox f :: r, tau)) ∧
    (∀ {x f r tau}, ldK false 1 (x :: fbox f :: r) tau (.bp 1 3) = some (.d (.str f.first), x :: fbox f :: r, tau)) ∧
    (∀ {x f r tau}, ldK false 1 (x :: fbox f :: r) tau (.bp 1 4) = some (.d (.str f.last), x :: fbox f :: r, tau)) ∧
    (∀ {x f r tau}, ldK false 1 (x :: fbox f :: r) tau (.bp 1 5) = some (.d (slc 1 (f.any.map .str)), x :: fbox f :: r, tau)) ∧
    (∀ {x f r tau}, ldK false 1 (x :: fbox f :: r) tau (.bp 1 6) = some (.d (slc 7 (f.parts.map encF)), x :: fbox f :: r, tau)) ∧
    (∀ {bs tau f}, boxK 7 bs tau (.d (encF f)) = some (.bp bs.length 0, bs ++ [fbox f], tau)) ∧
    (∀ {bs tau f}, ldK true 7 bs tau (.ep (encF f).cells) = some (.d (encF f), bs, tau)) ∧
    (∀ {f}, canon2 (encF f) = encF f) ∧ (∀ {f}, canon (encF f) = encF f) ∧
    (∀ {f}, DV.agg [.int .i64 f.kind, .str f.attr, .str f.value, .str f.first, .str f.last, slc 1 (f.any.map .str), slc 7 (f.parts.map encF)] = encF f) ∧
    (∀ {bs tau x l}, ldK false 1 bs tau (.ep (x :: l)) = some (.d x, bs, tau)) ∧
    (∀ {s}, (DV.str s).cells = [DV.str s]) ∧
    (∀ {n : Nat}, 0 + n = n) := by
  refine ⟨?_, ?_, ?_, ?_, ?_, ?_, ?_, ?_, ?_, ?_, ?_, ?_, ?_, ?_, ?_, ?_, f_box _, f_ep _, encF_canon2 _, encF_canon _, (encF_eq _).symm, ?_, rfl, Nat.zero_add _⟩
  all_goals intros
  all_goals try unfold fbox
  all_goals try rw [encF_eq]
  all_goals rfl

theorem ia_map {α : Type} {l : List α} {g : α → DV} {i : Nat} (h : i < l.length) :
    (∀ {bs : List Box} {tau : List Nat} {sz : Nat} {k : IntKind}, iadK bs tau sz (.d (.slice sz (l.map g))) (.d (.int k i)) = some (.ep (g l[i]).cells, bs, tau)) ∧
    (∀ {bs : List Box} {tau : List Nat} {sz : Nat} {k : IntKind}, iadK bs tau sz (.d (slc sz (l.map g))) (.d (.int k i)) = some (.ep (g l[i]).cells, bs, tau)) := by
  constructor
  · intros; simp [iadK, asIx, elemsOf, h]
  · intros; simp [iadK, asIx, elems_slc, h]

/-- Every list in it is of a size that the machine can count. -/
inductive Flt.Sz : Flt → Prop
  | mk {f : Flt} : f.any.length ≤ 1073741824 → f.parts.length ≤ 1073741824 → (∀ p ∈ f.parts, p.Sz) → f.Sz
theorem Flt.Sz.any {f : Flt} (h : f.Sz) : f.any.length ≤ 1073741824 := by cases h; assumption
theorem Flt.Sz.parts {f : Flt} (h : f.Sz) : f.parts.length ≤ 1073741824 := by cases h; assumption
theorem Flt.Sz.part {f : Flt} (h : f.Sz) {i : Nat} (hi : i < f.parts.length) : (f.parts[i]).Sz := by cases h with | mk _ _ h => exact h _ (List.getElem_mem hi)

mutual
def Flt.size : Flt → Nat
  | .mk _ _ _ _ _ _ p => 1 + Flt.sizes p
def Flt.sizes : List Flt → Nat
  | [] => 0
  | p :: ps => p.size + Flt.sizes ps
end
theorem Flt.size_mem : ∀ {l : List Flt} {p : Flt}, p ∈ l → p.size ≤ Flt.sizes l
  | [], _, h => by cases h
  | q :: l, p, h => by
    simp only [Flt.sizes]
    cases h with
    | head => omega
    | tail _ h => have := Flt.size_mem h; omega
theorem Flt.size_part {f : Flt} {i : Nat} (hi : i < f.parts.length) : (f.parts[i]).size < f.size := by
  cases f with
  | mk k a v x l y p =>
    have := Flt.size_mem (List.getElem_mem hi)
    simp only [Flt.parts, Flt.size] at *
    omega
end Go.Abs

/- The program's functions in the second form: written by wip/tools/PrintB.lean. -/
namespace Go.Abs
open Go Go.Proofs
/- 5: verger/vergerlaw07.FilterPrints, 2 -/
def b5 : BFun := ⟨[.t 0],
  .seq (.ins [⟨none, .box 7 (.t 0)⟩, ⟨none, .box 7 (.t 1)⟩]) <|
  .seq (.seq (.ins [⟨none, .call false 11 []⟩, ⟨none, .not (.t 4)⟩, ⟨some (5, false), .ld true 7 (.t 2)⟩, ⟨some (5, false), .call false 12 [.t 6]⟩, ⟨some (5, false), .not (.t 7)⟩, ⟨none, .pick (.t 5) (.d (.bool true)) (.t 8)⟩, ⟨some (9, false), .ld true 7 (.t 3)⟩, ⟨some (9, false), .call false 12 [.t 10]⟩, ⟨some (9, false), .not (.t 11)⟩, ⟨none, .pick (.t 9) (.d (.bool true)) (.t 12)⟩]) <|
  .cond (.t 13) (.seq (.ins [⟨none, .call false 11 []⟩]) <|
  .ret [.t 14]) (.skip)) <|
  .seq (.ins [⟨none, .ld true 7 (.t 2)⟩, ⟨none, .call false 15 [.t 14]⟩, ⟨none, .call false 18 [.t 15]⟩, ⟨none, .ext (.t 16) 0⟩, ⟨none, .ext (.t 16) 1⟩]) <|
  .seq (.ins [⟨none, .ld true 7 (.t 2)⟩, ⟨none, .call false 19 [.t 19]⟩, ⟨none, .ext (.t 20) 0⟩, ⟨none, .ext (.t 20) 1⟩]) <|
  .seq (.ins [⟨none, .bin .eql (.t 17) (.t 21)⟩, ⟨some (23, true), .mv (.t 18)⟩, ⟨some (23, true), .mv (.t 22)⟩, ⟨some (23, true), .bin .eql (.t 24) (.t 25)⟩, ⟨none, .pick (.t 23) (.t 26) (.d (.bool false))⟩, ⟨some (27, true), .ld true 7 (.t 2)⟩, ⟨some (27, true), .call true 15 [.t 28]⟩, ⟨some (27, true), .call true 17 [.t 29]⟩, ⟨some (27, true), .ld true 7 (.t 2)⟩, ⟨some (27, true), .call true 20 [.t 31]⟩, ⟨some (27, true), .binb .eql (.t 30) (.t 32)⟩, ⟨none, .pick (.t 27) (.t 33) (.d (.bool false))⟩, ⟨some (34, true), .ld true 7 (.t 2)⟩, ⟨some (34, true), .call true 15 [.t 35]⟩, ⟨some (34, true), .call true 21 [.t 36]⟩, ⟨some (34, true), .ld true 7 (.t 2)⟩, ⟨some (34, true), .call true 22 [.t 38]⟩, ⟨some (34, true), .bin .eql (.t 37) (.t 39)⟩, ⟨none, .pick (.t 34) (.t 40) (.d (.bool false))⟩, ⟨some (41, true), .ld true 7 (.t 2)⟩, ⟨some (41, true), .call true 15 [.t 42]⟩, ⟨some (41, true), .ld true 7 (.t 3)⟩, ⟨some (41, true), .call true 15 [.t 44]⟩, ⟨some (41, true), .call true 23 [.t 43, .t 45]⟩, ⟨some (41, true), .ld true 7 (.t 2)⟩, ⟨some (41, true), .ld true 7 (.t 3)⟩, ⟨some (41, true), .call false 24 [.t 47, .t 48]⟩, ⟨some (41, true), .binb .eql (.t 46) (.t 49)⟩, ⟨none, .pick (.t 41) (.t 50) (.d (.bool false))⟩]) <|
  .ret [.t 51]⟩
theorem ok5 : Code2 Tryz.prog prims 5 2 b5 := Code2.mk' rfl Tryz.func5 (by kernel_rfl) (by kernel_rfl)

/- 12: verger/vergerref07.Small, 1 -/
def b12 : BFun := ⟨[.t 0],
  .seq (.ins [⟨none, .box 7 (.t 0)⟩]) <|
  .seq (.ins [⟨none, .ld true 7 (.t 1)⟩, ⟨none, .call false 38 [.t 2, .d (.int .i64 0), .d (.int .i64 60)]⟩, ⟨none, .bin .geq (.t 3) (.d (.int .i64 0))⟩]) <|
  .ret [.t 4]⟩
theorem ok12 : Code2 Tryz.prog prims 12 1 b12 := Code2.mk' rfl Tryz.func12 (by kernel_rfl) (by kernel_rfl)

/- 15: verger/vergerlaw07.Theirs, 1 -/
def b15B0 : BC :=
  .seq (.seq (.ins [⟨none, .bin .lss (.t 4) (.t 3)⟩]) <|
  .seq (.cond (.t 5) (.skip) (.exit 0 [.t 1, .t 2])) <|
  .seq (.block 1 (.seq (.seq (.ins []) <|
  .ins [⟨none, .fad (.t 2) 6⟩, ⟨none, .ld false 1 (.t 6)⟩, ⟨none, .fad (.t 0) 6⟩, ⟨none, .ld false 1 (.t 8)⟩, ⟨none, .iad 7 (.t 9) (.t 4)⟩, ⟨none, .ld true 7 (.t 10)⟩, ⟨none, .call true 15 [.t 11]⟩, ⟨none, .mks none 7 1 [.int .i64 0, .str [], .str [], .str [], .str [], .nils 0, .nils 0] [(0, (.t 12))]⟩, ⟨none, .app 33 7 (.t 7) (.t 13)⟩, ⟨none, .fad (.t 2) 6⟩, ⟨none, .st 1 (.t 15) (.t 14)⟩]) <|
  .foc [.t 0, .t 1, .t 2, .t 3, .t 4])) <|
  .ins [⟨none, .bin .add (.t 4) (.d (.int .i64 1))⟩]) <|
  .foc [.t 0, .t 1, .t 2, .t 3, .t 5]
def b15L0 : BC := b15B0
theorem b15L0_eq : b15L0 = b15B0 := rfl

def b15 : BFun := ⟨[.cell 0 true 7],
  .seq (.ins [⟨none, .box 7 (.t 0)⟩, ⟨none, .alloc [.int .i64 0, .str [], .str [], .str [], .str [], .nils 0, .nils 0]⟩]) <|
  .seq (.ins [⟨none, .fad (.t 1) 0⟩, ⟨none, .ld false 1 (.t 3)⟩, ⟨none, .fad (.t 1) 1⟩, ⟨none, .ld false 1 (.t 5)⟩, ⟨none, .fad (.t 1) 2⟩, ⟨none, .ld false 1 (.t 7)⟩, ⟨none, .fad (.t 1) 3⟩, ⟨none, .ld false 1 (.t 9)⟩, ⟨none, .fad (.t 1) 4⟩, ⟨none, .ld false 1 (.t 11)⟩, ⟨none, .mks (some 9) 1 0 [.str []] []⟩, ⟨none, .fad (.t 1) 5⟩, ⟨none, .ld false 1 (.t 14)⟩, ⟨none, .app 9 1 (.t 13) (.t 15)⟩, ⟨none, .build [.int .i64 0, .str [], .str [], .str [], .str [], .nils 0, .nils 0] [(0, 1, (.t 4)), (1, 1, (.t 6)), (2, 1, (.t 8)), (3, 1, (.t 10)), (4, 1, (.t 12)), (5, 1, (.t 16))]⟩, ⟨none, .alloc [.int .i64 0, .str [], .str [], .str [], .str [], .nils 0, .nils 0]⟩, ⟨none, .st 7 (.t 18) (.t 17)⟩]) <|
  .seq (.seq (.ins [⟨none, .fad (.t 1) 6⟩, ⟨none, .ld false 1 (.t 20)⟩, ⟨none, .len (.t 21)⟩]) <|
  .block 0 (.seq (.foc [.t 1, .t 2, .t 18, .t 22, .d (.int .i64 0)]) <|
  .loop b15L0)) <|
  .seq (.ins [⟨none, .ld true 7 (.t 1)⟩, ⟨none, .st 7 (.t 0) (.t 2)⟩]) <|
  .ret [.t 0]⟩
theorem ok15 : Code2 Tryz.prog prims 15 1 b15 := Code2.mk' rfl Tryz.func15 (by kernel_rfl) (by kernel_rfl)

/- 17: verger/filter.Formed, 1 -/
def b17 : BFun := ⟨[.t 0],
  .seq (.ins [⟨none, .box 7 (.t 0)⟩]) <|
  .seq (.ins [⟨none, .ld true 7 (.t 1)⟩, ⟨none, .call false 21 [.t 2]⟩, ⟨none, .bin .leq (.t 3) (.d (.int .i64 40))⟩, ⟨some (4, true), .ld true 7 (.t 1)⟩, ⟨some (4, true), .call false 42 [.t 5, .d (.int .i64 1)]⟩, ⟨none, .pick (.t 4) (.t 6) (.d (.bool false))⟩]) <|
  .ret [.t 7]⟩
theorem ok17 : Code2 Tryz.prog prims 17 1 b17 := Code2.mk' rfl Tryz.func17 (by kernel_rfl) (by kernel_rfl)

/- 18: verger/filter.Print, 1 -/
def b18 : BFun := ⟨[.t 0, .t 1],
  .seq (.ins [⟨none, .box 7 (.t 0)⟩]) <|
  .seq (.seq (.ins [⟨none, .ld true 7 (.t 1)⟩, ⟨none, .call false 17 [.t 2]⟩, ⟨none, .not (.t 3)⟩]) <|
  .cond (.t 4) (.seq (.ins []) <|
  .ret [.d (.str []), .d (.int .i64 1)]) (.skip)) <|
  .seq (.ins [⟨none, .allocB⟩]) <|
  .seq (.ins [⟨none, .ld true 7 (.t 1)⟩, ⟨none, .call false 43 [.t 5, .t 6]⟩]) <|
  .seq (.ins [⟨none, .call false 44 [.t 5]⟩]) <|
  .ret [.t 8, .d (.int .i64 0)]⟩
theorem ok18 : Code2 Tryz.prog prims 18 1 b18 := Code2.mk' rfl Tryz.func18 (by kernel_rfl) (by kernel_rfl)

/- 19: verger/vergerref07.Print, 1 -/
def b19 : BFun := ⟨[.t 0, .t 1],
  .seq (.ins [⟨none, .box 7 (.t 0)⟩]) <|
  .seq (.seq (.ins [⟨none, .ld true 7 (.t 1)⟩, ⟨none, .call false 20 [.t 2]⟩, ⟨none, .not (.t 3)⟩]) <|
  .cond (.t 4) (.seq (.ins []) <|
  .ret [.d (.str []), .d (.int .i64 1)]) (.skip)) <|
  .seq (.ins [⟨none, .ld true 7 (.t 1)⟩, ⟨none, .call false 45 [.t 5]⟩]) <|
  .ret [.t 6, .d (.int .i64 0)]⟩
theorem ok19 : Code2 Tryz.prog prims 19 1 b19 := Code2.mk' rfl Tryz.func19 (by kernel_rfl) (by kernel_rfl)

/- 20: verger/vergerref07.Formed, 1 -/
def b20 : BFun := ⟨[.t 0],
  .seq (.ins [⟨none, .box 7 (.t 0)⟩]) <|
  .seq (.ins [⟨none, .ld true 7 (.t 1)⟩, ⟨none, .call false 22 [.t 2]⟩, ⟨none, .bin .leq (.t 3) (.d (.int .i64 40))⟩, ⟨some (4, true), .ld true 7 (.t 1)⟩, ⟨some (4, true), .call false 46 [.t 5, .d (.int .i64 20)]⟩, ⟨some (4, true), .bin .leq (.t 6) (.d (.int .i64 20))⟩, ⟨none, .pick (.t 4) (.t 7) (.d (.bool false))⟩, ⟨some (8, true), .ld true 7 (.t 1)⟩, ⟨some (8, true), .call false 47 [.t 9]⟩, ⟨none, .pick (.t 8) (.t 10) (.d (.bool false))⟩]) <|
  .ret [.t 11]⟩
theorem ok20 : Code2 Tryz.prog prims 20 1 b20 := Code2.mk' rfl Tryz.func20 (by kernel_rfl) (by kernel_rfl)

/- 21: verger/filter.Nodes, 1 -/
def b21B0 : BC :=
  .seq (.seq (.ins [⟨none, .bin .lss (.t 3) (.t 2)⟩]) <|
  .seq (.cond (.t 4) (.skip) (.exit 0 [.t 0])) <|
  .seq (.block 1 (.seq (.seq (.ins [⟨none, .iad 7 (.t 1) (.t 3)⟩, ⟨none, .ld true 7 (.t 5)⟩, ⟨none, .alloc [.int .i64 0, .str [], .str [], .str [], .str [], .nils 0, .nils 0]⟩, ⟨none, .st 7 (.t 7) (.t 6)⟩]) <|
  .seq (.ins [⟨none, .ld true 7 (.t 7)⟩, ⟨none, .call false 21 [.t 9]⟩, ⟨none, .bin .add (.t 0) (.t 10)⟩]) <|
  .seq (.ins [⟨none, .bin .gtr (.t 11) (.d (.int .i64 40))⟩]) <|
  .cond (.t 12) (.seq (.ins []) <|
  .ret [.d (.int .i64 41)]) (.skip)) <|
  .foc [.t 11, .t 1, .t 2, .t 3])) <|
  .ins [⟨none, .bin .add (.t 3) (.d (.int .i64 1))⟩]) <|
  .foc [.t 0, .t 1, .t 2, .t 4]
def b21L0 : BC := b21B0
theorem b21L0_eq : b21L0 = b21B0 := rfl

def b21 : BFun := ⟨[.t 0],
  .seq (.ins [⟨none, .box 7 (.t 0)⟩]) <|
  .seq (.ins []) <|
  .seq (.seq (.ins [⟨none, .fad (.t 1) 6⟩, ⟨none, .ld false 1 (.t 2)⟩, ⟨none, .len (.t 3)⟩]) <|
  .block 0 (.seq (.foc [.d (.int .i64 1), .t 3, .t 4, .d (.int .i64 0)]) <|
  .loop b21L0)) <|
  .seq (.ins []) <|
  .ret [.t 0]⟩
theorem ok21 : Code2 Tryz.prog prims 21 1 b21 := Code2.mk' rfl Tryz.func21 (by kernel_rfl) (by kernel_rfl)

/- 22: verger/vergerref07.Nodes, 1 -/
def b22B0 : BC :=
  .seq (.seq (.ins [⟨none, .bin .lss (.t 3) (.t 2)⟩]) <|
  .seq (.cond (.t 4) (.skip) (.exit 0 [.t 1])) <|
  .seq (.block 1 (.seq (.seq (.ins []) <|
  .seq (.seq (.ins [⟨none, .bin .gtr (.t 1) (.d (.int .i64 40))⟩]) <|
  .cond (.t 5) (.exit 0 [.t 1]) (.skip)) <|
  .ins [⟨none, .fad (.t 0) 6⟩, ⟨none, .ld false 1 (.t 6)⟩, ⟨none, .iad 7 (.t 7) (.t 3)⟩, ⟨none, .ld true 7 (.t 8)⟩, ⟨none, .call false 22 [.t 9]⟩, ⟨none, .bin .add (.t 1) (.t 10)⟩]) <|
  .foc [.t 0, .t 11, .t 2, .t 3])) <|
  .ins [⟨none, .bin .add (.t 3) (.d (.int .i64 1))⟩]) <|
  .foc [.t 0, .t 1, .t 2, .t 4]
def b22L0 : BC := b22B0
theorem b22L0_eq : b22L0 = b22B0 := rfl

def b22 : BFun := ⟨[.t 0],
  .seq (.ins [⟨none, .box 7 (.t 0)⟩]) <|
  .seq (.ins []) <|
  .seq (.seq (.ins [⟨none, .fad (.t 1) 6⟩, ⟨none, .ld false 1 (.t 2)⟩, ⟨none, .len (.t 3)⟩]) <|
  .block 0 (.seq (.foc [.t 1, .d (.int .i64 1), .t 4, .d (.int .i64 0)]) <|
  .loop b22L0)) <|
  .seq (.ins [⟨none, .mn (.t 0) (.d (.int .i64 41))⟩]) <|
  .ret [.t 1]⟩
theorem ok22 : Code2 Tryz.prog prims 22 1 b22 := Code2.mk' rfl Tryz.func22 (by kernel_rfl) (by kernel_rfl)

/- 23: verger/filter.Same, 2 -/
def b23 : BFun := ⟨[.t 0],
  .seq (.ins [⟨none, .box 7 (.t 0)⟩, ⟨none, .box 7 (.t 1)⟩]) <|
  .seq (.ins [⟨none, .fad (.t 2) 0⟩, ⟨none, .ld false 1 (.t 4)⟩, ⟨none, .fad (.t 3) 0⟩, ⟨none, .ld false 1 (.t 6)⟩, ⟨none, .bin .eql (.t 5) (.t 7)⟩, ⟨some (8, true), .fad (.t 2) 1⟩, ⟨some (8, true), .ld false 1 (.t 9)⟩, ⟨some (8, true), .fad (.t 3) 1⟩, ⟨some (8, true), .ld false 1 (.t 11)⟩, ⟨some (8, true), .bin .eql (.t 10) (.t 12)⟩, ⟨none, .pick (.t 8) (.t 13) (.d (.bool false))⟩, ⟨some (14, true), .fad (.t 2) 2⟩, ⟨some (14, true), .ld false 1 (.t 15)⟩, ⟨some (14, true), .fad (.t 3) 2⟩, ⟨some (14, true), .ld false 1 (.t 17)⟩, ⟨some (14, true), .bin .eql (.t 16) (.t 18)⟩, ⟨none, .pick (.t 14) (.t 19) (.d (.bool false))⟩, ⟨some (20, true), .fad (.t 2) 3⟩, ⟨some (20, true), .ld false 1 (.t 21)⟩, ⟨some (20, true), .fad (.t 3) 3⟩, ⟨some (20, true), .ld false 1 (.t 23)⟩, ⟨some (20, true), .bin .eql (.t 22) (.t 24)⟩, ⟨none, .pick (.t 20) (.t 25) (.d (.bool false))⟩, ⟨some (26, true), .fad (.t 2) 4⟩, ⟨some (26, true), .ld false 1 (.t 27)⟩, ⟨some (26, true), .fad (.t 3) 4⟩, ⟨some (26, true), .ld false 1 (.t 29)⟩, ⟨some (26, true), .bin .eql (.t 28) (.t 30)⟩, ⟨none, .pick (.t 26) (.t 31) (.d (.bool false))⟩, ⟨some (32, true), .fad (.t 2) 5⟩, ⟨some (32, true), .ld false 1 (.t 33)⟩, ⟨some (32, true), .fad (.t 3) 5⟩, ⟨some (32, true), .ld false 1 (.t 35)⟩, ⟨some (32, true), .call false 48 [.t 34, .t 36]⟩, ⟨none, .pick (.t 32) (.t 37) (.d (.bool false))⟩, ⟨some (38, true), .fad (.t 2) 6⟩, ⟨some (38, true), .ld false 1 (.t 39)⟩, ⟨some (38, true), .fad (.t 3) 6⟩, ⟨some (38, true), .ld false 1 (.t 41)⟩, ⟨some (38, true), .call false 49 [.t 40, .t 42, .fn 23]⟩, ⟨none, .pick (.t 38) (.t 43) (.d (.bool false))⟩]) <|
  .ret [.t 44]⟩
theorem ok23 : Code2 Tryz.prog prims 23 2 b23 := Code2.mk' rfl Tryz.func23 (by kernel_rfl) (by kernel_rfl)

/- 24: verger/vergerref07.Same, 2 -/
def b24B0 : BC :=
  .seq (.seq (.ins [⟨none, .bin .lss (.t 3) (.t 2)⟩]) <|
  .seq (.cond (.t 4) (.skip) (.exit 0 [])) <|
  .seq (.block 1 (.seq (.seq (.ins []) <|
  .seq (.ins [⟨none, .fad (.t 0) 6⟩, ⟨none, .ld false 1 (.t 5)⟩, ⟨none, .iad 7 (.t 6) (.t 3)⟩, ⟨none, .ld true 7 (.t 7)⟩, ⟨none, .fad (.t 1) 6⟩, ⟨none, .ld false 1 (.t 9)⟩, ⟨none, .iad 7 (.t 10) (.t 3)⟩, ⟨none, .ld true 7 (.t 11)⟩, ⟨none, .call false 24 [.t 8, .t 12]⟩, ⟨none, .not (.t 13)⟩]) <|
  .cond (.t 14) (.seq (.ins []) <|
  .ret [.d (.bool false)]) (.skip)) <|
  .foc [.t 0, .t 1, .t 2, .t 3])) <|
  .ins [⟨none, .bin .add (.t 3) (.d (.int .i64 1))⟩]) <|
  .foc [.t 0, .t 1, .t 2, .t 4]
def b24L0 : BC := b24B0
theorem b24L0_eq : b24L0 = b24B0 := rfl

def b24 : BFun := ⟨[.t 0],
  .seq (.ins [⟨none, .box 7 (.t 0)⟩, ⟨none, .box 7 (.t 1)⟩]) <|
  .seq (.seq (.ins [⟨none, .fad (.t 2) 0⟩, ⟨none, .ld false 1 (.t 4)⟩, ⟨none, .fad (.t 3) 0⟩, ⟨none, .ld false 1 (.t 6)⟩, ⟨none, .bin .neq (.t 5) (.t 7)⟩, ⟨some (8, false), .fad (.t 2) 1⟩, ⟨some (8, false), .ld false 1 (.t 9)⟩, ⟨some (8, false), .fad (.t 3) 1⟩, ⟨some (8, false), .ld false 1 (.t 11)⟩, ⟨some (8, false), .bin .neq (.t 10) (.t 12)⟩, ⟨none, .pick (.t 8) (.d (.bool true)) (.t 13)⟩, ⟨some (14, false), .fad (.t 2) 2⟩, ⟨some (14, false), .ld false 1 (.t 15)⟩, ⟨some (14, false), .fad (.t 3) 2⟩, ⟨some (14, false), .ld false 1 (.t 17)⟩, ⟨some (14, false), .bin .neq (.t 16) (.t 18)⟩, ⟨none, .pick (.t 14) (.d (.bool true)) (.t 19)⟩, ⟨some (20, false), .fad (.t 2) 3⟩, ⟨some (20, false), .ld false 1 (.t 21)⟩, ⟨some (20, false), .fad (.t 3) 3⟩, ⟨some (20, false), .ld false 1 (.t 23)⟩, ⟨some (20, false), .bin .neq (.t 22) (.t 24)⟩, ⟨none, .pick (.t 20) (.d (.bool true)) (.t 25)⟩, ⟨some (26, false), .fad (.t 2) 4⟩, ⟨some (26, false), .ld false 1 (.t 27)⟩, ⟨some (26, false), .fad (.t 3) 4⟩, ⟨some (26, false), .ld false 1 (.t 29)⟩, ⟨some (26, false), .bin .neq (.t 28) (.t 30)⟩, ⟨none, .pick (.t 26) (.d (.bool true)) (.t 31)⟩, ⟨some (32, false), .fad (.t 2) 5⟩, ⟨some (32, false), .ld false 1 (.t 33)⟩, ⟨some (32, false), .fad (.t 3) 5⟩, ⟨some (32, false), .ld false 1 (.t 35)⟩, ⟨some (32, false), .call false 50 [.t 34, .t 36]⟩, ⟨some (32, false), .not (.t 37)⟩, ⟨none, .pick (.t 32) (.d (.bool true)) (.t 38)⟩, ⟨some (39, false), .fad (.t 2) 6⟩, ⟨some (39, false), .ld false 1 (.t 40)⟩, ⟨some (39, false), .len (.t 41)⟩, ⟨some (39, false), .fad (.t 3) 6⟩, ⟨some (39, false), .ld false 1 (.t 43)⟩, ⟨some (39, false), .len (.t 44)⟩, ⟨some (39, false), .bin .neq (.t 42) (.t 45)⟩, ⟨none, .pick (.t 39) (.d (.bool true)) (.t 46)⟩]) <|
  .cond (.t 47) (.seq (.ins []) <|
  .ret [.d (.bool false)]) (.skip)) <|
  .seq (.seq (.ins [⟨none, .fad (.t 2) 6⟩, ⟨none, .ld false 1 (.t 48)⟩, ⟨none, .len (.t 49)⟩]) <|
  .block 0 (.seq (.foc [.t 2, .t 3, .t 50, .d (.int .i64 0)]) <|
  .loop b24L0)) <|
  .seq (.ins []) <|
  .ret [.d (.bool true)]⟩
theorem ok24 : Code2 Tryz.prog prims 24 2 b24 := Code2.mk' rfl Tryz.func24 (by kernel_rfl) (by kernel_rfl)

/- 38: verger/vergerref07.small, 3 -/
def b38B0 : BC :=
  .seq (.seq (.ins [⟨none, .bin .lss (.t 4) (.t 3)⟩]) <|
  .seq (.cond (.t 5) (.skip) (.exit 0 [.t 0, .t 1, .t 2])) <|
  .seq (.block 1 (.seq (.seq (.ins []) <|
  .seq (.ins [⟨none, .fad (.t 2) 5⟩, ⟨none, .ld false 1 (.t 6)⟩, ⟨none, .iad 1 (.t 7) (.t 4)⟩, ⟨none, .ld false 1 (.t 8)⟩, ⟨none, .lenS (.t 9)⟩, ⟨none, .bin .gtr (.t 10) (.d (.int .i64 2000))⟩]) <|
  .cond (.t 11) (.seq (.ins []) <|
  .ret [.d (.int .i64 (-1))]) (.skip)) <|
  .foc [.t 0, .t 1, .t 2, .t 3, .t 4])) <|
  .ins [⟨none, .bin .add (.t 4) (.d (.int .i64 1))⟩]) <|
  .foc [.t 0, .t 1, .t 2, .t 3, .t 5]
def b38L0 : BC := b38B0
theorem b38L0_eq : b38L0 = b38B0 := rfl

def b38B1 : BC :=
  .seq (.seq (.ins [⟨none, .bin .lss (.t 4) (.t 3)⟩]) <|
  .seq (.cond (.t 5) (.skip) (.exit 2 [.t 1])) <|
  .seq (.block 3 (.seq (.seq (.ins []) <|
  .seq (.seq (.ins [⟨none, .bin .lss (.t 1) (.d (.int .i64 0))⟩]) <|
  .cond (.t 6) (.seq (.ins []) <|
  .ret [.d (.int .i64 (-1))]) (.skip)) <|
  .ins [⟨none, .fad (.t 2) 6⟩, ⟨none, .ld false 1 (.t 7)⟩, ⟨none, .iad 7 (.t 8) (.t 4)⟩, ⟨none, .ld true 7 (.t 9)⟩, ⟨none, .bin .add (.t 0) (.d (.int .i64 1))⟩, ⟨none, .call false 38 [.t 10, .t 11, .t 1]⟩]) <|
  .foc [.t 0, .t 12, .t 2, .t 3, .t 4])) <|
  .ins [⟨none, .bin .add (.t 4) (.d (.int .i64 1))⟩]) <|
  .foc [.t 0, .t 1, .t 2, .t 3, .t 5]
def b38L1 : BC := b38B1
theorem b38L1_eq : b38L1 = b38B1 := rfl

def b38 : BFun := ⟨[.t 0],
  .seq (.ins [⟨none, .box 7 (.t 0)⟩]) <|
  .seq (.seq (.ins [⟨none, .bin .gtr (.t 1) (.d (.int .i64 40))⟩, ⟨some (4, false), .fad (.t 3) 5⟩, ⟨some (4, false), .ld false 1 (.t 5)⟩, ⟨some (4, false), .len (.t 6)⟩, ⟨some (4, false), .bin .gtr (.t 7) (.d (.int .i64 100))⟩, ⟨none, .pick (.t 4) (.d (.bool true)) (.t 8)⟩, ⟨some (9, false), .fad (.t 3) 2⟩, ⟨some (9, false), .ld false 1 (.t 10)⟩, ⟨some (9, false), .lenS (.t 11)⟩, ⟨some (9, false), .bin .gtr (.t 12) (.d (.int .i64 2000))⟩, ⟨none, .pick (.t 9) (.d (.bool true)) (.t 13)⟩, ⟨some (14, false), .fad (.t 3) 1⟩, ⟨some (14, false), .ld false 1 (.t 15)⟩, ⟨some (14, false), .lenS (.t 16)⟩, ⟨some (14, false), .bin .gtr (.t 17) (.d (.int .i64 2000))⟩, ⟨none, .pick (.t 14) (.d (.bool true)) (.t 18)⟩, ⟨some (19, false), .fad (.t 3) 3⟩, ⟨some (19, false), .ld false 1 (.t 20)⟩, ⟨some (19, false), .lenS (.t 21)⟩, ⟨some (19, false), .bin .gtr (.t 22) (.d (.int .i64 2000))⟩, ⟨none, .pick (.t 19) (.d (.bool true)) (.t 23)⟩, ⟨some (24, false), .fad (.t 3) 4⟩, ⟨some (24, false), .ld false 1 (.t 25)⟩, ⟨some (24, false), .lenS (.t 26)⟩, ⟨some (24, false), .bin .gtr (.t 27) (.d (.int .i64 2000))⟩, ⟨none, .pick (.t 24) (.d (.bool true)) (.t 28)⟩]) <|
  .cond (.t 29) (.seq (.ins []) <|
  .ret [.d (.int .i64 (-1))]) (.skip)) <|
  .seq (.seq (.ins [⟨none, .fad (.t 3) 5⟩, ⟨none, .ld false 1 (.t 30)⟩, ⟨none, .len (.t 31)⟩]) <|
  .block 0 (.seq (.foc [.t 1, .t 2, .t 3, .t 32, .d (.int .i64 0)]) <|
  .loop b38L0)) <|
  .seq (.ins [⟨none, .bin .sub (.t 1) (.d (.int .i64 1))⟩]) <|
  .seq (.seq (.ins [⟨none, .fad (.t 2) 6⟩, ⟨none, .ld false 1 (.t 4)⟩, ⟨none, .len (.t 5)⟩]) <|
  .block 2 (.seq (.foc [.t 0, .t 3, .t 2, .t 6, .d (.int .i64 0)]) <|
  .loop b38L1)) <|
  .seq (.ins []) <|
  .ret [.t 0]⟩
theorem ok38 : Code2 Tryz.prog prims 38 3 b38 := Code2.mk' rfl Tryz.func38 (by kernel_rfl) (by kernel_rfl)

/- 42: verger/filter.formed, 2 -/
def b42B0 : BC :=
  .seq (.seq (.ins [⟨none, .bin .lss (.t 3) (.t 2)⟩]) <|
  .seq (.cond (.t 4) (.skip) (.exit 0 [])) <|
  .seq (.block 1 (.seq (.seq (.ins [⟨none, .iad 7 (.t 1) (.t 3)⟩, ⟨none, .ld true 7 (.t 5)⟩, ⟨none, .alloc [.int .i64 0, .str [], .str [], .str [], .str [], .nils 0, .nils 0]⟩, ⟨none, .st 7 (.t 7) (.t 6)⟩]) <|
  .seq (.ins [⟨none, .ld true 7 (.t 7)⟩, ⟨none, .bin .add (.t 0) (.d (.int .i64 1))⟩, ⟨none, .call false 42 [.t 9, .t 10]⟩, ⟨none, .not (.t 11)⟩]) <|
  .cond (.t 12) (.seq (.ins []) <|
  .ret [.d (.bool false)]) (.skip)) <|
  .foc [.t 0, .t 1, .t 2, .t 3])) <|
  .ins [⟨none, .bin .add (.t 3) (.d (.int .i64 1))⟩]) <|
  .foc [.t 0, .t 1, .t 2, .t 4]
def b42L0 : BC := b42B0
theorem b42L0_eq : b42L0 = b42B0 := rfl

def b42 : BFun := ⟨[.t 0],
  .seq (.ins [⟨none, .box 7 (.t 0)⟩]) <|
  .seq (.seq (.ins [⟨none, .bin .gtr (.t 1) (.d (.int .i64 20))⟩, ⟨some (3, false), .ld true 7 (.t 2)⟩, ⟨some (3, false), .call false 84 [.t 4]⟩, ⟨some (3, false), .not (.t 5)⟩, ⟨none, .pick (.t 3) (.d (.bool true)) (.t 6)⟩]) <|
  .cond (.t 7) (.seq (.ins []) <|
  .ret [.d (.bool false)]) (.skip)) <|
  .seq (.seq (.ins [⟨none, .fad (.t 2) 6⟩, ⟨none, .ld false 1 (.t 8)⟩, ⟨none, .len (.t 9)⟩]) <|
  .block 0 (.seq (.foc [.t 1, .t 9, .t 10, .d (.int .i64 0)]) <|
  .loop b42L0)) <|
  .seq (.ins []) <|
  .ret [.d (.bool true)]⟩
theorem ok42 : Code2 Tryz.prog prims 42 2 b42 := Code2.mk' rfl Tryz.func42 (by kernel_rfl) (by kernel_rfl)

/- 43: verger/filter.write, 2 -/
def b43B0 : BC :=
  .seq (.seq (.ins [⟨none, .bin .lss (.t 3) (.t 2)⟩]) <|
  .seq (.cond (.t 4) (.skip) (.exit 1 [.t 0])) <|
  .seq (.block 2 (.seq (.seq (.ins [⟨none, .iad 7 (.t 1) (.t 3)⟩, ⟨none, .ld true 7 (.t 5)⟩, ⟨none, .alloc [.int .i64 0, .str [], .str [], .str [], .str [], .nils 0, .nils 0]⟩, ⟨none, .st 7 (.t 7) (.t 6)⟩]) <|
  .ins [⟨none, .ld true 7 (.t 7)⟩, ⟨none, .call false 43 [.t 0, .t 9]⟩]) <|
  .foc [.t 0, .t 1, .t 2, .t 3])) <|
  .ins [⟨none, .bin .add (.t 3) (.d (.int .i64 1))⟩]) <|
  .foc [.t 0, .t 1, .t 2, .t 4]
def b43L0 : BC := b43B0
theorem b43L0_eq : b43L0 = b43B0 := rfl

def b43B1 : BC :=
  .seq (.seq (.ins [⟨none, .bin .lss (.t 4) (.t 3)⟩]) <|
  .seq (.cond (.t 5) (.skip) (.exit 3 [.t 0, .t 1])) <|
  .seq (.block 4 (.seq (.seq (.ins [⟨none, .iad 1 (.t 2) (.t 4)⟩, ⟨none, .ld false 1 (.t 6)⟩]) <|
  .ins [⟨none, .call false 87 [.t 7]⟩, ⟨none, .bin .add (.d (.str [42])) (.t 8)⟩, ⟨none, .call false 86 [.t 0, .t 9]⟩]) <|
  .foc [.t 0, .t 1, .t 2, .t 3, .t 4])) <|
  .ins [⟨none, .bin .add (.t 4) (.d (.int .i64 1))⟩]) <|
  .foc [.t 0, .t 1, .t 2, .t 3, .t 5]
def b43L1 : BC := b43B1
theorem b43L1_eq : b43L1 = b43B1 := rfl

def b43 : BFun := ⟨[],
  .seq (.seq (.ins [⟨none, .box 7 (.t 1)⟩]) <|
  .seq (.ins [⟨none, .call false 85 [.t 0, .d (.int .u8 40)]⟩]) <|
  .seq (.seq (.ins [⟨none, .fad (.t 2) 0⟩, ⟨none, .ld false 1 (.t 4)⟩]) <|
  .block 0 (.seq (.seq (.seq (.ins [⟨none, .bin .eql (.t 5) (.d (.int .i64 0))⟩]) <|
  .cond (.t 6) (.seq (.skip) <|
  .foc [.t 0, .t 2, .t 5, .t 6]) (.seq (.seq (.ins [⟨none, .bin .eql (.t 5) (.d (.int .i64 1))⟩]) <|
  .cond (.t 7) (.seq (.skip) <|
  .foc [.t 0, .t 2, .t 5, .t 7]) (.seq (.ins [⟨none, .bin .eql (.t 5) (.d (.int .i64 2))⟩]) <|
  .foc [.t 0, .t 2, .t 5, .t 8])) <|
  .foc [.t 0, .t 1, .t 2, .t 3])) <|
  .cond (.t 3) (.seq (.seq (.ins [⟨none, .fad (.t 1) 0⟩, ⟨none, .ld false 1 (.t 4)⟩, ⟨none, .ixs (.d (.str [38, 124, 33])) (.t 5)⟩, ⟨none, .call false 85 [.t 0, .t 6]⟩]) <|
  .seq (.ins [⟨none, .fad (.t 1) 6⟩, ⟨none, .ld false 1 (.t 8)⟩, ⟨none, .len (.t 9)⟩]) <|
  .block 1 (.seq (.foc [.t 0, .t 9, .t 10, .d (.int .i64 0)]) <|
  .loop b43L0)) <|
  .foc [.t 0]) (.seq (.seq (.ins [⟨none, .bin .eql (.t 2) (.d (.int .i64 7))⟩]) <|
  .cond (.t 4) (.seq (.ins [⟨none, .fad (.t 1) 1⟩, ⟨none, .ld false 1 (.t 5)⟩, ⟨none, .bin .add (.t 6) (.d (.str [61, 42]))⟩, ⟨none, .call false 86 [.t 0, .t 7]⟩]) <|
  .foc [.t 0]) (.seq (.seq (.ins [⟨none, .bin .eql (.t 2) (.d (.int .i64 4))⟩]) <|
  .cond (.t 5) (.seq (.seq (.ins [⟨none, .fad (.t 1) 1⟩, ⟨none, .ld false 1 (.t 6)⟩, ⟨none, .bin .add (.t 7) (.d (.str [61]))⟩, ⟨none, .fad (.t 1) 3⟩, ⟨none, .ld false 1 (.t 9)⟩, ⟨none, .call true 87 [.t 10]⟩, ⟨none, .bin .add (.t 8) (.t 11)⟩, ⟨none, .call false 86 [.t 0, .t 12]⟩]) <|
  .seq (.seq (.ins [⟨none, .fad (.t 1) 5⟩, ⟨none, .ld false 1 (.t 14)⟩, ⟨none, .len (.t 15)⟩]) <|
  .block 3 (.seq (.foc [.t 0, .t 1, .t 15, .t 16, .d (.int .i64 0)]) <|
  .loop b43L1)) <|
  .ins [⟨none, .fad (.t 1) 4⟩, ⟨none, .ld false 1 (.t 2)⟩, ⟨none, .call false 87 [.t 3]⟩, ⟨none, .bin .add (.d (.str [42])) (.t 4)⟩, ⟨none, .call false 86 [.t 0, .t 5]⟩]) <|
  .foc [.t 0]) (.seq (.ins [⟨none, .fad (.t 1) 1⟩, ⟨none, .ld false 1 (.t 6)⟩, ⟨none, .fad (.t 1) 0⟩, ⟨none, .ld false 1 (.t 8)⟩, ⟨none, .call true 88 [.t 9]⟩, ⟨none, .bin .add (.t 7) (.t 10)⟩, ⟨none, .fad (.t 1) 2⟩, ⟨none, .ld false 1 (.t 12)⟩, ⟨none, .call true 87 [.t 13]⟩, ⟨none, .bin .add (.t 11) (.t 14)⟩, ⟨none, .call false 86 [.t 0, .t 15]⟩]) <|
  .foc [.t 0])) <|
  .foc [.t 0])) <|
  .foc [.t 0])) <|
  .foc [.t 0])) <|
  .ins [⟨none, .call false 85 [.t 0, .d (.int .u8 41)]⟩]) <|
  .ret []⟩
theorem ok43 : Code2 Tryz.prog prims 43 2 b43 := Code2.mk' rfl Tryz.func43 (by kernel_rfl) (by kernel_rfl)

/- 45: verger/vergerref07.text, 1 -/
def b45B0 : BC :=
  .seq (.seq (.ins [⟨none, .bin .lss (.t 3) (.t 2)⟩]) <|
  .seq (.cond (.t 4) (.skip) (.exit 1 [.t 1])) <|
  .seq (.block 2 (.seq (.seq (.ins []) <|
  .ins [⟨none, .fad (.t 0) 6⟩, ⟨none, .ld false 1 (.t 5)⟩, ⟨none, .iad 7 (.t 6) (.t 3)⟩, ⟨none, .ld true 7 (.t 7)⟩, ⟨none, .call false 45 [.t 8]⟩, ⟨none, .bin .add (.t 1) (.t 9)⟩]) <|
  .foc [.t 0, .t 10, .t 2, .t 3])) <|
  .ins [⟨none, .bin .add (.t 3) (.d (.int .i64 1))⟩]) <|
  .foc [.t 0, .t 1, .t 2, .t 4]
def b45L0 : BC := b45B0
theorem b45L0_eq : b45L0 = b45B0 := rfl

def b45B1 : BC :=
  .seq (.seq (.ins [⟨none, .bin .lss (.t 3) (.t 2)⟩]) <|
  .seq (.cond (.t 4) (.skip) (.exit 3 [.t 0, .t 1])) <|
  .seq (.block 4 (.seq (.seq (.ins []) <|
  .ins [⟨none, .fad (.t 0) 5⟩, ⟨none, .ld false 1 (.t 5)⟩, ⟨none, .iad 1 (.t 6) (.t 3)⟩, ⟨none, .ld false 1 (.t 7)⟩, ⟨none, .call false 89 [.t 8]⟩, ⟨none, .bin .add (.t 1) (.t 9)⟩, ⟨none, .bin .add (.t 10) (.d (.str [42]))⟩]) <|
  .foc [.t 0, .t 11, .t 2, .t 3])) <|
  .ins [⟨none, .bin .add (.t 3) (.d (.int .i64 1))⟩]) <|
  .foc [.t 0, .t 1, .t 2, .t 4]
def b45L1 : BC := b45B1
theorem b45L1_eq : b45L1 = b45B1 := rfl

def b45 : BFun := ⟨[.t 0],
  .seq (.ins [⟨none, .box 7 (.t 0)⟩]) <|
  .seq (.ins []) <|
  .seq (.seq (.ins [⟨none, .fad (.t 1) 0⟩, ⟨none, .ld false 1 (.t 2)⟩]) <|
  .block 0 (.seq (.seq (.seq (.ins [⟨none, .bin .eql (.t 3) (.d (.int .i64 0))⟩]) <|
  .cond (.t 4) (.seq (.skip) <|
  .foc [.t 1, .t 3, .t 4]) (.seq (.seq (.ins [⟨none, .bin .eql (.t 3) (.d (.int .i64 1))⟩]) <|
  .cond (.t 5) (.seq (.skip) <|
  .foc [.t 1, .t 3, .t 5]) (.seq (.ins [⟨none, .bin .eql (.t 3) (.d (.int .i64 2))⟩]) <|
  .foc [.t 1, .t 3, .t 6])) <|
  .foc [.t 0, .t 1, .t 2])) <|
  .cond (.t 2) (.seq (.seq (.ins [⟨none, .fad (.t 0) 0⟩, ⟨none, .ld false 1 (.t 3)⟩, ⟨none, .fad (.t 0) 0⟩, ⟨none, .ld false 1 (.t 5)⟩, ⟨none, .bin .add (.t 6) (.d (.int .i64 1))⟩, ⟨none, .sls (.d (.str [38, 124, 33])) (some (.t 4)) (some (.t 7))⟩]) <|
  .seq (.ins [⟨none, .fad (.t 0) 6⟩, ⟨none, .ld false 1 (.t 9)⟩, ⟨none, .len (.t 10)⟩]) <|
  .block 1 (.seq (.foc [.t 0, .t 8, .t 11, .d (.int .i64 0)]) <|
  .loop b45L0)) <|
  .foc [.t 0]) (.seq (.seq (.ins [⟨none, .bin .eql (.t 1) (.d (.int .i64 7))⟩]) <|
  .cond (.t 3) (.seq (.ins [⟨none, .fad (.t 0) 1⟩, ⟨none, .ld false 1 (.t 4)⟩, ⟨none, .bin .add (.t 5) (.d (.str [61, 42]))⟩]) <|
  .foc [.t 6]) (.seq (.seq (.ins [⟨none, .bin .eql (.t 1) (.d (.int .i64 4))⟩]) <|
  .cond (.t 4) (.seq (.seq (.ins [⟨none, .fad (.t 0) 1⟩, ⟨none, .ld false 1 (.t 5)⟩, ⟨none, .bin .add (.t 6) (.d (.str [61]))⟩, ⟨none, .fad (.t 0) 3⟩, ⟨none, .ld false 1 (.t 8)⟩, ⟨none, .call true 89 [.t 9]⟩, ⟨none, .bin .add (.t 7) (.t 10)⟩, ⟨none, .bin .add (.t 11) (.d (.str [42]))⟩]) <|
  .seq (.seq (.ins [⟨none, .fad (.t 0) 5⟩, ⟨none, .ld false 1 (.t 13)⟩, ⟨none, .len (.t 14)⟩]) <|
  .block 3 (.seq (.foc [.t 0, .t 12, .t 15, .d (.int .i64 0)]) <|
  .loop b45L1)) <|
  .ins [⟨none, .fad (.t 0) 4⟩, ⟨none, .ld false 1 (.t 2)⟩, ⟨none, .call false 89 [.t 3]⟩, ⟨none, .bin .add (.t 1) (.t 4)⟩]) <|
  .foc [.t 5]) (.seq (.ins [⟨none, .fad (.t 0) 1⟩, ⟨none, .ld false 1 (.t 5)⟩, ⟨none, .fad (.t 0) 0⟩, ⟨none, .ld false 1 (.t 7)⟩, ⟨none, .call true 90 [.t 8]⟩, ⟨none, .bin .add (.t 6) (.t 9)⟩, ⟨none, .fad (.t 0) 2⟩, ⟨none, .ld false 1 (.t 11)⟩, ⟨none, .call true 89 [.t 12]⟩, ⟨none, .bin .add (.t 10) (.t 13)⟩]) <|
  .foc [.t 14])) <|
  .foc [.t 0])) <|
  .foc [.t 0])) <|
  .foc [.t 0])) <|
  .seq (.ins [⟨none, .bin .add (.d (.str [40])) (.t 0)⟩, ⟨none, .bin .add (.t 1) (.d (.str [41]))⟩]) <|
  .ret [.t 2]⟩
theorem ok45 : Code2 Tryz.prog prims 45 1 b45 := Code2.mk' rfl Tryz.func45 (by kernel_rfl) (by kernel_rfl)

/- 46: verger/vergerref07.deep, 2 -/
def b46B0 : BC :=
  .seq (.seq (.ins [⟨none, .bin .lss (.t 4) (.t 3)⟩]) <|
  .seq (.cond (.t 5) (.skip) (.exit 0 [.t 2])) <|
  .seq (.block 1 (.seq (.seq (.ins []) <|
  .ins [⟨none, .fad (.t 1) 6⟩, ⟨none, .ld false 1 (.t 6)⟩, ⟨none, .iad 7 (.t 7) (.t 4)⟩, ⟨none, .ld true 7 (.t 8)⟩, ⟨none, .bin .sub (.t 0) (.d (.int .i64 1))⟩, ⟨none, .call false 46 [.t 9, .t 10]⟩, ⟨none, .mx (.t 2) (.t 11)⟩]) <|
  .foc [.t 0, .t 1, .t 12, .t 3, .t 4])) <|
  .ins [⟨none, .bin .add (.t 4) (.d (.int .i64 1))⟩]) <|
  .foc [.t 0, .t 1, .t 2, .t 3, .t 5]
def b46L0 : BC := b46B0
theorem b46L0_eq : b46L0 = b46B0 := rfl

def b46 : BFun := ⟨[.t 0],
  .seq (.ins [⟨none, .box 7 (.t 0)⟩]) <|
  .seq (.seq (.ins [⟨none, .bin .eql (.t 1) (.d (.int .i64 0))⟩]) <|
  .cond (.t 3) (.seq (.ins []) <|
  .ret [.d (.int .i64 1)]) (.skip)) <|
  .seq (.ins []) <|
  .seq (.seq (.ins [⟨none, .fad (.t 2) 6⟩, ⟨none, .ld false 1 (.t 4)⟩, ⟨none, .len (.t 5)⟩]) <|
  .block 0 (.seq (.foc [.t 1, .t 2, .d (.int .i64 0), .t 6, .d (.int .i64 0)]) <|
  .loop b46L0)) <|
  .seq (.ins [⟨none, .bin .add (.t 0) (.d (.int .i64 1))⟩]) <|
  .ret [.t 1]⟩
theorem ok46 : Code2 Tryz.prog prims 46 2 b46 := Code2.mk' rfl Tryz.func46 (by kernel_rfl) (by kernel_rfl)

/- 47: verger/vergerref07.all, 1 -/
def b47B0 : BC :=
  .seq (.seq (.ins [⟨none, .bin .lss (.t 2) (.t 1)⟩]) <|
  .seq (.cond (.t 3) (.skip) (.exit 0 [])) <|
  .seq (.block 1 (.seq (.seq (.ins []) <|
  .seq (.ins [⟨none, .fad (.t 0) 6⟩, ⟨none, .ld false 1 (.t 4)⟩, ⟨none, .iad 7 (.t 5) (.t 2)⟩, ⟨none, .ld true 7 (.t 6)⟩, ⟨none, .call false 47 [.t 7]⟩, ⟨none, .not (.t 8)⟩]) <|
  .cond (.t 9) (.seq (.ins []) <|
  .ret [.d (.bool false)]) (.skip)) <|
  .foc [.t 0, .t 1, .t 2])) <|
  .ins [⟨none, .bin .add (.t 2) (.d (.int .i64 1))⟩]) <|
  .foc [.t 0, .t 1, .t 3]
def b47L0 : BC := b47B0
theorem b47L0_eq : b47L0 = b47B0 := rfl

def b47 : BFun := ⟨[.t 0],
  .seq (.ins [⟨none, .box 7 (.t 0)⟩]) <|
  .seq (.seq (.ins [⟨none, .ld true 7 (.t 1)⟩, ⟨none, .call false 91 [.t 2]⟩, ⟨none, .not (.t 3)⟩]) <|
  .cond (.t 4) (.seq (.ins []) <|
  .ret [.d (.bool false)]) (.skip)) <|
  .seq (.seq (.ins [⟨none, .fad (.t 1) 6⟩, ⟨none, .ld false 1 (.t 5)⟩, ⟨none, .len (.t 6)⟩]) <|
  .block 0 (.seq (.foc [.t 1, .t 7, .d (.int .i64 0)]) <|
  .loop b47L0)) <|
  .seq (.ins []) <|
  .ret [.d (.bool true)]⟩
theorem ok47 : Code2 Tryz.prog prims 47 1 b47 := Code2.mk' rfl Tryz.func47 (by kernel_rfl) (by kernel_rfl)

/- 48: slices.Equal[[]string,string], 2 -/
def b48B0 : BC :=
  .seq (.seq (.ins [⟨none, .bin .lss (.t 3) (.t 2)⟩]) <|
  .seq (.cond (.t 4) (.skip) (.exit 0 [])) <|
  .seq (.block 1 (.seq (.seq (.ins []) <|
  .seq (.ins [⟨none, .iad 1 (.t 0) (.t 3)⟩, ⟨none, .ld false 1 (.t 5)⟩, ⟨none, .iad 1 (.t 1) (.t 3)⟩, ⟨none, .ld false 1 (.t 7)⟩, ⟨none, .bin .neq (.t 6) (.t 8)⟩]) <|
  .cond (.t 9) (.seq (.ins []) <|
  .ret [.d (.bool false)]) (.skip)) <|
  .foc [.t 0, .t 1, .t 2, .t 3])) <|
  .ins [⟨none, .bin .add (.t 3) (.d (.int .i64 1))⟩]) <|
  .foc [.t 0, .t 1, .t 2, .t 4]
def b48L0 : BC := b48B0
theorem b48L0_eq : b48L0 = b48B0 := rfl

def b48 : BFun := ⟨[.t 0],
  .seq (.ins []) <|
  .seq (.seq (.ins [⟨none, .len (.t 0)⟩, ⟨none, .len (.t 1)⟩, ⟨none, .bin .neq (.t 2) (.t 3)⟩]) <|
  .cond (.t 4) (.seq (.ins []) <|
  .ret [.d (.bool false)]) (.skip)) <|
  .seq (.seq (.ins [⟨none, .len (.t 0)⟩]) <|
  .block 0 (.seq (.foc [.t 0, .t 1, .t 5, .d (.int .i64 0)]) <|
  .loop b48L0)) <|
  .seq (.ins []) <|
  .ret [.d (.bool true)]⟩
theorem ok48 : Code2 Tryz.prog prims 48 2 b48 := Code2.mk' rfl Tryz.func48 (by kernel_rfl) (by kernel_rfl)

/- 49: slices.EqualFunc[[]verger/filter.Filter,[]verger/filter.Filter,verger/filter.Filter,verger/filter.Filter], 3 -/
def b49B0 : BC :=
  .seq (.seq (.ins [⟨none, .bin .lss (.t 4) (.t 3)⟩]) <|
  .seq (.cond (.t 5) (.skip) (.exit 0 [])) <|
  .seq (.block 1 (.seq (.seq (.ins [⟨none, .iad 7 (.t 2) (.t 4)⟩, ⟨none, .ld true 7 (.t 6)⟩, ⟨none, .alloc [.int .i64 0, .str [], .str [], .str [], .str [], .nils 0, .nils 0]⟩, ⟨none, .st 7 (.t 8) (.t 7)⟩]) <|
  .seq (.ins [⟨none, .iad 7 (.t 0) (.t 4)⟩, ⟨none, .ld true 7 (.t 10)⟩, ⟨none, .alloc [.int .i64 0, .str [], .str [], .str [], .str [], .nils 0, .nils 0]⟩, ⟨none, .st 7 (.t 12) (.t 11)⟩]) <|
  .seq (.ins [⟨none, .ld true 7 (.t 8)⟩, ⟨none, .ld true 7 (.t 12)⟩, ⟨none, .callv false (.t 1) [.t 14, .t 15]⟩, ⟨none, .not (.t 16)⟩]) <|
  .cond (.t 17) (.seq (.ins []) <|
  .ret [.d (.bool false)]) (.skip)) <|
  .foc [.t 0, .t 1, .t 2, .t 3, .t 4])) <|
  .ins [⟨none, .bin .add (.t 4) (.d (.int .i64 1))⟩]) <|
  .foc [.t 0, .t 1, .t 2, .t 3, .t 5]
def b49L0 : BC := b49B0
theorem b49L0_eq : b49L0 = b49B0 := rfl

def b49 : BFun := ⟨[.t 0],
  .seq (.ins []) <|
  .seq (.seq (.ins [⟨none, .len (.t 0)⟩, ⟨none, .len (.t 1)⟩, ⟨none, .bin .neq (.t 3) (.t 4)⟩]) <|
  .cond (.t 5) (.seq (.ins []) <|
  .ret [.d (.bool false)]) (.skip)) <|
  .seq (.seq (.ins [⟨none, .len (.t 0)⟩]) <|
  .block 0 (.seq (.foc [.t 1, .t 2, .t 0, .t 6, .d (.int .i64 0)]) <|
  .loop b49L0)) <|
  .seq (.ins []) <|
  .ret [.d (.bool true)]⟩
theorem ok49 : Code2 Tryz.prog prims 49 3 b49 := Code2.mk' rfl Tryz.func49 (by kernel_rfl) (by kernel_rfl)

/- 50: verger/vergerref07.SameTexts, 2 -/
def b50B0 : BC :=
  .seq (.seq (.ins [⟨none, .bin .lss (.t 3) (.t 2)⟩]) <|
  .seq (.cond (.t 4) (.skip) (.exit 0 [])) <|
  .seq (.block 1 (.seq (.seq (.ins []) <|
  .seq (.ins [⟨none, .iad 1 (.t 0) (.t 3)⟩, ⟨none, .ld false 1 (.t 5)⟩, ⟨none, .iad 1 (.t 1) (.t 3)⟩, ⟨none, .ld false 1 (.t 7)⟩, ⟨none, .bin .neq (.t 6) (.t 8)⟩]) <|
  .cond (.t 9) (.seq (.ins []) <|
  .ret [.d (.bool false)]) (.skip)) <|
  .foc [.t 0, .t 1, .t 2, .t 3])) <|
  .ins [⟨none, .bin .add (.t 3) (.d (.int .i64 1))⟩]) <|
  .foc [.t 0, .t 1, .t 2, .t 4]
def b50L0 : BC := b50B0
theorem b50L0_eq : b50L0 = b50B0 := rfl

def b50 : BFun := ⟨[.t 0],
  .seq (.ins []) <|
  .seq (.seq (.ins [⟨none, .len (.t 0)⟩, ⟨none, .len (.t 1)⟩, ⟨none, .bin .neq (.t 2) (.t 3)⟩]) <|
  .cond (.t 4) (.seq (.ins []) <|
  .ret [.d (.bool false)]) (.skip)) <|
  .seq (.seq (.ins [⟨none, .len (.t 0)⟩]) <|
  .block 0 (.seq (.foc [.t 0, .t 1, .t 5, .d (.int .i64 0)]) <|
  .loop b50L0)) <|
  .seq (.ins []) <|
  .ret [.d (.bool true)]⟩
theorem ok50 : Code2 Tryz.prog prims 50 2 b50 := Code2.mk' rfl Tryz.func50 (by kernel_rfl) (by kernel_rfl)

/- 84: verger/filter.own, 1 -/
def b84 : BFun := ⟨[.t 0],
  .seq (.ins [⟨none, .box 7 (.t 0)⟩]) <|
  .seq (.ins [⟨none, .fad (.t 1) 3⟩, ⟨none, .ld false 1 (.t 2)⟩, ⟨none, .bin .neq (.t 3) (.d (.str []))⟩, ⟨some (4, false), .fad (.t 1) 4⟩, ⟨some (4, false), .ld false 1 (.t 5)⟩, ⟨some (4, false), .bin .neq (.t 6) (.d (.str []))⟩, ⟨none, .pick (.t 4) (.d (.bool true)) (.t 7)⟩, ⟨some (8, false), .fad (.t 1) 5⟩, ⟨some (8, false), .ld false 1 (.t 9)⟩, ⟨some (8, false), .len (.t 10)⟩, ⟨some (8, false), .bin .gtr (.t 11) (.d (.int .i64 0))⟩, ⟨none, .pick (.t 8) (.d (.bool true)) (.t 12)⟩]) <|
  .seq (.ins [⟨none, .fad (.t 1) 6⟩, ⟨none, .ld false 1 (.t 14)⟩, ⟨none, .len (.t 15)⟩, ⟨none, .bin .eql (.t 16) (.d (.int .i64 0))⟩, ⟨some (17, true), .fad (.t 1) 1⟩, ⟨some (17, true), .ld false 1 (.t 18)⟩, ⟨some (17, true), .call false 131 [.t 19]⟩, ⟨none, .pick (.t 17) (.t 20) (.d (.bool false))⟩]) <|
  .seq (.seq (.ins [⟨none, .fad (.t 1) 0⟩, ⟨none, .ld false 1 (.t 22)⟩]) <|
  .block 0 (.seq (.seq (.seq (.ins [⟨none, .bin .eql (.t 23) (.d (.int .i64 0))⟩]) <|
  .cond (.t 24) (.seq (.skip) <|
  .foc [.t 1, .t 13, .t 21, .t 23, .t 24]) (.seq (.seq (.ins [⟨none, .bin .eql (.t 23) (.d (.int .i64 1))⟩]) <|
  .cond (.t 25) (.seq (.skip) <|
  .foc [.t 1, .t 13, .t 21, .t 23, .t 25]) (.seq (.ins [⟨none, .bin .eql (.t 23) (.d (.int .i64 2))⟩]) <|
  .foc [.t 1, .t 13, .t 21, .t 23, .t 26])) <|
  .foc [.t 0, .t 1, .t 2, .t 3, .t 4])) <|
  .cond (.t 4) (.seq (.ins [⟨none, .fad (.t 0) 1⟩, ⟨none, .ld false 1 (.t 5)⟩, ⟨none, .bin .eql (.t 6) (.d (.str []))⟩, ⟨some (7, true), .fad (.t 0) 2⟩, ⟨some (7, true), .ld false 1 (.t 8)⟩, ⟨some (7, true), .bin .eql (.t 9) (.d (.str []))⟩, ⟨none, .pick (.t 7) (.t 10) (.d (.bool false))⟩, ⟨some (11, true), .mv (.t 1)⟩, ⟨some (11, true), .not (.t 12)⟩, ⟨none, .pick (.t 11) (.t 13) (.d (.bool false))⟩, ⟨some (14, true), .fad (.t 0) 0⟩, ⟨some (14, true), .ld false 1 (.t 15)⟩, ⟨some (14, true), .bin .neq (.t 16) (.d (.int .i64 2))⟩, ⟨some (14, true), .mv (.t 17)⟩, ⟨some (18, false), .fad (.t 0) 6⟩, ⟨some (18, false), .ld false 1 (.t 19)⟩, ⟨some (18, false), .len (.t 20)⟩, ⟨some (18, false), .bin .eql (.t 21) (.d (.int .i64 1))⟩, ⟨some (14, true), .pick (.t 18) (.d (.bool true)) (.t 22)⟩, ⟨none, .pick (.t 14) (.t 23) (.d (.bool false))⟩]) <|
  .ret [.t 24]) (.seq (.seq (.ins [⟨none, .bin .eql (.t 3) (.d (.int .i64 3))⟩]) <|
  .cond (.t 5) (.seq (.skip) <|
  .foc [.t 0, .t 1, .t 2, .t 3, .t 5]) (.seq (.seq (.ins [⟨none, .bin .eql (.t 3) (.d (.int .i64 5))⟩]) <|
  .cond (.t 6) (.seq (.skip) <|
  .foc [.t 0, .t 1, .t 2, .t 3, .t 6]) (.seq (.seq (.ins [⟨none, .bin .eql (.t 3) (.d (.int .i64 6))⟩]) <|
  .cond (.t 7) (.seq (.skip) <|
  .foc [.t 0, .t 1, .t 2, .t 3, .t 7]) (.seq (.ins [⟨none, .bin .eql (.t 3) (.d (.int .i64 8))⟩]) <|
  .foc [.t 0, .t 1, .t 2, .t 3, .t 8])) <|
  .foc [.t 0, .t 1, .t 2, .t 3, .t 4])) <|
  .foc [.t 0, .t 1, .t 2, .t 3, .t 4])) <|
  .cond (.t 4) (.seq (.ins [⟨some (2, true), .fad (.t 0) 2⟩, ⟨some (2, true), .ld false 1 (.t 5)⟩, ⟨some (2, true), .call false 132 [.t 6]⟩, ⟨none, .pick (.t 2) (.t 7) (.d (.bool false))⟩, ⟨some (8, true), .mv (.t 1)⟩, ⟨some (8, true), .not (.t 9)⟩, ⟨none, .pick (.t 8) (.t 10) (.d (.bool false))⟩]) <|
  .ret [.t 11]) (.seq (.ins [⟨none, .bin .eql (.t 3) (.d (.int .i64 7))⟩]) <|
  .cond (.t 5) (.seq (.ins [⟨some (2, true), .fad (.t 0) 2⟩, ⟨some (2, true), .ld false 1 (.t 6)⟩, ⟨some (2, true), .bin .eql (.t 7) (.d (.str []))⟩, ⟨none, .pick (.t 2) (.t 8) (.d (.bool false))⟩, ⟨some (9, true), .mv (.t 1)⟩, ⟨some (9, true), .not (.t 10)⟩, ⟨none, .pick (.t 9) (.t 11) (.d (.bool false))⟩]) <|
  .ret [.t 12]) (.seq (.ins [⟨none, .bin .eql (.t 3) (.d (.int .i64 4))⟩]) <|
  .cond (.t 6) (.seq (.ins [⟨some (2, true), .fad (.t 0) 2⟩, ⟨some (2, true), .ld false 1 (.t 7)⟩, ⟨some (2, true), .bin .eql (.t 8) (.d (.str []))⟩, ⟨none, .pick (.t 2) (.t 9) (.d (.bool false))⟩, ⟨some (10, true), .mv (.t 1)⟩, ⟨none, .pick (.t 10) (.t 11) (.d (.bool false))⟩, ⟨some (12, true), .fad (.t 0) 3⟩, ⟨some (12, true), .ld false 1 (.t 13)⟩, ⟨some (12, true), .lenS (.t 14)⟩, ⟨some (12, true), .bin .leq (.t 15) (.d (.int .i64 200))⟩, ⟨none, .pick (.t 12) (.t 16) (.d (.bool false))⟩, ⟨some (17, true), .fad (.t 0) 4⟩, ⟨some (17, true), .ld false 1 (.t 18)⟩, ⟨some (17, true), .lenS (.t 19)⟩, ⟨some (17, true), .bin .leq (.t 20) (.d (.int .i64 200))⟩, ⟨none, .pick (.t 17) (.t 21) (.d (.bool false))⟩, ⟨some (22, true), .fad (.t 0) 5⟩, ⟨some (22, true), .ld false 1 (.t 23)⟩, ⟨some (22, true), .call false 133 [.t 24, .fn 134]⟩, ⟨some (22, true), .not (.t 25)⟩, ⟨none, .pick (.t 22) (.t 26) (.d (.bool false))⟩]) <|
  .ret [.t 27]) (.skip))))) <|
  .foc [])) <|
  .seq (.ins []) <|
  .ret [.d (.bool false)]⟩
theorem ok84 : Code2 Tryz.prog prims 84 1 b84 := Code2.mk' rfl Tryz.func84 (by kernel_rfl) (by kernel_rfl)

/- 87: verger/filter.escape, 1 -/
def b87B0 : BC :=
  .seq (.seq (.ins [⟨none, .bin .lss (.t 3) (.t 2)⟩]) <|
  .seq (.cond (.t 4) (.skip) (.exit 0 [.t 0])) <|
  .seq (.block 1 (.seq (.seq (.ins [⟨none, .iad 1 (.t 1) (.t 3)⟩, ⟨none, .ld false 1 (.t 5)⟩]) <|
  .seq (.ins [⟨none, .bin .lss (.t 6) (.d (.int .u8 32))⟩, ⟨some (7, false), .mv (.t 6)⟩, ⟨some (7, false), .bin .gtr (.t 8) (.d (.int .u8 126))⟩, ⟨none, .pick (.t 7) (.d (.bool true)) (.t 9)⟩, ⟨some (10, false), .mv (.t 6)⟩, ⟨some (10, false), .call false 93 [.d (.str [42, 40, 41, 92]), .t 11]⟩, ⟨some (10, false), .bin .geq (.t 12) (.d (.int .i64 0))⟩, ⟨none, .pick (.t 10) (.d (.bool true)) (.t 13)⟩]) <|
  .cond (.t 14) (.seq (.ins [⟨none, .bin .shr (.t 6) (.d (.int .u64 4))⟩, ⟨none, .ixs (.d (.str [48, 49, 50, 51, 52, 53, 54, 55, 56, 57, 97, 98, 99, 100, 101, 102])) (.t 15)⟩, ⟨none, .bin .and (.t 6) (.d (.int .u8 15))⟩, ⟨none, .ixs (.d (.str [48, 49, 50, 51, 52, 53, 54, 55, 56, 57, 97, 98, 99, 100, 101, 102])) (.t 17)⟩, ⟨none, .mks none 1 3 [.int .u8 0] [(0, (.d (.int .u8 92))), (1, (.t 16)), (2, (.t 18))]⟩, ⟨none, .call false 136 [.t 0, .t 19]⟩]) <|
  .foc [.t 0, .t 1, .t 2, .t 3]) (.seq (.ins [⟨none, .call false 85 [.t 0, .t 6]⟩]) <|
  .foc [.t 0, .t 1, .t 2, .t 3])) <|
  .foc [.t 0, .t 1, .t 2, .t 3])) <|
  .ins [⟨none, .bin .add (.t 3) (.d (.int .i64 1))⟩]) <|
  .foc [.t 0, .t 1, .t 2, .t 4]
def b87L0 : BC := b87B0
theorem b87L0_eq : b87L0 = b87B0 := rfl

def b87 : BFun := ⟨[.t 0],
  .seq (.ins []) <|
  .seq (.ins [⟨none, .allocB⟩]) <|
  .seq (.seq (.ins [⟨none, .conv .sb (.t 0)⟩, ⟨none, .len (.t 2)⟩]) <|
  .block 0 (.seq (.foc [.t 1, .t 2, .t 3, .d (.int .i64 0)]) <|
  .loop b87L0)) <|
  .seq (.ins [⟨none, .call false 44 [.t 0]⟩]) <|
  .ret [.t 1]⟩
theorem ok87 : Code2 Tryz.prog prims 87 1 b87 := Code2.mk' rfl Tryz.func87 (by kernel_rfl) (by kernel_rfl)

/- 88: verger/filter.sign, 1 -/
def b88 : BFun := ⟨[.t 0],
  .seq (.ins []) <|
  .seq (.seq (.ins []) <|
  .block 0 (.seq (.seq (.ins [⟨none, .bin .eql (.t 0) (.d (.int .i64 5))⟩]) <|
  .cond (.t 1) (.seq (.ins []) <|
  .ret [.d (.str [62, 61])]) (.seq (.ins [⟨none, .bin .eql (.t 0) (.d (.int .i64 6))⟩]) <|
  .cond (.t 2) (.seq (.ins []) <|
  .ret [.d (.str [60, 61])]) (.seq (.ins [⟨none, .bin .eql (.t 0) (.d (.int .i64 8))⟩]) <|
  .cond (.t 3) (.seq (.ins []) <|
  .ret [.d (.str [126, 61])]) (.skip)))) <|
  .foc [])) <|
  .seq (.ins []) <|
  .ret [.d (.str [61])]⟩
theorem ok88 : Code2 Tryz.prog prims 88 1 b88 := Code2.mk' rfl Tryz.func88 (by kernel_rfl) (by kernel_rfl)

/- 89: verger/vergerref07.escaped, 1 -/
def b89B0 : BC :=
  .seq (.seq (.seq (.ins [⟨none, .lenS (.t 0)⟩, ⟨none, .bin .lss (.t 2) (.t 3)⟩]) <|
  .cond (.t 4) (.skip) (.exit 0 [.t 1])) <|
  .seq (.block 1 (.seq (.seq (.ins [⟨none, .ixs (.t 0) (.t 2)⟩]) <|
  .seq (.ins [⟨none, .bin .lss (.t 5) (.d (.int .u8 32))⟩, ⟨some (6, false), .mv (.t 5)⟩, ⟨some (6, false), .bin .gtr (.t 7) (.d (.int .u8 126))⟩, ⟨none, .pick (.t 6) (.d (.bool true)) (.t 8)⟩, ⟨some (9, false), .mv (.t 5)⟩, ⟨some (9, false), .bin .eql (.t 10) (.d (.int .u8 42))⟩, ⟨none, .pick (.t 9) (.d (.bool true)) (.t 11)⟩, ⟨some (12, false), .mv (.t 5)⟩, ⟨some (12, false), .bin .eql (.t 13) (.d (.int .u8 40))⟩, ⟨none, .pick (.t 12) (.d (.bool true)) (.t 14)⟩, ⟨some (15, false), .mv (.t 5)⟩, ⟨some (15, false), .bin .eql (.t 16) (.d (.int .u8 41))⟩, ⟨none, .pick (.t 15) (.d (.bool true)) (.t 17)⟩, ⟨some (18, false), .mv (.t 5)⟩, ⟨some (18, false), .bin .eql (.t 19) (.d (.int .u8 92))⟩, ⟨none, .pick (.t 18) (.d (.bool true)) (.t 20)⟩]) <|
  .cond (.t 21) (.seq (.ins [⟨none, .bin .shr (.t 5) (.d (.int .u64 4))⟩, ⟨none, .ixs (.d (.str [48, 49, 50, 51, 52, 53, 54, 55, 56, 57, 97, 98, 99, 100, 101, 102])) (.t 22)⟩, ⟨none, .bin .and (.t 5) (.d (.int .u8 15))⟩, ⟨none, .ixs (.d (.str [48, 49, 50, 51, 52, 53, 54, 55, 56, 57, 97, 98, 99, 100, 101, 102])) (.t 24)⟩, ⟨none, .mks none 1 3 [.int .u8 0] [(0, (.d (.int .u8 92))), (1, (.t 23)), (2, (.t 25))]⟩, ⟨none, .app 5 1 (.t 1) (.t 26)⟩]) <|
  .foc [.t 0, .t 27, .t 2]) (.seq (.ins [⟨none, .mks none 1 1 [.int .u8 0] [(0, (.t 5))]⟩, ⟨none, .app 5 1 (.t 1) (.t 22)⟩]) <|
  .foc [.t 0, .t 23, .t 2])) <|
  .foc [.t 0, .t 1, .t 2])) <|
  .ins [⟨none, .bin .add (.t 2) (.d (.int .i64 1))⟩]) <|
  .foc [.t 0, .t 1, .t 3]
def b89L0 : BC := b89B0
theorem b89L0_eq : b89L0 = b89B0 := rfl

def b89 : BFun := ⟨[.t 0],
  .seq (.ins []) <|
  .seq (.ins []) <|
  .seq (.seq (.ins []) <|
  .block 0 (.seq (.foc [.t 0, .d (.nils 0), .d (.int .i64 0)]) <|
  .loop b89L0)) <|
  .seq (.ins [⟨none, .conv .bs (.t 0)⟩]) <|
  .ret [.t 1]⟩
theorem ok89 : Code2 Tryz.prog prims 89 1 b89 := Code2.mk' rfl Tryz.func89 (by kernel_rfl) (by kernel_rfl)

/- 90: verger/vergerref07.sign, 1 -/
def b90 : BFun := ⟨[.t 0],
  .seq (.ins []) <|
  .seq (.seq (.ins []) <|
  .block 0 (.seq (.seq (.ins [⟨none, .bin .eql (.t 0) (.d (.int .i64 5))⟩]) <|
  .cond (.t 1) (.seq (.ins []) <|
  .ret [.d (.str [62, 61])]) (.seq (.ins [⟨none, .bin .eql (.t 0) (.d (.int .i64 6))⟩]) <|
  .cond (.t 2) (.seq (.ins []) <|
  .ret [.d (.str [60, 61])]) (.seq (.ins [⟨none, .bin .eql (.t 0) (.d (.int .i64 8))⟩]) <|
  .cond (.t 3) (.seq (.ins []) <|
  .ret [.d (.str [126, 61])]) (.skip)))) <|
  .foc [])) <|
  .seq (.ins []) <|
  .ret [.d (.str [61])]⟩
theorem ok90 : Code2 Tryz.prog prims 90 1 b90 := Code2.mk' rfl Tryz.func90 (by kernel_rfl) (by kernel_rfl)

/- 91: verger/vergerref07.bare, 1 -/
def b91B0 : BC :=
  .seq (.seq (.ins [⟨none, .bin .lss (.t 3) (.t 2)⟩]) <|
  .seq (.cond (.t 4) (.skip) (.exit 1 [.t 0, .t 1])) <|
  .seq (.block 2 (.seq (.seq (.ins []) <|
  .seq (.ins [⟨none, .fad (.t 0) 5⟩, ⟨none, .ld false 1 (.t 5)⟩, ⟨none, .iad 1 (.t 6) (.t 3)⟩, ⟨none, .ld false 1 (.t 7)⟩, ⟨none, .call false 138 [.t 8]⟩, ⟨none, .not (.t 9)⟩]) <|
  .cond (.t 10) (.seq (.ins []) <|
  .ret [.d (.bool false)]) (.skip)) <|
  .foc [.t 0, .t 1, .t 2, .t 3])) <|
  .ins [⟨none, .bin .add (.t 3) (.d (.int .i64 1))⟩]) <|
  .foc [.t 0, .t 1, .t 2, .t 4]
def b91L0 : BC := b91B0
theorem b91L0_eq : b91L0 = b91B0 := rfl

def b91 : BFun := ⟨[.t 0],
  .seq (.ins [⟨none, .box 7 (.t 0)⟩]) <|
  .seq (.ins [⟨none, .fad (.t 1) 3⟩, ⟨none, .ld false 1 (.t 2)⟩, ⟨none, .bin .neq (.t 3) (.d (.str []))⟩, ⟨some (4, false), .fad (.t 1) 4⟩, ⟨some (4, false), .ld false 1 (.t 5)⟩, ⟨some (4, false), .bin .neq (.t 6) (.d (.str []))⟩, ⟨none, .pick (.t 4) (.d (.bool true)) (.t 7)⟩, ⟨some (8, false), .fad (.t 1) 5⟩, ⟨some (8, false), .ld false 1 (.t 9)⟩, ⟨some (8, false), .len (.t 10)⟩, ⟨some (8, false), .bin .gtr (.t 11) (.d (.int .i64 0))⟩, ⟨none, .pick (.t 8) (.d (.bool true)) (.t 12)⟩]) <|
  .seq (.seq (.ins [⟨none, .fad (.t 1) 0⟩, ⟨none, .ld false 1 (.t 14)⟩]) <|
  .block 0 (.seq (.seq (.seq (.ins [⟨none, .bin .eql (.t 15) (.d (.int .i64 0))⟩]) <|
  .cond (.t 16) (.seq (.skip) <|
  .foc [.t 1, .t 13, .t 15, .t 16]) (.seq (.ins [⟨none, .bin .eql (.t 15) (.d (.int .i64 1))⟩]) <|
  .foc [.t 1, .t 13, .t 15, .t 17])) <|
  .cond (.t 3) (.seq (.ins [⟨none, .fad (.t 0) 1⟩, ⟨none, .ld false 1 (.t 4)⟩, ⟨none, .bin .eql (.t 5) (.d (.str []))⟩, ⟨some (6, true), .fad (.t 0) 2⟩, ⟨some (6, true), .ld false 1 (.t 7)⟩, ⟨some (6, true), .bin .eql (.t 8) (.d (.str []))⟩, ⟨none, .pick (.t 6) (.t 9) (.d (.bool false))⟩, ⟨some (10, true), .mv (.t 1)⟩, ⟨some (10, true), .not (.t 11)⟩, ⟨none, .pick (.t 10) (.t 12) (.d (.bool false))⟩]) <|
  .ret [.t 13]) (.seq (.ins [⟨none, .bin .eql (.t 2) (.d (.int .i64 2))⟩]) <|
  .cond (.t 4) (.seq (.ins [⟨none, .fad (.t 0) 1⟩, ⟨none, .ld false 1 (.t 5)⟩, ⟨none, .bin .eql (.t 6) (.d (.str []))⟩, ⟨some (7, true), .fad (.t 0) 2⟩, ⟨some (7, true), .ld false 1 (.t 8)⟩, ⟨some (7, true), .bin .eql (.t 9) (.d (.str []))⟩, ⟨none, .pick (.t 7) (.t 10) (.d (.bool false))⟩, ⟨some (11, true), .mv (.t 1)⟩, ⟨some (11, true), .not (.t 12)⟩, ⟨none, .pick (.t 11) (.t 13) (.d (.bool false))⟩, ⟨some (14, true), .fad (.t 0) 6⟩, ⟨some (14, true), .ld false 1 (.t 15)⟩, ⟨some (14, true), .len (.t 16)⟩, ⟨some (14, true), .bin .eql (.t 17) (.d (.int .i64 1))⟩, ⟨none, .pick (.t 14) (.t 18) (.d (.bool false))⟩]) <|
  .ret [.t 19]) (.seq (.seq (.ins [⟨none, .bin .eql (.t 2) (.d (.int .i64 3))⟩]) <|
  .cond (.t 5) (.seq (.skip) <|
  .foc [.t 0, .t 1, .t 2, .t 5]) (.seq (.seq (.ins [⟨none, .bin .eql (.t 2) (.d (.int .i64 5))⟩]) <|
  .cond (.t 6) (.seq (.skip) <|
  .foc [.t 0, .t 1, .t 2, .t 6]) (.seq (.seq (.ins [⟨none, .bin .eql (.t 2) (.d (.int .i64 6))⟩]) <|
  .cond (.t 7) (.seq (.skip) <|
  .foc [.t 0, .t 1, .t 2, .t 7]) (.seq (.ins [⟨none, .bin .eql (.t 2) (.d (.int .i64 8))⟩]) <|
  .foc [.t 0, .t 1, .t 2, .t 8])) <|
  .foc [.t 0, .t 1, .t 2, .t 3])) <|
  .foc [.t 0, .t 1, .t 2, .t 3])) <|
  .cond (.t 3) (.seq (.ins [⟨none, .fad (.t 0) 1⟩, ⟨none, .ld false 1 (.t 4)⟩, ⟨none, .call false 137 [.t 5]⟩, ⟨some (6, true), .fad (.t 0) 2⟩, ⟨some (6, true), .ld false 1 (.t 7)⟩, ⟨some (6, true), .call false 138 [.t 8]⟩, ⟨none, .pick (.t 6) (.t 9) (.d (.bool false))⟩, ⟨some (10, true), .mv (.t 1)⟩, ⟨some (10, true), .not (.t 11)⟩, ⟨none, .pick (.t 10) (.t 12) (.d (.bool false))⟩, ⟨some (13, true), .fad (.t 0) 6⟩, ⟨some (13, true), .ld false 1 (.t 14)⟩, ⟨some (13, true), .len (.t 15)⟩, ⟨some (13, true), .bin .eql (.t 16) (.d (.int .i64 0))⟩, ⟨none, .pick (.t 13) (.t 17) (.d (.bool false))⟩]) <|
  .ret [.t 18]) (.seq (.ins [⟨none, .bin .eql (.t 2) (.d (.int .i64 7))⟩]) <|
  .cond (.t 4) (.seq (.ins [⟨none, .fad (.t 0) 1⟩, ⟨none, .ld false 1 (.t 5)⟩, ⟨none, .call false 137 [.t 6]⟩, ⟨some (7, true), .fad (.t 0) 2⟩, ⟨some (7, true), .ld false 1 (.t 8)⟩, ⟨some (7, true), .bin .eql (.t 9) (.d (.str []))⟩, ⟨none, .pick (.t 7) (.t 10) (.d (.bool false))⟩, ⟨some (11, true), .mv (.t 1)⟩, ⟨some (11, true), .not (.t 12)⟩, ⟨none, .pick (.t 11) (.t 13) (.d (.bool false))⟩, ⟨some (14, true), .fad (.t 0) 6⟩, ⟨some (14, true), .ld false 1 (.t 15)⟩, ⟨some (14, true), .len (.t 16)⟩, ⟨some (14, true), .bin .eql (.t 17) (.d (.int .i64 0))⟩, ⟨none, .pick (.t 14) (.t 18) (.d (.bool false))⟩]) <|
  .ret [.t 19]) (.seq (.ins [⟨none, .bin .eql (.t 2) (.d (.int .i64 4))⟩]) <|
  .cond (.t 5) (.seq (.seq (.ins [⟨none, .fad (.t 0) 5⟩, ⟨none, .ld false 1 (.t 6)⟩, ⟨none, .len (.t 7)⟩]) <|
  .block 1 (.seq (.foc [.t 0, .t 1, .t 8, .d (.int .i64 0)]) <|
  .loop b91L0)) <|
  .seq (.ins [⟨none, .fad (.t 0) 1⟩, ⟨none, .ld false 1 (.t 2)⟩, ⟨none, .call false 137 [.t 3]⟩, ⟨some (4, true), .fad (.t 0) 2⟩, ⟨some (4, true), .ld false 1 (.t 5)⟩, ⟨some (4, true), .bin .eql (.t 6) (.d (.str []))⟩, ⟨none, .pick (.t 4) (.t 7) (.d (.bool false))⟩, ⟨some (8, true), .mv (.t 1)⟩, ⟨none, .pick (.t 8) (.t 9) (.d (.bool false))⟩, ⟨some (10, true), .fad (.t 0) 6⟩, ⟨some (10, true), .ld false 1 (.t 11)⟩, ⟨some (10, true), .len (.t 12)⟩, ⟨some (10, true), .bin .eql (.t 13) (.d (.int .i64 0))⟩, ⟨none, .pick (.t 10) (.t 14) (.d (.bool false))⟩, ⟨some (15, true), .fad (.t 0) 3⟩, ⟨some (15, true), .ld false 1 (.t 16)⟩, ⟨some (15, true), .lenS (.t 17)⟩, ⟨some (15, true), .bin .leq (.t 18) (.d (.int .i64 200))⟩, ⟨none, .pick (.t 15) (.t 19) (.d (.bool false))⟩, ⟨some (20, true), .fad (.t 0) 4⟩, ⟨some (20, true), .ld false 1 (.t 21)⟩, ⟨some (20, true), .lenS (.t 22)⟩, ⟨some (20, true), .bin .leq (.t 23) (.d (.int .i64 200))⟩, ⟨none, .pick (.t 20) (.t 24) (.d (.bool false))⟩]) <|
  .ret [.t 25]) (.skip)))))) <|
  .foc [])) <|
  .seq (.ins []) <|
  .ret [.d (.bool false)]⟩
theorem ok91 : Code2 Tryz.prog prims 91 1 b91 := Code2.mk' rfl Tryz.func91 (by kernel_rfl) (by kernel_rfl)

/- 131: verger/filter.Attribute, 1 -/
def b131B0 : BC :=
  .seq (.seq (.ins [⟨none, .bin .lss (.t 3) (.t 2)⟩]) <|
  .seq (.cond (.t 4) (.skip) (.exit 0 [.t 0])) <|
  .seq (.block 1 (.seq (.seq (.ins [⟨none, .iad 1 (.t 1) (.t 3)⟩, ⟨none, .ld false 1 (.t 5)⟩]) <|
  .seq (.ins [⟨none, .bin .or (.t 6) (.d (.int .u8 32))⟩, ⟨none, .bin .geq (.t 7) (.d (.int .u8 97))⟩, ⟨some (8, true), .mv (.t 6)⟩, ⟨some (8, true), .bin .or (.t 9) (.d (.int .u8 32))⟩, ⟨some (8, true), .bin .leq (.t 10) (.d (.int .u8 122))⟩, ⟨none, .pick (.t 8) (.t 11) (.d (.bool false))⟩]) <|
  .seq (.ins [⟨none, .not (.t 12)⟩, ⟨some (13, true), .mv (.t 3)⟩, ⟨some (13, true), .bin .eql (.t 14) (.d (.int .i64 0))⟩, ⟨some (13, true), .mv (.t 15)⟩, ⟨some (16, false), .mv (.t 6)⟩, ⟨some (16, false), .bin .neq (.t 17) (.d (.int .u8 45))⟩, ⟨some (16, false), .mv (.t 18)⟩, ⟨some (19, true), .mv (.t 6)⟩, ⟨some (19, true), .bin .lss (.t 20) (.d (.int .u8 48))⟩, ⟨some (19, true), .mv (.t 21)⟩, ⟨some (22, false), .mv (.t 6)⟩, ⟨some (22, false), .bin .gtr (.t 23) (.d (.int .u8 57))⟩, ⟨some (19, true), .pick (.t 22) (.d (.bool true)) (.t 24)⟩, ⟨some (16, false), .pick (.t 19) (.t 25) (.d (.bool false))⟩, ⟨some (13, true), .pick (.t 16) (.d (.bool true)) (.t 26)⟩, ⟨none, .pick (.t 13) (.t 27) (.d (.bool false))⟩]) <|
  .cond (.t 28) (.seq (.ins []) <|
  .ret [.d (.bool false)]) (.skip)) <|
  .foc [.t 0, .t 1, .t 2, .t 3])) <|
  .ins [⟨none, .bin .add (.t 3) (.d (.int .i64 1))⟩]) <|
  .foc [.t 0, .t 1, .t 2, .t 4]
def b131L0 : BC := b131B0
theorem b131L0_eq : b131L0 = b131B0 := rfl

def b131 : BFun := ⟨[.t 0],
  .seq (.ins []) <|
  .seq (.seq (.ins [⟨none, .conv .sb (.t 0)⟩, ⟨none, .len (.t 1)⟩]) <|
  .block 0 (.seq (.foc [.t 0, .t 1, .t 2, .d (.int .i64 0)]) <|
  .loop b131L0)) <|
  .seq (.ins [⟨none, .bin .neq (.t 0) (.d (.str []))⟩, ⟨some (1, true), .mv (.t 0)⟩, ⟨some (1, true), .lenS (.t 2)⟩, ⟨some (1, true), .bin .leq (.t 3) (.d (.int .i64 40))⟩, ⟨none, .pick (.t 1) (.t 4) (.d (.bool false))⟩]) <|
  .ret [.t 5]⟩
theorem ok131 : Code2 Tryz.prog prims 131 1 b131 := Code2.mk' rfl Tryz.func131 (by kernel_rfl) (by kernel_rfl)

/- 132: verger/filter.fits, 1 -/
def b132 : BFun := ⟨[.t 0],
  .seq (.ins []) <|
  .seq (.ins [⟨none, .bin .neq (.t 0) (.d (.str []))⟩, ⟨some (1, true), .mv (.t 0)⟩, ⟨some (1, true), .lenS (.t 2)⟩, ⟨some (1, true), .bin .leq (.t 3) (.d (.int .i64 200))⟩, ⟨none, .pick (.t 1) (.t 4) (.d (.bool false))⟩]) <|
  .ret [.t 5]⟩
theorem ok132 : Code2 Tryz.prog prims 132 1 b132 := Code2.mk' rfl Tryz.func132 (by kernel_rfl) (by kernel_rfl)

/- 133: slices.ContainsFunc[[]string,string], 2 -/
def b133 : BFun := ⟨[.t 0],
  .seq (.ins []) <|
  .seq (.ins [⟨none, .call false 177 [.t 0, .t 1]⟩, ⟨none, .bin .geq (.t 2) (.d (.int .i64 0))⟩]) <|
  .ret [.t 3]⟩
theorem ok133 : Code2 Tryz.prog prims 133 2 b133 := Code2.mk' rfl Tryz.func133 (by kernel_rfl) (by kernel_rfl)

/- 134: verger/filter.own$1, 1 -/
def b134 : BFun := ⟨[.t 0],
  .seq (.ins []) <|
  .seq (.ins [⟨none, .call false 132 [.t 0]⟩, ⟨none, .not (.t 1)⟩]) <|
  .ret [.t 2]⟩
theorem ok134 : Code2 Tryz.prog prims 134 1 b134 := Code2.mk' rfl Tryz.func134 (by kernel_rfl) (by kernel_rfl)

/- 137: verger/vergerref07.Attr, 1 -/
def b137B0 : BC :=
  .seq (.seq (.seq (.ins [⟨none, .lenS (.t 0)⟩, ⟨none, .bin .lss (.t 1) (.t 2)⟩]) <|
  .cond (.t 3) (.skip) (.exit 0 [])) <|
  .seq (.block 1 (.seq (.seq (.ins [⟨none, .ixs (.t 0) (.t 1)⟩, ⟨none, .call false 179 [.t 4]⟩, ⟨none, .not (.t 5)⟩, ⟨some (6, true), .mv (.t 0)⟩, ⟨some (6, true), .mv (.t 1)⟩, ⟨some (6, true), .ixs (.t 7) (.t 8)⟩, ⟨some (6, true), .bin .geq (.t 9) (.d (.int .u8 48))⟩, ⟨some (6, true), .mv (.t 10)⟩, ⟨some (11, true), .mv (.t 0)⟩, ⟨some (11, true), .mv (.t 1)⟩, ⟨some (11, true), .ixs (.t 12) (.t 13)⟩, ⟨some (11, true), .bin .leq (.t 14) (.d (.int .u8 57))⟩, ⟨some (6, true), .pick (.t 11) (.t 15) (.d (.bool false))⟩, ⟨some (6, true), .not (.t 16)⟩, ⟨none, .pick (.t 6) (.t 17) (.d (.bool false))⟩, ⟨some (18, true), .mv (.t 0)⟩, ⟨some (18, true), .mv (.t 1)⟩, ⟨some (18, true), .ixs (.t 19) (.t 20)⟩, ⟨some (18, true), .bin .neq (.t 21) (.d (.int .u8 45))⟩, ⟨none, .pick (.t 18) (.t 22) (.d (.bool false))⟩]) <|
  .cond (.t 23) (.seq (.ins []) <|
  .ret [.d (.bool false)]) (.skip)) <|
  .foc [.t 0, .t 1])) <|
  .ins [⟨none, .bin .add (.t 1) (.d (.int .i64 1))⟩]) <|
  .foc [.t 0, .t 2]
def b137L0 : BC := b137B0
theorem b137L0_eq : b137L0 = b137B0 := rfl

def b137 : BFun := ⟨[.t 0],
  .seq (.ins []) <|
  .seq (.seq (.ins [⟨none, .lenS (.t 0)⟩, ⟨none, .bin .lss (.t 1) (.d (.int .i64 1))⟩, ⟨some (2, false), .mv (.t 0)⟩, ⟨some (2, false), .lenS (.t 3)⟩, ⟨some (2, false), .bin .gtr (.t 4) (.d (.int .i64 40))⟩, ⟨none, .pick (.t 2) (.d (.bool true)) (.t 5)⟩, ⟨some (6, false), .mv (.t 0)⟩, ⟨some (6, false), .ixs (.t 7) (.d (.int .i64 0))⟩, ⟨some (6, false), .call false 179 [.t 8]⟩, ⟨some (6, false), .not (.t 9)⟩, ⟨none, .pick (.t 6) (.d (.bool true)) (.t 10)⟩]) <|
  .cond (.t 11) (.seq (.ins []) <|
  .ret [.d (.bool false)]) (.skip)) <|
  .seq (.seq (.ins []) <|
  .block 0 (.seq (.foc [.t 0, .d (.int .i64 0)]) <|
  .loop b137L0)) <|
  .seq (.ins []) <|
  .ret [.d (.bool true)]⟩
theorem ok137 : Code2 Tryz.prog prims 137 1 b137 := Code2.mk' rfl Tryz.func137 (by kernel_rfl) (by kernel_rfl)

/- 138: verger/vergerref07.fits, 1 -/
def b138 : BFun := ⟨[.t 0],
  .seq (.ins []) <|
  .seq (.ins [⟨none, .lenS (.t 0)⟩, ⟨none, .bin .geq (.t 1) (.d (.int .i64 1))⟩, ⟨some (2, true), .mv (.t 0)⟩, ⟨some (2, true), .lenS (.t 3)⟩, ⟨some (2, true), .bin .leq (.t 4) (.d (.int .i64 200))⟩, ⟨none, .pick (.t 2) (.t 5) (.d (.bool false))⟩]) <|
  .ret [.t 6]⟩
theorem ok138 : Code2 Tryz.prog prims 138 1 b138 := Code2.mk' rfl Tryz.func138 (by kernel_rfl) (by kernel_rfl)

/- 177: slices.IndexFunc[[]string,string], 2 -/
def b177B0 : BC :=
  .seq (.seq (.ins [⟨none, .bin .lss (.t 3) (.t 2)⟩]) <|
  .seq (.cond (.t 4) (.skip) (.exit 0 [])) <|
  .seq (.block 1 (.seq (.seq (.ins []) <|
  .seq (.ins [⟨none, .iad 1 (.t 0) (.t 3)⟩, ⟨none, .ld false 1 (.t 5)⟩, ⟨none, .callv false (.t 1) [.t 6]⟩]) <|
  .cond (.t 7) (.seq (.ins []) <|
  .ret [.t 3]) (.skip)) <|
  .foc [.t 0, .t 1, .t 2, .t 3])) <|
  .ins [⟨none, .bin .add (.t 3) (.d (.int .i64 1))⟩]) <|
  .foc [.t 0, .t 1, .t 2, .t 4]
def b177L0 : BC := b177B0
theorem b177L0_eq : b177L0 = b177B0 := rfl

def b177 : BFun := ⟨[.t 0],
  .seq (.ins []) <|
  .seq (.seq (.ins [⟨none, .len (.t 0)⟩]) <|
  .block 0 (.seq (.foc [.t 0, .t 1, .t 2, .d (.int .i64 0)]) <|
  .loop b177L0)) <|
  .seq (.ins []) <|
  .ret [.d (.int .i64 (-1))]⟩
theorem ok177 : Code2 Tryz.prog prims 177 2 b177 := Code2.mk' rfl Tryz.func177 (by kernel_rfl) (by kernel_rfl)

/- 179: verger/vergerref07.letter, 1 -/
def b179 : BFun := ⟨[.t 0],
  .seq (.ins []) <|
  .seq (.ins [⟨none, .bin .geq (.t 0) (.d (.int .u8 97))⟩, ⟨some (1, true), .mv (.t 0)⟩, ⟨some (1, true), .bin .leq (.t 2) (.d (.int .u8 122))⟩, ⟨none, .pick (.t 1) (.t 3) (.d (.bool false))⟩, ⟨some (4, false), .mv (.t 0)⟩, ⟨some (4, false), .bin .geq (.t 5) (.d (.int .u8 65))⟩, ⟨some (4, false), .mv (.t 6)⟩, ⟨some (7, true), .mv (.t 0)⟩, ⟨some (7, true), .bin .leq (.t 8) (.d (.int .u8 90))⟩, ⟨some (4, false), .pick (.t 7) (.t 9) (.d (.bool false))⟩, ⟨none, .pick (.t 4) (.d (.bool true)) (.t 10)⟩]) <|
  .ret [.t 11]⟩
theorem ok179 : Code2 Tryz.prog prims 179 1 b179 := Code2.mk' rfl Tryz.func179 (by kernel_rfl) (by kernel_rfl)

end Go.Abs

/- The document's filters: what is formed. -/
namespace Go.Abs
open Go Go.Proofs
noncomputable abbrev TT : Orc := Run (Tab.of Tryz.prog prims)
def letter (c : UInt8) : Bool := (decide ((97 : Int) ≤ c.toNat) && decide ((c.toNat : Int) ≤ 122)) || (decide ((65 : Int) ≤ c.toNat) && decide ((c.toNat : Int) ≤ 90))
def fitsS (s : List UInt8) : Bool := decide ((1 : Int) ≤ s.length) && decide ((s.length : Int) ≤ 200)

theorem run179 (c : UInt8) : TT 179 [.d (.int .u8 c.toNat)] [] = some (.bool (letter c), []) := by
  refine ok179.run ?_
  simp only [b179, letter]
  repeat' (simp only [bC, bO, bV, bF, List.length_nil, *]; (try (simp only [grdK, cndK]; split)))
  all_goals simp_all
theorem run138 (s : List UInt8) : TT 138 [.d (.str s)] [] = some (.bool (fitsS s), []) := by
  refine ok138.run ?_
  simp only [b138, fitsS]
  repeat' (simp only [bC, bO, bV, bF, List.length_nil, *]; (try (simp only [grdK, cndK]; split)))
  all_goals simp_all

def attrC (c : UInt8) : Bool := letter c || (decide ((48 : Int) ≤ c.toNat) && decide ((c.toNat : Int) ≤ 57)) || ((c.toNat : Int) == 45)
def attrOk (s : List UInt8) : Bool := decide ((1 : Int) ≤ s.length) && decide ((s.length : Int) ≤ 40) && (match s with | [] => false | c :: _ => letter c) && s.all attrC

theorem loop137 (s : List UInt8) (hs : s.length ≤ 40) : ∀ (n i : Nat), n + i = s.length → DnB TT (.loop b137L0) [.d (.str s), .d (.int .i64 i)] [] [] = if (s.drop i).all attrC then some (.ex 0, [], [], []) else some (.rt, [.d (.bool false)], [], [])
  | 0, i, hi => by
    have : ¬ ((i : Int) < (s.length : Int)) := by omega
    have h2 : s.drop i = [] := List.drop_eq_nil_of_le (by omega)
    rw [L_loopU b137L0_eq]
    simp only [b137B0]
    simp only [bC, bO, bV, bF, this, decide_false, h2, List.all_nil, if_true]
  | n + 1, i, hi => by
    have h1 : ((i : Int) < (s.length : Int)) := by omega
    have h1' : i < s.length := by omega
    have ih := loop137 s hs n (i + 1) (by omega)
    rw [List.drop_eq_getElem_cons h1', List.all_cons]
    have hw := wrap_inc h1' (by omega)
    rw [L_loopU b137L0_eq]
    generalize (s.drop (i + 1)).all attrC = B at *
    simp only [b137B0, attrC]
    simp only [bC, bO, bV, bF, ix_ok h1', run179, bCall, bK, h1, decide_true]
    repeat' (simp only [bC, bO, bV, bF, bL, ix_ok h1', run179, bCall, bK, hw, ih, *]; (try (simp only [grdK, cndK]; split)))
    all_goals (cases B <;> simp_all)
    all_goals omega

theorem run137 (s : List UInt8) (hs : s.length ≤ 1073741824) : TT 137 [.d (.str s)] [] = some (.bool (attrOk s), []) := by
  refine ok137.run ?_
  simp only [b137, attrOk]
  by_cases h1 : (1 : Int) ≤ s.length
  · by_cases h2 : (s.length : Int) ≤ 40
    · have h3 : ¬ ((s.length : Int) < 1) := by omega
      have h4 : ¬ ((40 : Int) < (s.length : Int)) := by omega
      match s, h1, h2, h3, h4 with
      | [], h1, _, _, _ => simp at h1
      | c :: l, h1, h2, h3, h4 =>
        have ix : ∀ {bs tau}, ixsK bs tau (.d (.str (c :: l))) (.d (.int .i64 0)) = some (.d (.int .u8 c.toNat), bs, tau) := rfl
        have lp := loop137 (c :: l) (by omega) (c :: l).length 0 rfl
        simp only [List.drop_zero, Int.natCast_zero, Int.ofNat_zero] at lp
        have lp : DnB TT (.loop b137L0) [.d (.str (c :: l)), .d (.int .i64 0)] [] [] = _ := lp
        simp only [h1, h2, h3, h4, decide_true, decide_false, Bool.and_true, Bool.true_and]
        generalize (c :: l).all attrC = B at *
        simp only [bC, bO, bV, bF, ix, run179, bCall, bK, h3, h4, decide_false]
        cases hl : letter c <;> simp only [bC, bO, bV, bF, List.length_nil, Bool.not_true, Bool.not_false, lp, Bool.true_and, Bool.false_and]
        cases B <;> simp only [if_true, bC, bF, Bool.false_eq_true, if_false]
    · have h3 : ¬ ((s.length : Int) < 1) := by omega
      have h4 : ((40 : Int) < (s.length : Int)) := by omega
      simp only [h1, h2, h3, h4, bC, bO, bV, bF, decide_true, decide_false, List.length_nil, Bool.false_and, Bool.and_false]
  · have h3 : ((s.length : Int) < 1) := by omega
    simp only [h1, h3, bC, bO, bV, bF, decide_true, decide_false, List.length_nil, Bool.false_and]
end Go.Abs

/- The document's filters: what is formed, continued. -/
namespace Go.Abs
open Go Go.Proofs

def pieces (f : Flt) : Bool := (f.first != []) || (f.last != []) || decide ((0 : Int) < f.any.length)
def bare (f : Flt) : Bool :=
  if f.kind == 0 || f.kind == 1 then f.attr == [] && f.value == [] && !pieces f
  else if f.kind == 2 then f.attr == [] && f.value == [] && !pieces f && ((f.parts.length : Int) == 1)
  else if f.kind == 3 || f.kind == 5 || f.kind == 6 || f.kind == 8 then attrOk f.attr && fitsS f.value && !pieces f && ((f.parts.length : Int) == 0)
  else if f.kind == 7 then attrOk f.attr && f.value == [] && !pieces f && ((f.parts.length : Int) == 0)
  else if f.kind == 4 then f.any.all fitsS && attrOk f.attr && f.value == [] && pieces f && ((f.parts.length : Int) == 0) && decide ((f.first.length : Int) ≤ 200) && decide ((f.last.length : Int) ≤ 200)
  else false

theorem loop91 (f : Flt) (hs : f.any.length ≤ 1073741824) (x : AV) (hx : clr 1 x = x) : ∀ (n i : Nat), n + i = f.any.length → DnB TT (.loop b91L0) [.bp 0 0, x, .d (.int .i64 f.any.length), .d (.int .i64 i)] [fbox f] [] = if (f.any.drop i).all fitsS then some (.ex 1, [.bp 0 0, x], [fbox f], []) else some (.rt, [.d (.bool false)], [fbox f], [])
  | 0, i, hi => by
    have : ¬ ((i : Int) < (f.any.length : Int)) := by omega
    have h2 : f.any.drop i = [] := List.drop_eq_nil_of_le (by omega)
    rw [L_loopU b91L0_eq]
    simp only [b91B0]
    simp only [bC, bO, bV, bF, this, decide_false, h2, List.all_nil, if_true]
  | n + 1, i, hi => by
    have h1 : ((i : Int) < (f.any.length : Int)) := by omega
    have h1' : i < f.any.length := by omega
    have ih := loop91 f hs x hx n (i + 1) (by omega)
    rw [List.drop_eq_getElem_cons h1', List.all_cons]
    have hw := wrap_inc h1' (by omega)
    rw [L_loopU b91L0_eq]
    generalize (f.any.drop (i + 1)).all fitsS = B at *
    simp only [b91B0]
    simp only [bC, bO, bV, bF, bFlt, ia_map h1', run138, bCall, bK, h1, decide_true]
    cases hl : fitsS f.any[i] <;> simp only [bC, bO, bV, bF, bL, hx, Bool.not_true, Bool.not_false, hw, ih, Bool.true_and, Bool.false_and, Bool.false_eq_true, if_false]

set_option maxHeartbeats 4000000 in
theorem run91 (f : Flt) (h1 : f.attr.length ≤ 1073741824) (h2 : f.any.length ≤ 1073741824) : TT 91 [.d (encF f)] [] = some (.bool (bare f), []) := by
  refine ok91.run ?_
  have ra := run137 f.attr h1
  have lp := loop91 f h2 (.d (.bool (pieces f))) rfl f.any.length 0 rfl
  simp only [List.drop_zero, Int.natCast_zero, Int.ofNat_zero] at lp
  have lp : DnB TT (.loop b91L0) [.bp 0 0, .d (.bool (pieces f)), .d (.int .i64 f.any.length), .d (.int .i64 0)] [fbox f] [] = _ := lp
  simp only [b91, bare, pieces] at *
  generalize f.any.all fitsS = B at *
  generalize attrOk f.attr = A at *
  have p : (f.first != []) = true ∨ ((f.first != []) = false ∧ (f.last != []) = true) ∨ ((f.first != []) = false ∧ (f.last != []) = false) := by
    cases (f.first != []) <;> cases (f.last != []) <;> simp
  cases B
  all_goals
  simp only [if_true, Bool.false_eq_true, if_false] at lp
  rcases p with p1 | ⟨p1, p2⟩ | ⟨p1, p2⟩
  · simp only [p1, Bool.or_true, Bool.true_or, Bool.or_false, Bool.false_or] at lp ⊢
    repeat' (simp only [bC, bO, bV, bF, bL, bFlt, bCall, bK, List.length_map, ra, run138, lp, Bool.or_true, Bool.true_or, Bool.or_false, Bool.false_or, Bool.not_true, Bool.not_false, *]; (try (simp only [grdK, cndK]; split)))
    all_goals (clear ra lp; simp_all)
  · simp only [p1, p2, Bool.or_true, Bool.true_or, Bool.or_false, Bool.false_or] at lp ⊢
    repeat' (simp only [bC, bO, bV, bF, bL, bFlt, bCall, bK, List.length_map, ra, run138, lp, Bool.or_true, Bool.true_or, Bool.or_false, Bool.false_or, Bool.not_true, Bool.not_false, *]; (try (simp only [grdK, cndK]; split)))
    all_goals (clear ra lp; simp_all)
  · simp only [p1, p2, Bool.or_true, Bool.true_or, Bool.or_false, Bool.false_or] at lp ⊢
    repeat' (simp only [bC, bO, bV, bF, bL, bFlt, bCall, bK, List.length_map, ra, run138, lp, Bool.or_true, Bool.true_or, Bool.or_false, Bool.false_or, Bool.not_true, Bool.not_false, *]; (try (simp only [grdK, cndK]; split)))
    all_goals (clear ra lp; simp_all)

mutual
def allB : Flt → Bool
  | f@(.mk _ _ _ _ _ _ p) => bare f && allBs p
def allBs : List Flt → Bool
  | [] => true
  | p :: ps => allB p && allBs ps
end
theorem allB_eq (f : Flt) : allB f = (bare f && allBs f.parts) := by cases f; simp only [allB, Flt.parts]

/-- Every list and text in it is of a size that the machine can count. -/
inductive Flt.Ok : Flt → Prop
  | mk {f : Flt} : f.attr.length ≤ 1073741824 → f.any.length ≤ 1073741824 → f.parts.length ≤ 1073741824 → (∀ p ∈ f.parts, p.Ok) → f.Ok
theorem Flt.Ok.attr {f : Flt} (h : f.Ok) : f.attr.length ≤ 1073741824 := by cases h; assumption
theorem Flt.Ok.any {f : Flt} (h : f.Ok) : f.any.length ≤ 1073741824 := by cases h; assumption
theorem Flt.Ok.parts {f : Flt} (h : f.Ok) : f.parts.length ≤ 1073741824 := by cases h; assumption
theorem Flt.Ok.part {f : Flt} (h : f.Ok) {i : Nat} (hi : i < f.parts.length) : (f.parts[i]).Ok := by cases h with | mk _ _ _ h => exact h _ (List.getElem_mem hi)

theorem loop47 (f : Flt) (hf : f.Ok) (H : ∀ i (hi : i < f.parts.length), TT 47 [.d (encF f.parts[i])] [] = some (.bool (allB f.parts[i]), [])) : ∀ (n i : Nat), n + i = f.parts.length → DnB TT (.loop b47L0) [.bp 0 0, .d (.int .i64 f.parts.length), .d (.int .i64 i)] [fbox f] [] = if allBs (f.parts.drop i) then some (.ex 0, [], [fbox f], []) else some (.rt, [.d (.bool false)], [fbox f], [])
  | 0, i, hi => by
    have : ¬ ((i : Int) < (f.parts.length : Int)) := by omega
    have h2 : f.parts.drop i = [] := List.drop_eq_nil_of_le (by omega)
    rw [L_loopU b47L0_eq]
    simp only [b47B0]
    simp only [bC, bO, bV, bF, this, decide_false, h2, allBs, if_true]
  | n + 1, i, hi => by
    have h1 : ((i : Int) < (f.parts.length : Int)) := by omega
    have h1' : i < f.parts.length := by omega
    have ih := loop47 f hf H n (i + 1) (by omega)
    rw [List.drop_eq_getElem_cons h1', allBs]
    have hw := wrap_inc h1' hf.parts
    have hr := H i h1'
    rw [L_loopU b47L0_eq]
    generalize allBs (f.parts.drop (i + 1)) = B at *
    simp only [b47B0]
    simp only [bC, bO, bV, bF, bFlt, ia_map h1', hr, bCall, bK, h1, decide_true]
    cases hl : allB f.parts[i] <;> simp only [bC, bO, bV, bF, bL, Bool.not_true, Bool.not_false, hw, ih, Bool.true_and, Bool.false_and, Bool.false_eq_true, if_false]

theorem run47 : ∀ (k : Nat) (f : Flt), f.size ≤ k → f.Ok → TT 47 [.d (encF f)] [] = some (.bool (allB f), [])
  | 0, f, hk, _ => by cases f; simp [Flt.size] at hk
  | k + 1, f, hk, hf => by
    have H := loop47 f hf (fun i hi => run47 k _ (by have := Flt.size_part hi; omega) (hf.part hi)) f.parts.length 0 rfl
    have H : DnB TT (.loop b47L0) [.bp 0 0, .d (.int .i64 f.parts.length), .d (.int .i64 0)] [fbox f] [] = _ := H
    have hb := run91 f hf.attr hf.any
    rw [List.drop_zero] at H
    refine ok47.run ?_
    simp only [b47, allB_eq]
    generalize bare f = B at *
    generalize allBs f.parts = A at *
    simp only [bC, bO, bV, bF, bL, bFlt, bCall, bK, hb]
    cases B <;> simp only [bC, bO, bV, bF, bL, bFlt, bCall, bK, List.length_map, H, Bool.not_true, Bool.not_false, Bool.false_and, Bool.true_and]
    cases A <;> simp only [bC, bF, Bool.false_eq_true, if_false, if_true]
end Go.Abs

/- The package's filters: what is formed. -/
namespace Go.Abs
open Go Go.Proofs

theorem all_u8 {p : UInt8 → Prop} (h : ∀ n : Fin 256, p (UInt8.ofNat n.val)) (c : UInt8) : p c := by
  have := h ⟨c.toNat, c.toNat_lt⟩
  simpa using this

theorem run132 (s : List UInt8) : TT 132 [.d (.str s)] [] = some (.bool (fitsS s), []) := by
  refine ok132.run ?_
  simp only [b132, fitsS]
  have h : (s != []) = decide ((1 : Int) ≤ s.length) := by rw [Bool.eq_iff_iff]; cases s <;> simp; omega
  repeat' (simp only [bC, bO, bV, bF, List.length_nil, *]; (try (simp only [grdK, cndK]; split)))
  all_goals simp_all

theorem run134 (s : List UInt8) : TT 134 [.d (.str s)] [] = some (.bool (!fitsS s), []) := by
  refine ok134.run ?_
  simp only [b134]
  simp only [bC, bO, bV, bF, List.length_nil, bCall, bK, run132]

theorem or32 {bs : List Box} {tau : List Nat} (c : UInt8) : binK bs tau .or (.d (.int .u8 c.toNat)) (.d (.int .u8 32)) = some (.d (.int .u8 (c ||| 32).toNat), bs, tau) := by
  have h : ∀ c : UInt8, IntKind.u8.wrap ((BitVec.ofInt 8 (c.toNat : Int) ||| BitVec.ofInt 8 32).toNat : Int) = ((c ||| 32).toNat : Int) := all_u8 (by decide +kernel)
  simp only [binK, evBin, if_true, optDV]
  rw [show IntKind.u8.bits = 8 from rfl, h c]
theorem letter_or (c : UInt8) : letter c = (decide ((97 : Int) ≤ (c ||| 32).toNat) && decide (((c ||| 32).toNat : Int) ≤ 122)) := by
  revert c
  exact all_u8 (by decide +kernel)
theorem int_cells {k : IntKind} {n : Int} : (DV.int k n).cells = [DV.int k n] := rfl

theorem loop131 (s : List UInt8) (hs : s.length ≤ 1073741824) : ∀ (n i : Nat), n + i = s.length → i ≠ 0 → DnB TT (.loop b131L0) [.d (.str s), .d (.slice 1 (bytesD s)), .d (.int .i64 s.length), .d (.int .i64 i)] [] [] = if (s.drop i).all attrC then some (.ex 0, [.d (.str s)], [], []) else some (.rt, [.d (.bool false)], [], [])
  | 0, i, hi, _ => by
    have : ¬ ((i : Int) < (s.length : Int)) := by omega
    have h2 : s.drop i = [] := List.drop_eq_nil_of_le (by omega)
    rw [L_loopU b131L0_eq]
    simp only [b131B0]
    simp only [bC, bO, bV, bF, this, decide_false, h2, List.all_nil, if_true]
  | n + 1, i, hi, h0 => by
    have h1 : ((i : Int) < (s.length : Int)) := by omega
    have h1' : i < s.length := by omega
    have h0' : ((i : Int) == 0) = false := by simp; omega
    have ih := loop131 s hs n (i + 1) (by omega) (by omega)
    rw [List.drop_eq_getElem_cons h1', List.all_cons]
    have hw := wrap_inc h1' (by omega)
    rw [L_loopU b131L0_eq]
    generalize (s.drop (i + 1)).all attrC = B at *
    simp only [b131B0, attrC, letter_or, bytesD] at *
    repeat' (simp only [bC, bO, bV, bF, bL, bFlt, int_cells, or32, ia_map h1', bCall, bK, hw, ih, h0', h1, decide_true, Bool.not_true, Bool.not_false, *]; (try (simp only [grdK, cndK]; split)))
    all_goals (cases B <;> simp_all)
    all_goals omega

theorem run131 (s : List UInt8) (hs : s.length ≤ 1073741824) : TT 131 [.d (.str s)] [] = some (.bool (attrOk s), []) := by
  refine ok131.run ?_
  have cv : ∀ bs tau, convK .sb bs tau (.d (.str s)) = some (.d (.slice 1 (bytesD s)), bs, tau) := by
    intros; simp only [convK, AV.dv, evConv]; rw [if_pos (show s.length ≤ maxLenN from hs)]; rfl
  have ln : (bytesD s).length = s.length := by simp [bytesD]
  cases s with
  | nil =>
    simp only [b131, attrOk]
    simp only [bC, bO, bV, bF, cv, ln, List.length_nil]
    rw [L_loopU b131L0_eq]
    simp only [b131B0]
    have h0 : ¬ ((0 : Int) < ((0 : Nat) : Int)) := by decide
    have e1 : (([] : List UInt8) != []) = false := rfl
    simp only [bC, bO, bV, bF, bL, h0, decide_false, e1]
    rfl
  | cons c l =>
    have lp := loop131 (c :: l) hs l.length 1 (by simp) (by omega)
    simp only [List.drop_succ_cons, List.drop_zero] at lp
    have h1 : (0 : Int) < ((c :: l).length : Int) := by simp only [List.length_cons]; omega
    have h1' : 0 < (c :: l).length := by simp
    have ix : ∀ {bs tau}, iadK bs tau 1 (.d (.slice 1 (bytesD (c :: l)))) (.d (.int .i64 0)) = some (.ep [.int .u8 c.toNat], bs, tau) := rfl
    have hw : IntKind.i64.wrap ((0 : Int) + 1) = ((1 : Nat) : Int) := by decide
    have e1 : ((c :: l) != []) = true := rfl
    have g1 : decide ((1 : Int) ≤ ((c :: l).length : Int)) = true := by simp; omega
    have at1 : attrC c = true → letter c = true → True := fun _ _ => trivial
    simp only [b131, attrOk, List.all_cons, g1]
    simp only [bC, bO, bV, bF, cv, ln, List.length_nil]
    rw [L_loopU b131L0_eq]
    simp only [b131B0]
    have hlc : letter c = true → attrC c = true := by intro h; simp [attrC, h]
    simp only [bC, bO, bV, bF, bFlt, h1, ix, decide_true, or32]
    generalize l.all attrC = B at *
    rw [letter_or] at *
    cases B
    all_goals simp only [if_true, Bool.false_eq_true, if_false] at lp
    all_goals repeat' (simp only [bC, bO, bV, bF, bL, bFlt, lp, ix, hw, h1, e1, decide_true, or32, beq_self_eq_true, Bool.not_true, Bool.not_false, *]; (try (simp only [grdK, cndK]; split)))
    all_goals (clear lp; simp_all)

theorem run177 (l : List (List UInt8)) (hl : l.length ≤ 1073741824) : ∀ (n i : Nat), n + i = l.length →
    (l.drop i).all fitsS = true ∧ DnB TT (.loop b177L0) [.d (slc 1 (l.map .str)), .fn 134 [], .d (.int .i64 l.length), .d (.int .i64 i)] [] [] = some (.ex 0, [], [], []) ∨
    (l.drop i).all fitsS = false ∧ ∃ j : Nat, DnB TT (.loop b177L0) [.d (slc 1 (l.map .str)), .fn 134 [], .d (.int .i64 l.length), .d (.int .i64 i)] [] [] = some (.rt, [.d (.int .i64 j)], [], [])
  | 0, i, hi => by
    have : ¬ ((i : Int) < (l.length : Int)) := by omega
    have h2 : l.drop i = [] := List.drop_eq_nil_of_le (by omega)
    left
    rw [L_loopU b177L0_eq]
    simp only [b177B0]
    simp only [bC, bO, bV, bF, this, decide_false, h2, List.all_nil, true_and]
  | n + 1, i, hi => by
    have h1 : ((i : Int) < (l.length : Int)) := by omega
    have h1' : i < l.length := by omega
    have ih := run177 l hl n (i + 1) (by omega)
    rw [List.drop_eq_getElem_cons h1', List.all_cons]
    have hw := wrap_inc h1' (by omega)
    rw [L_loopU b177L0_eq]
    generalize (l.drop (i + 1)).all fitsS = B at *
    simp only [b177B0]
    have cv : ∀ {bs tau x}, evR TT [.d (slc 1 (l.map .str)), .fn 134 [], .d (.int .i64 l.length), .d (.int .i64 i), .d (.bool true), .ep [.str l[i]], x] bs tau (.callv false (.t 1) [.t 6]) = evCall TT false 134 [x] bs tau := by intros; rfl
    simp only [bC, bO, bV, bF, bFlt, ia_map h1', h1, decide_true, cv, bCall, bK, run134]
    cases hf : fitsS l[i]
    · right
      simp only [bC, bO, bV, bF, Bool.not_false, Bool.false_and, true_and]
      exact ⟨i, rfl⟩
    · simp only [bC, bO, bV, bF, bL, Bool.not_true, Bool.true_and, hw]
      exact ih

theorem run133 (l : List (List UInt8)) (hl : l.length ≤ 1073741824) : TT 133 [.d (slc 1 (l.map .str)), .fn 134 []] [] = some (.bool (!l.all fitsS), []) := by
  have key : ∃ j : Int, TT 177 [.d (slc 1 (l.map .str)), .fn 134 []] [] = some (.int .i64 j, []) ∧ (0 ≤ j ↔ l.all fitsS = false) := by
    have lp := run177 l hl l.length 0 rfl
    rw [List.drop_zero] at lp
    rcases lp with ⟨h1, h2⟩ | ⟨h1, j, h2⟩
    · have h2 : DnB TT (.loop b177L0) [.d (slc 1 (l.map .str)), .fn 134 [], .d (.int .i64 l.length), .d (.int .i64 0)] [] [] = _ := h2
      refine ⟨-1, ok177.run ?_, by simp [h1]⟩
      simp only [b177]
      simp only [bC, bO, bV, bF, List.length_map, h2, List.length_nil]
    · have h2 : DnB TT (.loop b177L0) [.d (slc 1 (l.map .str)), .fn 134 [], .d (.int .i64 l.length), .d (.int .i64 0)] [] [] = _ := h2
      refine ⟨j, ok177.run ?_, by simp [h1]⟩
      simp only [b177]
      simp only [bC, bO, bV, bF, List.length_map, h2, List.length_nil]
  obtain ⟨j, h1, h2⟩ := key
  refine ok133.run ?_
  simp only [b133]
  simp only [bC, bO, bV, bF, bCall, bK, h1, List.length_nil]
  have : decide (0 ≤ j) = !l.all fitsS := by
    rw [Bool.eq_iff_iff]; simp only [decide_eq_true_eq, h2]; simp
  rw [this]
end Go.Abs

/- The package's filters: a filter has just what belongs to its kind. -/
namespace Go.Abs
open Go Go.Proofs

set_option maxHeartbeats 8000000 in
theorem run84 (f : Flt) (h1 : f.attr.length ≤ 1073741824) (h2 : f.any.length ≤ 1073741824) : TT 84 [.d (encF f)] [] = some (.bool (bare f), []) := by
  refine ok84.run ?_
  have ra := run131 f.attr h1
  have rc := run133 f.any h2
  simp only [b84, bare, pieces] at *
  generalize f.any.all fitsS = B at *
  generalize attrOk f.attr = A at *
  have p : (f.first != []) = true ∨ ((f.first != []) = false ∧ (f.last != []) = true) ∨ ((f.first != []) = false ∧ (f.last != []) = false) := by
    cases (f.first != []) <;> cases (f.last != []) <;> simp
  cases hl : ((f.parts.length : Int) == 0) <;> cases A
  all_goals
  rcases p with p1 | ⟨p1, p2⟩ | ⟨p1, p2⟩
  · simp only [p1, Bool.or_true, Bool.true_or, Bool.or_false, Bool.false_or]
    repeat' (simp only [bC, bO, bV, bF, bL, bFlt, bCall, bK, List.length_map, ra, rc, run132, Bool.or_true, Bool.true_or, Bool.or_false, Bool.false_or, Bool.not_true, Bool.not_false, Bool.not_not, *]; (try (simp only [grdK, cndK]; split)))
    all_goals (clear ra rc; simp_all)
  · simp only [p1, p2, Bool.or_true, Bool.true_or, Bool.or_false, Bool.false_or]
    repeat' (simp only [bC, bO, bV, bF, bL, bFlt, bCall, bK, List.length_map, ra, rc, run132, Bool.or_true, Bool.true_or, Bool.or_false, Bool.false_or, Bool.not_true, Bool.not_false, Bool.not_not, *]; (try (simp only [grdK, cndK]; split)))
    all_goals (clear ra rc; simp_all)
  · simp only [p1, p2, Bool.or_true, Bool.true_or, Bool.or_false, Bool.false_or]
    repeat' (simp only [bC, bO, bV, bF, bL, bFlt, bCall, bK, List.length_map, ra, rc, run132, Bool.or_true, Bool.true_or, Bool.or_false, Bool.false_or, Bool.not_true, Bool.not_false, Bool.not_not, *]; (try (simp only [grdK, cndK]; split)))
    all_goals (clear ra rc; simp_all)
end Go.Abs

/- Filters: how many, how deep, formed. -/
namespace Go.Abs
open Go Go.Proofs

/-- How many: 41 where they are more. -/
def nodes (f : Flt) : Int := min (f.size : Int) 41
mutual
def depth : Flt → Nat
  | .mk _ _ _ _ _ _ p => 1 + depths p
def depths : List Flt → Nat
  | [] => 0
  | p :: ps => max (depth p) (depths ps)
end
theorem depth_eq (f : Flt) : depth f = 1 + depths f.parts := by cases f; simp only [depth, Flt.parts]
theorem size_eq (f : Flt) : f.size = 1 + Flt.sizes f.parts := by cases f; simp only [Flt.size, Flt.parts]
theorem size_pos (f : Flt) : 1 ≤ f.size := by rw [size_eq]; omega

theorem loop22 (f : Flt) (hf : f.Ok) (H : ∀ i (hi : i < f.parts.length), TT 22 [.d (encF f.parts[i])] [] = some (.int .i64 (nodes f.parts[i]), [])) : ∀ (n i : Nat) (m : Int), n + i = f.parts.length → 1 ≤ m → m ≤ 81 →
    ∃ r : Int, DnB TT (.loop b22L0) [.bp 0 0, .d (.int .i64 m), .d (.int .i64 f.parts.length), .d (.int .i64 i)] [fbox f] [] = some (.ex 0, [.d (.int .i64 r)], [fbox f], []) ∧ min r 41 = min (m + Flt.sizes (f.parts.drop i)) 41
  | 0, i, m, hi, _, _ => by
    have : ¬ ((i : Int) < (f.parts.length : Int)) := by omega
    have h2 : f.parts.drop i = [] := List.drop_eq_nil_of_le (by omega)
    refine ⟨m, ?_, by simp [h2, Flt.sizes]⟩
    rw [L_loopU b22L0_eq]
    simp only [b22B0]
    simp only [bC, bO, bV, bF, this, decide_false]
  | n + 1, i, m, hi, hm, hm' => by
    have h1 : ((i : Int) < (f.parts.length : Int)) := by omega
    have h1' : i < f.parts.length := by omega
    have hw := wrap_inc h1' hf.parts
    have hr := H i h1'
    have hp := size_pos f.parts[i]
    rw [List.drop_eq_getElem_cons h1', Flt.sizes]
    by_cases h40 : (40 : Int) < m
    · refine ⟨m, ?_, by omega⟩
      rw [L_loopU b22L0_eq]
      simp only [b22B0]
      simp only [bC, bO, bV, bF, bFlt, h1, decide_true, h40]
      rfl
    · have hn : nodes f.parts[i] = min (f.parts[i].size : Int) 41 := rfl
      have hadd : IntKind.i64.wrap (m + nodes f.parts[i]) = m + nodes f.parts[i] := wrap_s (by omega)
      obtain ⟨r, h3, h4⟩ := loop22 f hf H n (i + 1) (m + nodes f.parts[i]) (by omega) (by omega) (by omega)
      refine ⟨r, ?_, by rw [h4]; omega⟩
      rw [L_loopU b22L0_eq]
      simp only [b22B0]
      simp only [bC, bO, bV, bF, bL, bFlt, ia_map h1', hr, bCall, bK, h1, decide_true, h40, decide_false, hadd, hw, h3]

theorem run22 : ∀ (k : Nat) (f : Flt), f.size ≤ k → f.Ok → TT 22 [.d (encF f)] [] = some (.int .i64 (nodes f), [])
  | 0, f, hk, _ => by cases f; simp [Flt.size] at hk
  | k + 1, f, hk, hf => by
    obtain ⟨r, H, hr⟩ := loop22 f hf (fun i hi => run22 k _ (by have := Flt.size_part hi; omega) (hf.part hi)) f.parts.length 0 1 rfl (by omega) (by omega)
    have H : DnB TT (.loop b22L0) [.bp 0 0, .d (.int .i64 1), .d (.int .i64 f.parts.length), .d (.int .i64 0)] [fbox f] [] = _ := H
    rw [List.drop_zero] at hr
    have hs := size_eq f
    refine ok22.run ?_
    simp only [b22]
    simp only [bC, bO, bV, bF, bL, bM, bFlt, bCall, bK, List.length_map, H, List.length_nil]
    rw [show nodes f = min r 41 by rw [hr, nodes, hs]; congr 1]

theorem loop46 (f : Flt) (hf : f.Ok) (q : Nat) (hq : q ≤ 20) (H : ∀ i (hi : i < f.parts.length), TT 46 [.d (encF f.parts[i]), .d (.int .i64 q)] [] = some (.int .i64 (min (depth f.parts[i] : Int) (q + 1)), [])) : ∀ (n i : Nat) (m : Int), n + i = f.parts.length →
    DnB TT (.loop b46L0) [.d (.int .i64 (q + 1 : Nat)), .bp 0 0, .d (.int .i64 m), .d (.int .i64 f.parts.length), .d (.int .i64 i)] [fbox f] [] = some (.ex 0, [.d (.int .i64 (if f.parts.drop i = [] then m else max m (min (depths (f.parts.drop i) : Int) (q + 1))))], [fbox f], [])
  | 0, i, m, hi => by
    have : ¬ ((i : Int) < (f.parts.length : Int)) := by omega
    have h2 : f.parts.drop i = [] := List.drop_eq_nil_of_le (by omega)
    rw [L_loopU b46L0_eq]
    simp only [b46B0]
    simp only [bC, bO, bV, bF, this, decide_false, h2, if_true]
  | n + 1, i, m, hi => by
    have h1 : ((i : Int) < (f.parts.length : Int)) := by omega
    have h1' : i < f.parts.length := by omega
    have hw := wrap_inc h1' hf.parts
    have hr := H i h1'
    have hsub : IntKind.i64.wrap (((q + 1 : Nat) : Int) - 1) = (q : Int) := by rw [wrap_s (by omega)]; omega
    have ih := loop46 f hf q hq H n (i + 1) (max m (min (depth f.parts[i] : Int) (q + 1))) (by omega)
    have e := List.drop_eq_getElem_cons h1'
    have key : (if f.parts.drop (i + 1) = [] then max m (min (depth f.parts[i] : Int) (q + 1)) else max (max m (min (depth f.parts[i] : Int) (q + 1))) (min (depths (f.parts.drop (i + 1)) : Int) (q + 1))) = (if f.parts.drop i = [] then m else max m (min (depths (f.parts.drop i) : Int) (q + 1))) := by
      rw [e, if_neg (List.cons_ne_nil _ _), depths]
      split
      · rename_i h; rw [h, depths]; omega
      · omega
    rw [key] at ih
    rw [L_loopU b46L0_eq]
    simp only [b46B0]
    simp only [bC, bO, bV, bF, bL, bM, bFlt, ia_map h1', hr, bCall, bK, h1, decide_true, hsub, hw, ih]

theorem run46 : ∀ (q : Nat) (f : Flt), q ≤ 20 → f.Ok → TT 46 [.d (encF f), .d (.int .i64 q)] [] = some (.int .i64 (min (depth f : Int) (q + 1)), [])
  | 0, f, _, _ => by
    refine ok46.run ?_
    simp only [b46]
    have h : (((0 : Nat) : Int) == 0) = true := rfl
    have hd := depth_eq f
    simp only [bC, bO, bV, bF, bL, bM, bFlt, h, List.length_nil]
    congr 3
    omega
  | q + 1, f, hq, hf => by
    have H := loop46 f hf q (by omega) (fun i hi => run46 q _ (by omega) (hf.part hi)) f.parts.length 0 0 rfl
    have H : DnB TT (.loop b46L0) [.d (.int .i64 (q + 1 : Nat)), .bp 0 0, .d (.int .i64 0), .d (.int .i64 f.parts.length), .d (.int .i64 0)] [fbox f] [] = _ := H
    rw [List.drop_zero] at H
    have h : (((q + 1 : Nat) : Int) == 0) = false := by simp; omega
    have hd := depth_eq f
    refine ok46.run ?_
    simp only [b46]
    generalize hx : (if f.parts = [] then (0 : Int) else max 0 (min (depths f.parts : Int) (q + 1))) = x at H
    have hx' : x = min (depths f.parts : Int) (q + 1) := by
      rw [← hx]
      split
      · rename_i h; rw [h, depths]; omega
      · omega
    have hw : IntKind.i64.wrap (x + 1) = x + 1 := wrap_s (by omega)
    simp only [bC, bO, bV, bF, bL, bM, bFlt, bCall, bK, h, List.length_map, H, List.length_nil, hw]
    congr 3
    omega

def formedF (f : Flt) : Bool := decide (nodes f ≤ 40) && decide (depth f ≤ 20) && allB f

theorem run20 (f : Flt) (hf : f.Ok) : TT 20 [.d (encF f)] [] = some (.bool (formedF f), []) := by
  have h1 := run22 f.size f (Nat.le_refl _) hf
  have h2 : TT 46 [.d (encF f), .d (.int .i64 20)] [] = _ := run46 20 f (by omega) hf
  have h3 := run47 f.size f (Nat.le_refl _) hf
  have h4 : decide (depth f ≤ 20) = decide (min (depth f : Int) ((20 : Nat) + 1) ≤ 20) := by
    rw [Bool.eq_iff_iff]; simp only [decide_eq_true_eq]; omega
  refine ok20.run ?_
  simp only [b20, formedF, h4]
  repeat' (simp only [bC, bO, bV, bF, bL, bM, bFlt, bCall, bK, h1, h2, h3, List.length_nil, *]; (try (simp only [grdK, cndK]; split)))
  all_goals (clear h1 h2 h3; simp_all)
end Go.Abs

/- The package's filters: formed. -/
namespace Go.Abs
open Go Go.Proofs

theorem f_st1 {x : Box} {a b c d e g h : DV} {tau : List Nat} (p : Flt) : stK 7 [x, .cells ([a, b, c, d, e, g, h].map .d)] tau (.bp 1 0) (.d (encF p)) = some (.junk, [x, fbox p], tau) := by
  unfold fbox; rw [encF_eq]; rfl

theorem loop42 (f : Flt) (hf : f.Ok) (d : Nat) (hd : d ≤ 20) (H : ∀ i (hi : i < f.parts.length), TT 42 [.d (encF f.parts[i]), .d (.int .i64 (d + 1 : Nat))] [] = some (.bool (decide (d + 1 + depth f.parts[i] ≤ 21) && allB f.parts[i]), [])) : ∀ (n i : Nat), n + i = f.parts.length →
    DnB TT (.loop b42L0) [.d (.int .i64 d), .d (slc 7 (f.parts.map encF)), .d (.int .i64 f.parts.length), .d (.int .i64 i)] [fbox f] [] = if (f.parts.drop i).all (fun p => decide (d + 1 + depth p ≤ 21) && allB p) then some (.ex 0, [], [fbox f], []) else some (.rt, [.d (.bool false)], [fbox f, fbox ((f.parts.drop i).find? (fun p => !(decide (d + 1 + depth p ≤ 21) && allB p)) |>.getD f)], [])
  | 0, i, hi => by
    have : ¬ ((i : Int) < (f.parts.length : Int)) := by omega
    have h2 : f.parts.drop i = [] := List.drop_eq_nil_of_le (by omega)
    rw [L_loopU b42L0_eq]
    simp only [b42B0]
    simp only [bC, bO, bV, bF, this, decide_false, h2, List.all_nil, if_true]
  | n + 1, i, hi => by
    have h1 : ((i : Int) < (f.parts.length : Int)) := by omega
    have h1' : i < f.parts.length := by omega
    have hw := wrap_inc h1' hf.parts
    have hr := H i h1'
    have ih := loop42 f hf d hd H n (i + 1) (by omega)
    have hadd : IntKind.i64.wrap ((d : Int) + 1) = ((d + 1 : Nat) : Int) := by rw [wrap_s (by omega)]; omega
    have e := List.drop_eq_getElem_cons h1'
    rw [e, List.all_cons, List.find?_cons]
    rw [L_loopU b42L0_eq]
    simp only [b42B0]
    simp only [bC, bO, bV, bF, bL, bM, bFlt, f_st1, ia_map h1', hr, bCall, bK, h1, decide_true, hadd]
    cases hc : (decide (d + 1 + depth f.parts[i] ≤ 21) && allB f.parts[i]) <;> simp only [bC, bO, bV, bF, bL, bM, bFlt, hw, ih, Bool.not_true, Bool.not_false, Bool.false_and, Bool.true_and, Bool.false_eq_true, if_false, Option.getD_some]

theorem allBs_all : ∀ l, allBs l = l.all allB
  | [] => rfl
  | p :: ps => by simp only [allBs, List.all_cons, allBs_all ps]
theorem all_depth (d : Nat) : ∀ l : List Flt, l ≠ [] → l.all (fun p => decide (d + 1 + depth p ≤ 21) && allB p) = (decide (d + 1 + depths l ≤ 21) && allBs l)
  | [], h => (h rfl).elim
  | [p], _ => by simp [depths, allBs]
  | p :: q :: l, _ => by
    have ih := all_depth d (q :: l) (by simp)
    rw [List.all_cons, ih]
    rw [Bool.eq_iff_iff]
    simp only [depths, allBs]
    have hm : (d + 1 + max (depth p) (max (depth q) (depths l)) ≤ 21) ↔ (d + 1 + depth p ≤ 21 ∧ d + 1 + max (depth q) (depths l) ≤ 21) := by omega
    simp only [Bool.and_eq_true, decide_eq_true_eq, hm]
    constructor
    · rintro ⟨⟨h1, h2⟩, h3, h4⟩; exact ⟨⟨h1, of_decide_eq_true h3⟩, h2, h4⟩
    · rintro ⟨⟨h1, h3⟩, h2, h4⟩; exact ⟨⟨h1, h2⟩, decide_eq_true h3, h4⟩

theorem run42 : ∀ (k d : Nat) (f : Flt), k + d = 21 → f.Ok → TT 42 [.d (encF f), .d (.int .i64 d)] [] = some (.bool (decide (d + depth f ≤ 21) && allB f), [])
  | 0, d, f, hk, _ => by
    have hd := depth_eq f
    have h1 : ((20 : Int) < (d : Int)) := by omega
    have h2 : ¬ (d + depth f ≤ 21) := by omega
    refine ok42.run ?_
    simp only [b42]
    simp only [bC, bO, bV, bF, bL, bM, bFlt, h1, h2, decide_true, decide_false, List.length_nil, Bool.false_and]
  | k + 1, d, f, hk, hf => by
    have hd := depth_eq f
    have h1 : ¬ ((20 : Int) < (d : Int)) := by omega
    have H := loop42 f hf d (by omega) (fun i hi => run42 k (d + 1) _ (by omega) (hf.part hi)) f.parts.length 0 rfl
    have H : DnB TT (.loop b42L0) [.d (.int .i64 d), .d (slc 7 (f.parts.map encF)), .d (.int .i64 f.parts.length), .d (.int .i64 0)] [fbox f] [] = _ := H
    rw [List.drop_zero] at H
    have ho := run84 f hf.attr hf.any
    refine ok42.run ?_
    have key : (decide (d + depth f ≤ 21) && allB f) = (bare f && f.parts.all (fun p => decide (d + 1 + depth p ≤ 21) && allB p)) := by
      rw [allB_eq]
      by_cases hp : f.parts = []
      · rw [hp] at hd ⊢
        have : d + depth f ≤ 21 := by rw [hd, depths]; omega
        simp [this, allBs]
      · rw [all_depth d _ hp, hd]
        rw [show d + (1 + depths f.parts) = d + 1 + depths f.parts by omega]
        cases bare f <;> cases allBs f.parts <;> simp
    rw [key]
    simp only [b42]
    simp only [bC, bO, bV, bF, bL, bM, bFlt, bCall, bK, h1, ho, decide_false]
    cases bare f <;> simp only [bC, bO, bV, bF, bL, bM, bFlt, bCall, bK, List.length_map, List.length_nil, H, Bool.not_true, Bool.not_false, Bool.false_and, Bool.true_and]
    cases f.parts.all (fun p => decide (d + 1 + depth p ≤ 21) && allB p) <;> simp only [bC, bF, Bool.false_eq_true, if_false, if_true]

theorem loop21 (f : Flt) (hf : f.Ok) (H : ∀ i (hi : i < f.parts.length), TT 21 [.d (encF f.parts[i])] [] = some (.int .i64 (nodes f.parts[i]), [])) : ∀ (n i : Nat) (m : Int), n + i = f.parts.length → 1 ≤ m → m ≤ 40 →
    (∃ x, 41 ≤ m + Flt.sizes (f.parts.drop i) ∧ DnB TT (.loop b21L0) [.d (.int .i64 m), .d (slc 7 (f.parts.map encF)), .d (.int .i64 f.parts.length), .d (.int .i64 i)] [fbox f] [] = some (.rt, [.d (.int .i64 41)], [fbox f, x], [])) ∨
    (m + Flt.sizes (f.parts.drop i) ≤ 40 ∧ DnB TT (.loop b21L0) [.d (.int .i64 m), .d (slc 7 (f.parts.map encF)), .d (.int .i64 f.parts.length), .d (.int .i64 i)] [fbox f] [] = some (.ex 0, [.d (.int .i64 (m + Flt.sizes (f.parts.drop i)))], [fbox f], []))
  | 0, i, m, hi, _, _ => by
    have : ¬ ((i : Int) < (f.parts.length : Int)) := by omega
    have h2 : f.parts.drop i = [] := List.drop_eq_nil_of_le (by omega)
    right
    rw [h2, Flt.sizes]
    refine ⟨by omega, ?_⟩
    rw [L_loopU b21L0_eq]
    simp only [b21B0]
    simp only [bC, bO, bV, bF, this, decide_false]
    rw [show m + ((0 : Nat) : Int) = m by omega]
  | n + 1, i, m, hi, hm, hm' => by
    have h1 : ((i : Int) < (f.parts.length : Int)) := by omega
    have h1' : i < f.parts.length := by omega
    have hw := wrap_inc h1' hf.parts
    have hr := H i h1'
    have hp := size_pos f.parts[i]
    have hn : nodes f.parts[i] = min (f.parts[i].size : Int) 41 := rfl
    have hadd : IntKind.i64.wrap (m + nodes f.parts[i]) = m + nodes f.parts[i] := wrap_s (by omega)
    rw [List.drop_eq_getElem_cons h1', Flt.sizes]
    rw [L_loopU b21L0_eq]
    simp only [b21B0]
    simp only [bC, bO, bV, bF, bL, bM, bFlt, f_st1, ia_map h1', hr, bCall, bK, h1, decide_true, hadd]
    by_cases h40 : (40 : Int) < m + nodes f.parts[i]
    · left
      refine ⟨fbox f.parts[i], by omega, ?_⟩
      simp only [bC, bO, bV, bF, bL, bM, bFlt, h40, decide_true]
    · have ih := loop21 f hf H n (i + 1) (m + nodes f.parts[i]) (by omega) (by omega) (by omega)
      simp only [bC, bO, bV, bF, bL, bM, bFlt, h40, decide_false, hw]
      rcases ih with ⟨x, h2, h3⟩ | ⟨h2, h3⟩
      · left
        exact ⟨x, by omega, h3⟩
      · right
        refine ⟨by omega, ?_⟩
        rw [h3]
        congr 6
        omega

theorem run21 : ∀ (k : Nat) (f : Flt), f.size ≤ k → f.Ok → TT 21 [.d (encF f)] [] = some (.int .i64 (nodes f), [])
  | 0, f, hk, _ => by cases f; simp [Flt.size] at hk
  | k + 1, f, hk, hf => by
    have H := loop21 f hf (fun i hi => run21 k _ (by have := Flt.size_part hi; omega) (hf.part hi)) f.parts.length 0 1 rfl (by omega) (by omega)
    rw [List.drop_zero] at H
    have hs := size_eq f
    refine ok21.run ?_
    simp only [b21]
    rcases H with ⟨x, h2, h3⟩ | ⟨h2, h3⟩
    · have h3 : DnB TT (.loop b21L0) [.d (.int .i64 1), .d (slc 7 (f.parts.map encF)), .d (.int .i64 f.parts.length), .d (.int .i64 0)] [fbox f] [] = _ := h3
      simp only [bC, bO, bV, bF, bL, bM, bFlt, bCall, bK, List.length_map, h3, List.length_nil]
      rw [show nodes f = 41 by simp only [nodes]; omega]
    · have h3 : DnB TT (.loop b21L0) [.d (.int .i64 1), .d (slc 7 (f.parts.map encF)), .d (.int .i64 f.parts.length), .d (.int .i64 0)] [fbox f] [] = _ := h3
      simp only [bC, bO, bV, bF, bL, bM, bFlt, bCall, bK, List.length_map, h3, List.length_nil]
      rw [show nodes f = 1 + (Flt.sizes f.parts : Int) by simp only [nodes]; omega]

theorem run17 (f : Flt) (hf : f.Ok) : TT 17 [.d (encF f)] [] = some (.bool (formedF f), []) := by
  have h1 := run21 f.size f (Nat.le_refl _) hf
  have h2 : TT 42 [.d (encF f), .d (.int .i64 1)] [] = _ := run42 20 1 f (by omega) hf
  have h4 : decide (depth f ≤ 20) = decide (1 + depth f ≤ 21) := by
    rw [Bool.eq_iff_iff]; simp only [decide_eq_true_eq]; omega
  refine ok17.run ?_
  simp only [b17, formedF, h4]
  repeat' (simp only [bC, bO, bV, bF, bL, bM, bFlt, bCall, bK, h1, h2, List.length_nil, *]; (try (simp only [grdK, cndK]; split)))
  all_goals (clear h1 h2; simp_all)
end Go.Abs
