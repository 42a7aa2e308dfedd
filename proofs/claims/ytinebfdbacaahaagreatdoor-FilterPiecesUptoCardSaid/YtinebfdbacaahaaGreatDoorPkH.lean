/- Part PkH of the proof: CodB FunN PrimG PrimH LevA. -/
import Derived.Test.YtinebfdbacaahaaGreatDoorPkC
import Derived.Test.YtinebfdbacaahaaGreatDoorChecked
import Derived.Test.YtinebfdbacaahaaGreatDoorPkG
import Derived.Test.YtinebfdbacaahaaGreatDoorPkE
import Derived.Handy
set_option linter.unusedSimpArgs false
set_option linter.unusedVariables false
set_option linter.unusedSectionVars false
set_option linter.unnecessarySimpa false

/- The program's functions in the second form: written by wip/tools/PrintB.lean. -/
namespace Go.Abs
open Go Go.Proofs
/- 142: verger/filter.unescape, 1 -/
def b142B0 : BC :=
  .seq (.seq (.seq (.ins [⟨none, .lenS (.t 0)⟩, ⟨none, .bin .lss (.t 2) (.t 3)⟩]) <|
  .cond (.t 4) (.skip) (.exit 0 [.t 1])) <|
  .seq (.block 1 (.seq (.seq (.ins [⟨none, .ixs (.t 0) (.t 2)⟩]) <|
  .block 2 (.seq (.seq (.ins [⟨none, .bin .eql (.t 5) (.d (.int .u8 92))⟩, ⟨some (6, true), .mv (.t 2)⟩, ⟨some (6, true), .bin .add (.t 7) (.d (.int .i64 2))⟩, ⟨some (6, true), .mv (.t 0)⟩, ⟨some (6, true), .lenS (.t 9)⟩, ⟨some (6, true), .bin .lss (.t 8) (.t 10)⟩, ⟨none, .pick (.t 6) (.t 11) (.d (.bool false))⟩, ⟨some (12, true), .mv (.t 0)⟩, ⟨some (12, true), .mv (.t 2)⟩, ⟨some (12, true), .bin .add (.t 14) (.d (.int .i64 1))⟩, ⟨some (12, true), .ixs (.t 13) (.t 15)⟩, ⟨some (12, true), .call false 183 [.t 16]⟩, ⟨some (12, true), .bin .geq (.t 17) (.d (.int .i64 0))⟩, ⟨none, .pick (.t 12) (.t 18) (.d (.bool false))⟩, ⟨some (19, true), .mv (.t 0)⟩, ⟨some (19, true), .mv (.t 2)⟩, ⟨some (19, true), .bin .add (.t 21) (.d (.int .i64 2))⟩, ⟨some (19, true), .ixs (.t 20) (.t 22)⟩, ⟨some (19, true), .call false 183 [.t 23]⟩, ⟨some (19, true), .bin .geq (.t 24) (.d (.int .i64 0))⟩, ⟨none, .pick (.t 19) (.t 25) (.d (.bool false))⟩]) <|
  .cond (.t 26) (.seq (.seq (.ins [⟨none, .bin .add (.t 2) (.d (.int .i64 1))⟩, ⟨none, .ixs (.t 0) (.t 27)⟩, ⟨none, .call true 183 [.t 28]⟩, ⟨none, .bin .shl (.t 29) (.d (.int .u64 4))⟩, ⟨none, .bin .add (.t 2) (.d (.int .i64 2))⟩, ⟨none, .ixs (.t 0) (.t 31)⟩, ⟨none, .call true 183 [.t 32]⟩, ⟨none, .bin .or (.t 30) (.t 33)⟩, ⟨none, .conv (.int .u8) (.t 34)⟩, ⟨none, .call false 85 [.t 1, .t 35]⟩]) <|
  .ins [⟨none, .bin .add (.t 2) (.d (.int .i64 2))⟩]) <|
  .foc [.t 0, .t 1, .t 37]) (.seq (.seq (.ins [⟨none, .bin .lss (.t 5) (.d (.int .u8 32))⟩, ⟨some (27, false), .mv (.t 5)⟩, ⟨some (27, false), .bin .gtr (.t 28) (.d (.int .u8 126))⟩, ⟨none, .pick (.t 27) (.d (.bool true)) (.t 29)⟩, ⟨some (30, false), .mv (.t 5)⟩, ⟨some (30, false), .call false 93 [.d (.str [42, 40, 41, 92]), .t 31]⟩, ⟨some (30, false), .bin .geq (.t 32) (.d (.int .i64 0))⟩, ⟨none, .pick (.t 30) (.d (.bool true)) (.t 33)⟩]) <|
  .cond (.t 34) (.seq (.ins []) <|
  .ret [.d (.str []), .d (.bool false)]) (.ins [⟨none, .call false 85 [.t 1, .t 5]⟩])) <|
  .foc [.t 0, .t 1, .t 2])) <|
  .foc [.t 0, .t 1, .t 2])) <|
  .foc [.t 0, .t 1, .t 2])) <|
  .ins [⟨none, .bin .add (.t 2) (.d (.int .i64 1))⟩]) <|
  .foc [.t 0, .t 1, .t 3]
def b142L0 : BC := b142B0
theorem b142L0_eq : b142L0 = b142B0 := rfl

def b142 : BFun := ⟨[.t 0, .t 1],
  .seq (.ins []) <|
  .seq (.ins [⟨none, .allocB⟩]) <|
  .seq (.seq (.ins []) <|
  .block 0 (.seq (.foc [.t 0, .t 1, .d (.int .i64 0)]) <|
  .loop b142L0)) <|
  .seq (.ins [⟨none, .call false 44 [.t 0]⟩]) <|
  .ret [.t 1, .d (.bool true)]⟩
theorem ok142 : Code2 Tryz.prog prims 142 1 b142 := Code2.mk' rfl Tryz.func142 (by kernel_rfl) (by kernel_rfl)

/- 183: verger/filter.digit, 1 -/
def b183 : BFun := ⟨[.t 0],
  .seq (.ins []) <|
  .seq (.ins [⟨none, .mks none 1 1 [.int .u8 0] [(0, (.t 0))]⟩, ⟨none, .conv .bs (.t 1)⟩, ⟨none, .call false 123 [.t 2]⟩, ⟨none, .ixs (.t 3) (.d (.int .i64 0))⟩, ⟨none, .call false 93 [.d (.str [48, 49, 50, 51, 52, 53, 54, 55, 56, 57, 97, 98, 99, 100, 101, 102]), .t 4]⟩]) <|
  .ret [.t 5]⟩
theorem ok183 : Code2 Tryz.prog prims 183 1 b183 := Code2.mk' rfl Tryz.func183 (by kernel_rfl) (by kernel_rfl)

end Go.Abs

/- unescape, digit. -/
namespace Go.Abs
open Go Go.Proofs

def hexS : List UInt8 := [48, 49, 50, 51, 52, 53, 54, 55, 56, 57, 97, 98, 99, 100, 101, 102]
/-- A digit's number, or -1. -/
def digV (c : UInt8) : Int := idxByte (lowC c) hexS 0
def digAt (s : List UInt8) (j : Nat) : Int := match s[j]? with | some c => digV c | none => -1
def hexB (a b : Int) : UInt8 := UInt8.ofNat (a.toNat * 16 + b.toNat)
/-- What may stand for itself. -/
def plainC (c : UInt8) : Bool := !(decide (c < 32) || decide (126 < c) || c == 42 || c == 40 || c == 41 || c == 92)
/-- What a text means: the first of its bytes are passed over. -/
def unescS : Nat → List UInt8 → Option (List UInt8)
  | _, [] => some []
  | k + 1, _ :: s => unescS k s
  | 0, c :: s => if c = 92 ∧ 0 ≤ digAt s 0 ∧ 0 ≤ digAt s 1 then (unescS 2 s).map (hexB (digAt s 0) (digAt s 1) :: ·) else if plainC c then (unescS 0 s).map (c :: ·) else none
def unesc (s : List UInt8) : List UInt8 × Bool := match unescS 0 s with | some r => (r, true) | none => ([], false)

theorem digV_lt (c : UInt8) : -1 ≤ digV c ∧ digV c < 16 := by
  have : ∀ n : Fin 256, -1 ≤ digV (UInt8.ofNat n.val) ∧ digV (UInt8.ofNat n.val) < 16 := by decide +kernel
  exact all_u8 (p := fun c => -1 ≤ digV c ∧ digV c < 16) this c
theorem run123 (s : List UInt8) (hs : s.length ≤ 1073741824) : TT 123 [.d (.str s)] [] = some (.str (lowS s), []) := by
  refine Run_prim (T := Tab.of Tryz.prog prims) rfl ?_
  simp only [pLower]
  rw [if_pos (show s.length ≤ maxLenN from hs)]
theorem run183 (c : UInt8) : TT 183 [.d (.int .u8 c.toNat)] [] = some (.int .i64 (digV c), []) := by
  refine ok183.run ?_
  have r1 : ∀ {bs tau}, evCall TT false 123 [.d (.str [c])] bs tau = some (.d (.str [lowC c]), bs, tau) := by
    intros; simp only [bK, bCall, bF, run123 [c] (by simp), lowS, List.map_cons, List.map_nil]
  have r2 : ∀ {bs tau}, evCall TT false 93 [.d (.str [48, 49, 50, 51, 52, 53, 54, 55, 56, 57, 97, 98, 99, 100, 101, 102]), .d (.int .u8 (lowC c).toNat)] bs tau = some (.d (.int .i64 (digV c)), bs, tau) := by
    intros; simp only [bK, bCall, bF, run93 [48, 49, 50, 51, 52, 53, 54, 55, 56, 57, 97, 98, 99, 100, 101, 102] (by simp), digV, hexS]
  have cv : ∀ bs tau, convK .bs bs tau (.d (.slice 1 (bytesD [c]))) = some (.d (.str [c]), bs, tau) := by
    intros
    simp only [convK, AV.dv, evConv, dBytes_bytesD, true_or, if_true, Option.map_some]
    rfl
  have ix : ∀ bs tau, ixsK bs tau (.d (.str [lowC c])) (.d (.int .i64 0)) = some (.d (.int .u8 (lowC c).toNat), bs, tau) := by intros; rfl
  simp only [b183]
  simp only [bC, bO, bV, bF, bM, R_mks, List.map_cons, List.map_nil, mks1, cv, r1, ix, r2, List.length_nil]

theorem or_hex {bs : List Box} {tau : List Nat} {a b : Int} (ha : 0 ≤ a ∧ a < 16) (hb : 0 ≤ b ∧ b < 16) : binK bs tau .or (.d (.int .i64 (16 * a))) (.d (.int .i64 b)) = some (.d (.int .i64 (16 * a + b)), bs, tau) := by
  have key : ∀ x y : Fin 16, IntKind.i64.wrap ((BitVec.ofInt 64 (16 * (x.val : Int)) ||| BitVec.ofInt 64 (y.val : Int)).toNat : Int) = 16 * (x.val : Int) + y.val := by decide +kernel
  have := key ⟨a.toNat, by omega⟩ ⟨b.toNat, by omega⟩
  simp only [binK, evBin, if_true, optDV]
  rw [show IntKind.i64.bits = 64 from rfl]
  simp only [Int.toNat_of_nonneg ha.1, Int.toNat_of_nonneg hb.1] at this
  rw [this]
theorem shl_hex {bs : List Box} {tau : List Nat} {a : Int} (ha : 0 ≤ a ∧ a < 16) : binK bs tau .shl (.d (.int .i64 a)) (.d (.int .u64 4)) = some (.d (.int .i64 (16 * a)), bs, tau) := by
  have key : ∀ x : Fin 16, IntKind.i64.wrap ((x.val : Int) * 2 ^ 4) = 16 * (x.val : Int) := by decide +kernel
  have := key ⟨a.toNat, by omega⟩
  simp only [Int.toNat_of_nonneg ha.1] at this
  simp only [binK, evBin, optDV]
  rw [if_neg (by decide), show (min (4 : Int).toNat IntKind.i64.bits) = 4 from rfl, this]

/-- How the loop of unescape ends. -/
def Un (out : List UInt8) (o : Option (List UInt8)) (x : Res) : Prop :=
  match o with
  | some r => x = some (.ex 0, [.bp 0 0], [.bld (out ++ r)], [])
  | none => ∃ l, x = some (.rt, [.d (.str []), .d (.bool false)], [.bld l], [])

theorem conv_hex {bs : List Box} {tau : List Nat} {a b : Int} (ha : 0 ≤ a ∧ a < 16) (hb : 0 ≤ b ∧ b < 16) : convK (.int .u8) bs tau (.d (.int .i64 (16 * a + b))) = some (.d (.int .u8 (hexB a b).toNat), bs, tau) := by
  have key : ∀ x y : Fin 16, IntKind.u8.wrap (16 * (x.val : Int) + y.val) = ((hexB x.val y.val).toNat : Int) := by decide +kernel
  have := key ⟨a.toNat, by omega⟩ ⟨b.toNat, by omega⟩
  simp only [Int.toNat_of_nonneg ha.1, Int.toNat_of_nonneg hb.1] at this
  simp only [convK, AV.dv, evConv, this]
  rfl
theorem c92 : (((92 : UInt8).toNat : Int) == 92) = true := by decide
theorem l32 : ¬ (((92 : UInt8).toNat : Int) < 32) := by decide
theorem l126 : ¬ ((126 : Int) < ((92 : UInt8).toNat : Int)) := by decide
theorem l0 : (0 : Int) ≤ idxByte 92 [42, 40, 41, 92] 0 := by decide
theorem Un_cons {out : List UInt8} {c : UInt8} {o : Option (List UInt8)} {x : Res} (h : Un (out ++ [c]) o x) : Un out (o.map (c :: ·)) x := by
  cases o with
  | none => exact h
  | some r => simpa [Un] using h
theorem plain_eq (c : UInt8) : plainC c = !(decide ((c.toNat : Int) < 32) || decide ((126 : Int) < c.toNat) || decide ((0 : Int) ≤ idxByte c [42, 40, 41, 92] 0)) := by
  revert c; exact all_u8 (by decide +kernel)

theorem loop142 (s : List UInt8) (hs : s.length ≤ 300000000) : ∀ (n i : Nat) (out : List UInt8), s.length ≤ n + i → out.length ≤ i → Un out (unescS 0 (s.drop i)) (DnB TT (.loop b142L0) [.d (.str s), .bp 0 0, .d (.int .i64 i)] [.bld out] []) := by
  intro n
  induction n with
  | zero =>
    intro i out hi ho
    have : ¬ ((i : Int) < (s.length : Int)) := by omega
    have h2 : s.drop i = [] := List.drop_eq_nil_of_le (by omega)
    rw [h2]
    simp only [unescS, Un, List.append_nil]
    rw [L_loopU b142L0_eq]
    simp only [b142B0]
    simp only [bC, bO, bV, bF, this, decide_false]
  | succ n ih =>
    intro i out hi ho
    by_cases h1' : i < s.length
    case neg =>
      have : ¬ ((i : Int) < (s.length : Int)) := by omega
      have h2 : s.drop i = [] := List.drop_eq_nil_of_le (by omega)
      rw [h2]
      simp only [unescS, Un, List.append_nil]
      rw [L_loopU b142L0_eq]
      simp only [b142B0]
      simp only [bC, bO, bV, bF, this, decide_false]
    case pos =>
      have h1 : ((i : Int) < (s.length : Int)) := by omega
      have hw := wrap_inc h1' (by omega)
      have hd : s.drop i = s[i] :: s.drop (i + 1) := List.drop_eq_getElem_cons h1'
      have wb : ∀ {c : UInt8} {r tau}, evCall TT false 85 [.bp 0 0, .d (.int .u8 c.toNat)] (.bld out :: r) tau = some (.d .nili, .bld (out ++ [c]) :: r, tau) := wb_byte (by simp only [maxLenN]; omega)
      have ix : ∀ bs tau, ixsK bs tau (.d (.str s)) (.d (.int .i64 i)) = some (.d (.int .u8 s[i].toNat), bs, tau) := fun bs tau => ix_ok h1'
      have ri : ∀ {bs tau}, evCall TT false 93 [.d (.str [42, 40, 41, 92]), .d (.int .u8 s[i].toNat)] bs tau = some (.d (.int .i64 (idxByte s[i] [42, 40, 41, 92] 0)), bs, tau) := by
        intros; simp only [bK, bCall, bF, run93 [42, 40, 41, 92] (by simp) s[i]]
      have r92 : ∀ {bs tau}, evCall TT false 93 [.d (.str [42, 40, 41, 92]), .d (.int .u8 (92 : UInt8).toNat)] bs tau = some (.d (.int .i64 (idxByte 92 [42, 40, 41, 92] 0)), bs, tau) := by
        intros; simp only [bK, bCall, bF, run93 [42, 40, 41, 92] (by simp) 92]
      by_cases hc : s[i] = 92
      · by_cases h2 : i + 2 < s.length
        · have e1 : digAt (s.drop (i + 1)) 0 = digV s[i + 1] := by simp [digAt, show i + 1 < s.length by omega]
          have e2 : digAt (s.drop (i + 1)) 1 = digV s[i + 2] := by simp [digAt, show i + 1 + 1 < s.length by omega]
          have hl : ((i + 2 : Nat) : Int) < (s.length : Int) := by omega
          have ix1 : ∀ bs tau, ixsK bs tau (.d (.str s)) (.d (.int .i64 (i + 1 : Nat))) = some (.d (.int .u8 s[i + 1].toNat), bs, tau) := fun bs tau => ix_ok (by omega)
          have ix2 : ∀ bs tau, ixsK bs tau (.d (.str s)) (.d (.int .i64 (i + 2 : Nat))) = some (.d (.int .u8 s[i + 2].toNat), bs, tau) := fun bs tau => ix_ok (by omega)
          have hw2 : IntKind.i64.wrap ((i : Int) + 2) = ((i + 2 : Nat) : Int) := by
            rw [wrap_s (by omega)]; omega
          have d1 : ∀ {pu bs tau}, evCall TT pu 183 [.d (.int .u8 s[i + 1].toNat)] bs tau = some (.d (.int .i64 (digV s[i + 1])), bs, tau) := by
            intros; simp only [bK, bCall, bF, run183]
          have d2 : ∀ {pu bs tau}, evCall TT pu 183 [.d (.int .u8 s[i + 2].toNat)] bs tau = some (.d (.int .i64 (digV s[i + 2])), bs, tau) := by
            intros; simp only [bK, bCall, bF, run183]
          rw [hd]
          unfold unescS
          rw [e1, e2]
          by_cases g1 : 0 ≤ digV s[i + 1]
          · by_cases g2 : 0 ≤ digV s[i + 2]
            · rw [if_pos ⟨hc, g1, g2⟩]
              have ih := ih (i + 3) (out ++ [hexB (digV s[i + 1]) (digV s[i + 2])]) (by omega) (by simp only [List.length_append, List.length_cons, List.length_nil]; omega)
              have ed : unescS 2 (s.drop (i + 1)) = unescS 0 (s.drop (i + 3)) := by
                rw [List.drop_eq_getElem_cons (show i + 1 < s.length by omega), List.drop_eq_getElem_cons (show i + 1 + 1 < s.length by omega)]
                rfl
              rw [ed]
              have so := shl_hex (bs := [.bld out]) (tau := []) ⟨g1, (digV_lt s[i + 1]).2⟩
              have oo := or_hex (bs := [.bld out]) (tau := []) ⟨g1, (digV_lt s[i + 1]).2⟩ ⟨g2, (digV_lt s[i + 2]).2⟩
              have co := conv_hex (bs := [.bld out]) (tau := []) ⟨g1, (digV_lt s[i + 1]).2⟩ ⟨g2, (digV_lt s[i + 2]).2⟩
              have hw3 := wrap_inc (show i + 2 < s.length by omega) (by omega)
              rw [L_loopU b142L0_eq]
              simp only [b142B0]
              simp only [bC, bO, bV, bF, bL, h1, hw, ix, ri, decide_true, decide_false, grdK, cndK, if_true, if_false, Bool.false_eq_true, Bool.true_eq_false, reduceIte, ix1, ix2, hl, d1, d2, g1, g2, hw2, hw3, so, oo, co, wb, c92, hc]
              exact Un_cons ih
            · rw [if_neg (fun h => g2 h.2.2), if_neg (by rw [hc]; decide)]
              rw [L_loopU b142L0_eq]
              simp only [b142B0]
              simp only [bC, bO, bV, bF, bL, h1, hw, ix, ri, decide_true, decide_false, grdK, cndK, if_true, if_false, Bool.false_eq_true, Bool.true_eq_false, reduceIte, ix1, ix2, hl, d1, d2, g1, g2, hw2, l32, l126, l0, c92, r92, hc]
              exact ⟨_, rfl⟩
          · rw [if_neg (fun h => g1 h.2.1), if_neg (by rw [hc]; decide)]
            rw [L_loopU b142L0_eq]
            simp only [b142B0]
            simp only [bC, bO, bV, bF, bL, h1, hw, ix, ri, decide_true, decide_false, grdK, cndK, if_true, if_false, Bool.false_eq_true, Bool.true_eq_false, reduceIte, ix1, ix2, hl, d1, d2, g1, hw2, l32, l126, l0, c92, r92, hc]
            exact ⟨_, rfl⟩
        · have e2 : digAt (s.drop (i + 1)) 1 = -1 := by simp [digAt, show ¬ i + 1 + 1 < s.length by omega]
          have hl : ¬ ((i + 2 : Nat) : Int) < (s.length : Int) := by omega
          have hw2 : IntKind.i64.wrap ((i : Int) + 2) = ((i + 2 : Nat) : Int) := by
            rw [wrap_s (by omega)]; omega
          rw [hd]
          unfold unescS
          rw [e2, if_neg (fun h => by have := h.2.2; omega), if_neg (by rw [hc]; decide)]
          rw [L_loopU b142L0_eq]
          simp only [b142B0]
          simp only [bC, bO, bV, bF, bL, h1, hw, ix, ri, decide_true, decide_false, grdK, cndK, if_true, if_false, Bool.false_eq_true, Bool.true_eq_false, reduceIte, hl, hw2, l32, l126, l0, c92, r92, hc]
          exact ⟨_, rfl⟩
      · have n92 : ((s[i].toNat : Int) == 92) = false := by
          have : s[i].toNat ≠ 92 := fun e => hc (by apply UInt8.toNat_inj.1; exact e)
          simp; omega
        rw [hd]
        unfold unescS
        rw [if_neg (fun h => hc h.1)]
        have ih := ih (i + 1) (out ++ [s[i]]) (by omega) (by simp only [List.length_append, List.length_cons, List.length_nil]; omega)
        rw [plain_eq]
        by_cases p1 : (s[i].toNat : Int) < 32
        · simp only [p1, decide_true, Bool.true_or, Bool.not_true, Bool.false_eq_true, if_false]
          rw [L_loopU b142L0_eq]
          simp only [b142B0]
          simp only [bC, bO, bV, bF, bL, h1, hw, ix, ri, decide_true, decide_false, grdK, cndK, if_true, if_false, Bool.false_eq_true, Bool.true_eq_false, reduceIte, p1, n92]
          exact ⟨_, rfl⟩
        · by_cases p2 : (126 : Int) < s[i].toNat
          · simp only [p1, p2, decide_true, Bool.true_or, Bool.or_true, Bool.not_true, Bool.false_eq_true, if_false]
            rw [L_loopU b142L0_eq]
            simp only [b142B0]
            simp only [bC, bO, bV, bF, bL, h1, hw, ix, ri, decide_true, decide_false, grdK, cndK, if_true, if_false, Bool.false_eq_true, Bool.true_eq_false, reduceIte, p1, p2, n92]
            exact ⟨_, rfl⟩
          · by_cases p3 : (0 : Int) ≤ idxByte s[i] [42, 40, 41, 92] 0
            · simp only [p1, p2, p3, decide_true, Bool.true_or, Bool.or_true, Bool.not_true, Bool.false_eq_true, if_false]
              rw [L_loopU b142L0_eq]
              simp only [b142B0]
              simp only [bC, bO, bV, bF, bL, h1, hw, ix, ri, decide_true, decide_false, grdK, cndK, if_true, if_false, Bool.false_eq_true, Bool.true_eq_false, reduceIte, p1, p2, p3, n92]
              exact ⟨_, rfl⟩
            · simp only [p1, p2, p3, decide_false, Bool.or_false, Bool.not_false, if_true]
              rw [L_loopU b142L0_eq]
              simp only [b142B0]
              simp only [bC, bO, bV, bF, bL, h1, hw, ix, ri, decide_true, decide_false, grdK, cndK, if_true, if_false, Bool.false_eq_true, Bool.true_eq_false, reduceIte, p1, p2, p3, n92, wb]
              exact Un_cons ih

theorem run142 (s : List UInt8) (hs : s.length ≤ 300000000) : TT 142 [.d (.str s)] [] = some (.tup [.str (unesc s).1, .bool (unesc s).2], []) := by
  refine ok142.run ?_
  have lp := loop142 s hs s.length 0 [] (by omega) (by simp)
  have lp : Un [] (unescS 0 s) (DnB TT (.loop b142L0) [.d (.str s), .bp 0 0, .d (.int .i64 0)] [.bld []] []) := lp
  unfold unesc
  cases hu : unescS 0 s with
  | none =>
    rw [hu] at lp
    obtain ⟨l, lp⟩ := lp
    simp only [b142]
    simp only [bC, bO, bV, bF, bL, lp, List.length_nil]
    rfl
  | some r =>
    rw [hu] at lp
    have lp : DnB TT (.loop b142L0) [.d (.str s), .bp 0 0, .d (.int .i64 0)] [.bld []] [] = some (.ex 0, [.bp 0 0], [.bld r], []) := lp
    have w : ∀ {r' tau}, evCall TT false 44 [.bp 0 0] (.bld r :: r') tau = some (.d (.str r), .cells [.d .any, .d .any] :: r', tau) := wb_out
    simp only [b142]
    simp only [bC, bO, bV, bF, bL, lp, w, List.length_nil]
    rfl
theorem unesc_len (s : List UInt8) : (unesc s).1.length ≤ s.length := by
  have key : ∀ (l : List UInt8) (k : Nat) (r : List UInt8), unescS k l = some r → r.length ≤ l.length := by
    intro l
    induction l with
    | nil => intro k r h; cases k <;> (simp [unescS] at h; subst h; simp)
    | cons c l ih =>
      intro k r h
      cases k with
      | zero =>
        unfold unescS at h
        split at h
        · obtain ⟨q, h1, rfl⟩ := Option.map_eq_some_iff.1 h
          have := ih _ _ h1
          simp; omega
        · split at h
          · obtain ⟨q, h1, rfl⟩ := Option.map_eq_some_iff.1 h
            have := ih _ _ h1
            simp; omega
          · cases h
      | succ k =>
        have := ih k r h
        simp; omega
  unfold unesc
  cases h : unescS 0 s with
  | none => simp
  | some r => exact key s 0 r h
end Go.Abs

/- leaf: what it reads, as a plain function. -/
namespace Go.Abs
open Go Go.RowKit Go.Proofs Go.Lib

def signs4 : List UInt8 := [61, 60, 62, 126]
/-- How long the attribute's name is. -/
def attrLen : List UInt8 → Nat
  | [] => 0
  | c :: s => if idxByte c signs4 0 < 0 then attrLen s + 1 else 0
def emptyF (k : Int) (a : List UInt8) : Flt := ⟨k, a, [], [], [], [], []⟩
def valF (k : Int) (a v : List UInt8) : Flt := ⟨k, a, v, [], [], [], []⟩
/-- The pieces that a list of texts is. -/
def piecesF (a : List UInt8) (l : List (List UInt8)) : Flt :=
  if l.length = 1 then valF 3 a (l.getD 0 []) else ⟨4, a, [], l.getD 0 [], l.getD (l.length - 1) [], (l.drop 1).take (l.length - 2), []⟩
def restF (a r : List UInt8) : Flt × Bool :=
  if Lib.hasPrefix r [61] = false then (emptyF 0 a, false) else
  if Lib.trimPrefix r [61] = [42] then (emptyF 7 a, true) else
  if ((splitC 42 (Lib.trimPrefix r [61])).all fun p => (unesc p).2) then (piecesF a ((splitC 42 (Lib.trimPrefix r [61])).map fun p => (unesc p).1), true) else (emptyF 0 a, false)
def signF (a r : List UInt8) : List Int → Flt × Bool
  | [] => restF a r
  | k :: ks => if Lib.hasPrefix r (signS k) then (valF k a (unesc (Lib.trimPrefix r (signS k))).1, (unesc (Lib.trimPrefix r (signS k))).2) else signF a r ks
/-- What is no and, or, not. -/
def leafF (s : List UInt8) : Flt × Bool := signF (s.take (attrLen s)) (s.drop (attrLen s)) [5, 6, 8]

theorem attrLen_le : ∀ s, attrLen s ≤ s.length
  | [] => Nat.le_refl _
  | c :: s => by
    have := attrLen_le s
    unfold attrLen
    split <;> simp <;> omega
theorem attrLen_at : ∀ (s : List UInt8) (k : Nat) (h : k < s.length), k ≤ attrLen s → (idxByte s[k] signs4 0 < 0 → k + 1 ≤ attrLen s) ∧ (¬ idxByte s[k] signs4 0 < 0 → k = attrLen s)
  | c :: s, 0, h, h1 => by
    constructor
    · intro h2
      unfold attrLen
      rw [if_pos (show idxByte c signs4 0 < 0 from h2)]; omega
    · intro h2
      unfold attrLen
      rw [if_neg (show ¬ idxByte c signs4 0 < 0 from h2)]
  | c :: s, k + 1, h, h1 => by
    unfold attrLen at h1 ⊢
    split at h1
    · rename_i h3
      have ih := attrLen_at s k (by simpa using h) (by omega)
      rw [if_pos h3]
      exact ⟨fun h4 => by have := ih.1 h4; omega, fun h4 => by have := ih.2 h4; omega⟩
    · omega

/-- The globals' cells are there. -/
def GlobW (w : World) : Prop := ∃ m, Ile m w.cell? ∧ GlobOK m
theorem GlobW.below {B : Nat} {w w' : World} (h : GlobW w) (hb : Below B w w') (hB : w.heap.size ≤ B) : GlobW w' := by
  obtain ⟨m, h1, h2⟩ := h
  refine ⟨m, fun a v e => ?_, h2⟩
  have e1 := h1 a v e
  rw [hb.cell (Nat.lt_of_lt_of_le (cell_lt e1) hB)]
  exact e1

theorem pure_run {f : FuncId} {xs : List DV} {r : DV} (h : TT f (xs.map .d) [] = some (r, [])) : Pure Tryz.prog f xs r := by
  obtain ⟨n, hn⟩ := Run_some h
  exact (run_sound tab0_ok n _ _ _ _ _ hn (by simp)).2.pure
theorem call142 (s : List UInt8) (hs : s.length ≤ 300000000) (w : World) (hg : GlobW w) :
    Calls Tryz.prog 142 #[.string ⟨s.toArray⟩] w fun e w' => e = .returned (.tuple #[.string ⟨(unesc s).1.toArray⟩, .bool (unesc s).2]) ∧ Below w.heap.size w w' := by
  obtain ⟨m, h1, h2⟩ := hg
  refine (pure_run (xs := [.str s]) (run142 s hs) m w [_] h1 h2 (by simp only [DRt, DR]; exact ⟨_, [], rfl, rfl, rfl⟩)).mono ?_
  rintro e w' ⟨v, rfl, hb, hd⟩
  simp only [DR, DRt] at hd
  obtain ⟨vs, rfl, _, _, e1, rfl, _, _, rfl, rfl, rfl⟩ := hd
  obtain rfl : vs = #[_, _] := Array.toList_inj.1 e1
  exact ⟨rfl, hb⟩
theorem call88 (k : Int) (w : World) (hg : GlobW w) :
    Calls Tryz.prog 88 #[.int .i64 k] w fun e w' => e = .returned (.string ⟨(signS k).toArray⟩) ∧ Below w.heap.size w w' := by
  obtain ⟨m, h1, h2⟩ := hg
  refine (pure_run (xs := [.int .i64 k]) (run88 k) m w [_] h1 h2 (by simp only [DRt, DR]; exact ⟨_, [], rfl, rfl, rfl⟩)).mono ?_
  rintro e w' ⟨v, rfl, hb, hd⟩
  simp only [DR] at hd
  subst hd
  exact ⟨rfl, hb⟩
end Go.Abs

/- leaf: the walk. -/
namespace Go.Abs
open Go Go.RowKit Go.Proofs Go.Lib

theorem call93 (s : List UInt8) (c : UInt8) (w : World) :
    Calls Tryz.prog 93 #[.string ⟨s.toArray⟩, .int .u8 c.toNat] w fun e w' => e = .returned (.int .i64 (idxByte c s 0)) ∧ w' = w := by
  refine (Tryz.strings_IndexByte ⟨s.toArray⟩ c.toNat w).mono ?_
  rintro e w' ⟨rfl, rfl⟩
  rw [idxByte_eq]
  exact ⟨by simp, rfl⟩

theorem call141 (s p : List UInt8) (w : World) :
    Calls Tryz.prog 141 #[.string ⟨s.toArray⟩, .string ⟨p.toArray⟩] w fun e w' => e = .returned (.tuple #[.string ⟨(Lib.trimPrefix s p).toArray⟩, .bool (Lib.hasPrefix s p)]) ∧ w' = w :=
  Tryz.strings_CutPrefix ⟨s.toArray⟩ ⟨p.toArray⟩ w
theorem call143 (s : List UInt8) (c : UInt8) (w : World) (hg : GlobW w) (h : s.length ≤ maxLenN) (L : List (List UInt8)) (n : Nat) (hL : splitC c s = L) (hn : L.length = n) :
    Calls Tryz.prog 143 #[.string ⟨s.toArray⟩, .string ⟨[c].toArray⟩] w fun e w' => e = .returned (.slice (some ⟨w.heap.size, 0, none⟩) n n) ∧
      w' = w.alloc (.cells (L.map fun p => Value.string ⟨p.toArray⟩).toArray 9) := by
  subst hL hn
  obtain ⟨m, hm, hgl⟩ := hg
  obtain ⟨k, hk⟩ := hgl.maxLen
  unfold maxLenN at h
  refine (Tryz.strings_Split ⟨s.toArray⟩ ⟨[c].toArray⟩ k w (by rw [str_size]; omega) (hm _ _ hk) (by rw [str_size]; simp)).mono ?_
  rintro e w' ⟨rfl, rfl⟩
  have hd := Lib.splitB_data ⟨[c].toArray⟩ 0 (Lib.countB ⟨s.toArray⟩ ⟨[c].toArray⟩) ⟨s.toArray⟩
  have hs := split_C c s
  unfold Lib.split at hs
  have hd2 : (Lib.splitB ⟨[c].toArray⟩ 0 (Lib.countB ⟨s.toArray⟩ ⟨[c].toArray⟩) ⟨s.toArray⟩).map (·.data.toList) = splitC c s := by
    rw [hd]; exact hs
  have hl := Lib.splitB_all ⟨[c].toArray⟩ (by rw [str_size]; simp) 0 _ ⟨s.toArray⟩ rfl
  have hlen : (splitC c s).length = Lib.countB ⟨s.toArray⟩ ⟨[c].toArray⟩ + 1 := by rw [← hd2, List.length_map]; exact hl
  have hcells : (Lib.splitB ⟨[c].toArray⟩ 0 (Lib.countB ⟨s.toArray⟩ ⟨[c].toArray⟩) ⟨s.toArray⟩).map Value.string = (splitC c s).map fun s => Value.string ⟨s.toArray⟩ := by
    rw [← hd2, List.map_map]
    apply List.map_congr_left
    intro x _
    simp
  rw [hcells, hlen]
  exact ⟨rfl, rfl⟩

theorem trimPrefix_len (s p : List UInt8) : (Lib.trimPrefix s p).length ≤ s.length := by
  unfold Lib.trimPrefix
  split
  · simp
  · exact Nat.le_refl _
/-- The filter's cells. -/
def fCells (k : Int) (a v x y : List UInt8) (u : Value) : Array Value := #[.int .i64 k, .string ⟨a.toArray⟩, .string ⟨v.toArray⟩, .string ⟨x.toArray⟩, .string ⟨y.toArray⟩, u, .slice none 0 0]
structure FW (w : World) (a : List UInt8) (wr : World) : Prop where
  f : wr.heap[w.heap.size]? = some (.cells (fCells 0 a [] [] [] (.slice none 0 0)) 33 (0, 0))
  k : wr.heap[w.heap.size + 1]? = some (.cells #[.int .i64 5, .int .i64 6, .int .i64 8] 3 (0, 0))
  below : Below w.heap.size w wr
theorem FW.size {w : World} {a : List UInt8} {wr : World} (h : FW w a wr) : w.heap.size + 1 < wr.heap.size := heap_lt h.k
theorem FW.glob {w : World} {a : List UInt8} {wr : World} (h : FW w a wr) (hg : GlobW w) : GlobW wr := hg.below h.below (Nat.le_refl _)
theorem FW.step {w : World} {a : List UInt8} {wr w1 : World} (h : FW w a wr) (hb : Below wr.heap.size wr w1) : FW w a w1 := by
  have h1 := h.size
  exact ⟨by rw [hb.block _ (by omega)]; exact h.f, by rw [hb.block _ (by omega)]; exact h.k, h.below.trans (hb.mono (by omega))⟩
theorem heap_two (w : World) (X Y : Obj) : ((w.alloc X).alloc Y).drew.heap[w.heap.size + 1]? = some Y := by
  have h := heap_new (w.alloc X) Y
  have e : (w.alloc X).heap.size = w.heap.size + 1 := by simp
  rw [e] at h
  exact h
theorem fCells_set2 {w : World} {B : Nat} {k : Int} {a v x y : List UInt8} {u : Value} (h : w.heap[B]? = some (.cells (fCells k a v x y u) 33 (0, 0))) (v' : List UInt8) : (w.setCell ⟨B, 2, none⟩ (.string ⟨v'.toArray⟩)).heap[B]? = some (.cells (fCells k a v' x y u) 33 (0, 0)) := by
  rw [setCell_at h]
  simp [fCells]
theorem fCells_set0 {w : World} {B : Nat} {k : Int} {a v x y : List UInt8} {u : Value} (h : w.heap[B]? = some (.cells (fCells k a v x y u) 33 (0, 0))) (k' : Int) : (w.setCell ⟨B, 0, none⟩ (.int .i64 k')).heap[B]? = some (.cells (fCells k' a v x y u) 33 (0, 0)) := by
  rw [setCell_at h]
  simp [fCells]
theorem valF_DR {m : Addr → Option Value} (k : Int) (a v : List UInt8) : DR m (encF (valF k a v)) (.agg (fCells k a v [] [] (.slice none 0 0))) := by
  simp only [valF, encF, encFs, slc, List.map_nil, canon1, DR, DRs]
  exact ⟨_, rfl, _, _, rfl, rfl, rfl, _, _, rfl, rfl, rfl, _, _, rfl, rfl, rfl, _, _, rfl, rfl, rfl, _, _, rfl, rfl, rfl, _, _, rfl, ⟨none, 0, [], rfl, Nat.le_refl _, by simp only [DRe], fun _ _ h => by simp at h⟩, rfl, _, _, rfl, ⟨none, 0, [], rfl, Nat.le_refl _, by simp only [DRe], fun _ _ h => by simp at h⟩, rfl, rfl⟩
theorem fCells_set3 {w : World} {B : Nat} {k : Int} {a v x y : List UInt8} {u : Value} (h : w.heap[B]? = some (.cells (fCells k a v x y u) 33 (0, 0))) (x' : List UInt8) : (w.setCell ⟨B, 3, none⟩ (.string ⟨x'.toArray⟩)).heap[B]? = some (.cells (fCells k a v x' y u) 33 (0, 0)) := by
  rw [setCell_at h]
  simp [fCells]
theorem fCells_set4 {w : World} {B : Nat} {k : Int} {a v x y : List UInt8} {u : Value} (h : w.heap[B]? = some (.cells (fCells k a v x y u) 33 (0, 0))) (y' : List UInt8) : (w.setCell ⟨B, 4, none⟩ (.string ⟨y'.toArray⟩)).heap[B]? = some (.cells (fCells k a v x y' u) 33 (0, 0)) := by
  rw [setCell_at h]
  simp [fCells]
theorem fCells_set5 {w : World} {B : Nat} {k : Int} {a v x y : List UInt8} {u : Value} (h : w.heap[B]? = some (.cells (fCells k a v x y u) 33 (0, 0))) (u' : Value) : (w.setCell ⟨B, 5, none⟩ u').heap[B]? = some (.cells (fCells k a v x y u') 33 (0, 0)) := by
  rw [setCell_at h]
  simp [fCells]
/-- A filter written back whole. -/
theorem arr7 (a0 a1 a2 a3 a4 a5 a6 b0 b1 b2 b3 b4 b5 b6 : Value) : (((((((#[a0, a1, a2, a3, a4, a5, a6] : Array Value).setIfInBounds 0 b0).setIfInBounds 1 b1).setIfInBounds 2 b2).setIfInBounds 3 b3).setIfInBounds 4 b4).setIfInBounds 5 b5).setIfInBounds 6 b6 = #[b0, b1, b2, b3, b4, b5, b6] := by
  apply Array.ext'
  simp only [Array.toList_setIfInBounds, List.set_cons_zero, List.set_cons_succ]
theorem back7 {w : World} {B : Nat} {a0 a1 a2 a3 a4 a5 a6 : Value} (h : w.heap[B]? = some (.cells #[a0, a1, a2, a3, a4, a5, a6] 33 (0, 0))) (b0 b1 b2 b3 b4 b5 b6 : Value) :
    (((((((w.setCell ⟨B, 0, none⟩ b0).setCell ⟨B, 1, none⟩ b1).setCell ⟨B, 2, none⟩ b2).setCell ⟨B, 3, none⟩ b3).setCell ⟨B, 4, none⟩ b4).setCell ⟨B, 5, none⟩ b5).setCell ⟨B, 6, none⟩ b6).heap[B]? = some (.cells #[b0, b1, b2, b3, b4, b5, b6] 33 (0, 0)) := by
  have h0 := setCell_at (o := 0) h b0
  have h1 := setCell_at (o := 1) h0 b1
  have h2 := setCell_at (o := 2) h1 b2
  have h3 := setCell_at (o := 3) h2 b3
  have h4 := setCell_at (o := 4) h3 b4
  have h5 := setCell_at (o := 5) h4 b5
  have h6 := setCell_at (o := 6) h5 b6
  rw [arr7] at h6
  exact h6
set_option maxHeartbeats 4000000 in
/-- What is handed back. -/
theorem leaf_results {W : World} {B : Nat} {tmps : Array Value} {b0 b1 b2 b3 b4 b5 b6 b : Value} (h2 : tmps.getD 2 undef = .pointer (some ⟨B, 0, none⟩)) (h3 : tmps.getD 3 undef = b) (h : W.heap[B]? = some (.cells #[b0, b1, b2, b3, b4, b5, b6] 33 (0, 0))) :
    (results Tryz.f95 tmps).run Tryz.prog W = .ok (.tuple #[.agg #[b0, b1, b2, b3, b4, b5, b6], b]) W := by
  have c0 : W.cell? ⟨B, 0, none⟩ = some b0 := by rw [Lib.cell_of_heap h]; rfl
  have c1 : W.cell? ⟨B, 1, none⟩ = some b1 := by rw [Lib.cell_of_heap h]; rfl
  have c2 : W.cell? ⟨B, 2, none⟩ = some b2 := by rw [Lib.cell_of_heap h]; rfl
  have c3 : W.cell? ⟨B, 3, none⟩ = some b3 := by rw [Lib.cell_of_heap h]; rfl
  have c4 : W.cell? ⟨B, 4, none⟩ = some b4 := by rw [Lib.cell_of_heap h]; rfl
  have c5 : W.cell? ⟨B, 5, none⟩ = some b5 := by rw [Lib.cell_of_heap h]; rfl
  have c6 : W.cell? ⟨B, 6, none⟩ = some b6 := by rw [Lib.cell_of_heap h]; rfl
  rw [Array.getD_eq_getD_getElem?] at h2 h3
  simp [results, Tryz.results95, go_sem, h2, h3, c0, c1, c2, c3, c4, c5, c6]
theorem below7 {w W : World} {B : Nat} (h : Below B W w) (b0 b1 b2 b3 b4 b5 b6 : Value) :
    Below B W (((((((w.setCell ⟨B, 0, none⟩ b0).setCell ⟨B, 1, none⟩ b1).setCell ⟨B, 2, none⟩ b2).setCell ⟨B, 3, none⟩ b3).setCell ⟨B, 4, none⟩ b4).setCell ⟨B, 5, none⟩ b5).setCell ⟨B, 6, none⟩ b6) := by
  have h0 := h.setCell (show B ≤ (⟨B, 0, none⟩ : Addr).block from Nat.le_refl _) b0
  have h1 := h0.setCell (show B ≤ (⟨B, 1, none⟩ : Addr).block from Nat.le_refl _) b1
  have h2 := h1.setCell (show B ≤ (⟨B, 2, none⟩ : Addr).block from Nat.le_refl _) b2
  have h3 := h2.setCell (show B ≤ (⟨B, 3, none⟩ : Addr).block from Nat.le_refl _) b3
  have h4 := h3.setCell (show B ≤ (⟨B, 4, none⟩ : Addr).block from Nat.le_refl _) b4
  have h5 := h4.setCell (show B ≤ (⟨B, 5, none⟩ : Addr).block from Nat.le_refl _) b5
  exact h5.setCell (show B ≤ (⟨B, 6, none⟩ : Addr).block from Nat.le_refl _) b6
theorem splitC_mem {c : UInt8} : ∀ {l p : List UInt8}, p ∈ splitC c l → p.length ≤ l.length
  | [], p, h => by simp [splitC] at h; subst h; simp
  | x :: l, p, h => by
    simp only [splitC] at h
    split at h
    · rcases List.mem_cons.1 h with rfl | h
      · simp
      · have := splitC_mem h; simp; omega
    · cases hs : splitC c l with
      | nil => exact absurd hs (splitC_ne c l)
      | cons q qs =>
        rw [hs] at h
        simp only [consHead] at h
        rcases List.mem_cons.1 h with rfl | h
        · have := splitC_mem (c := c) (l := l) (p := q) (by rw [hs]; simp); simp; omega
        · have := splitC_mem (c := c) (l := l) (p := p) (by rw [hs]; simp [h]); simp; omega
def mid (L : List (List UInt8)) (k : Nat) : List (List UInt8) := (L.take k).map (fun p => (unesc p).1) ++ L.drop k
def strsV (L : List (List UInt8)) : List Value := L.map fun p => Value.string ⟨p.toArray⟩
/-- The list's row: k texts are read. -/
structure PW (w : World) (a : List UInt8) (L : List (List UInt8)) (g k : Nat) (wr : World) : Prop where
  f : wr.heap[w.heap.size]? = some (.cells (fCells 0 a [] [] [] (.slice none 0 0)) 33 (0, 0))
  row : wr.heap[g]? = some (.cells (strsV (mid L k)).toArray 9 (0, 0))
  below : Below w.heap.size w wr
theorem PW.start {w : World} {a : List UInt8} {wr : World} (h : FW w a wr) (L : List (List UInt8)) : PW w a L wr.heap.size 0 (wr.alloc (.cells (L.map fun p => Value.string ⟨p.toArray⟩).toArray 9)) := by
  have h1 := h.size
  refine ⟨by rw [Lib.alloc_old _ _ _ (by omega)]; exact h.f, ?_, h.below.alloc (by omega) _⟩
  rw [heap_new]
  rfl
theorem mid_len (L : List (List UInt8)) (k : Nat) : (mid L k).length = L.length := by
  simp [mid]; omega
theorem mid_at {L : List (List UInt8)} {k j : Nat} (h : k ≤ j) (hj : j < L.length) : (mid L k)[j]? = some L[j] := by
  have h1 : (((L.take k).map (fun p => (unesc p).1))).length = k := by simp; omega
  unfold mid
  rw [List.getElem?_append_right (by omega), h1, List.getElem?_drop, show k + (j - k) = j by omega, List.getElem?_eq_getElem hj]
theorem mid_all (L : List (List UInt8)) : mid L L.length = L.map fun p => (unesc p).1 := by simp [mid]
theorem mid_set {L : List (List UInt8)} {k : Nat} (h : k < L.length) : (mid L k).set k (unesc L[k]).1 = mid L (k + 1) := by
  have h1 : (((L.take k).map (fun p => (unesc p).1))).length = k := by simp; omega
  unfold mid
  rw [List.set_append_right _ _ (by omega), h1, Nat.sub_self, List.drop_eq_getElem_cons h, List.set_cons_zero, List.take_add_one, List.getElem?_eq_getElem h]
  simp only [List.map_append, Option.toList_some, List.map_cons, List.map_nil, List.append_assoc, List.cons_append, List.nil_append]
theorem PW.cell {w : World} {a : List UInt8} {L : List (List UInt8)} {g k : Nat} {wr : World} (h : PW w a L g k wr) {j : Nat} {p : List UInt8} (hj : (mid L k)[j]? = some p) : wr.cell? ⟨g, j, none⟩ = some (.string ⟨p.toArray⟩) := by
  rw [cell_mk h.row]
  simp [strsV, hj]
theorem PW.set {w : World} {a : List UInt8} {L : List (List UInt8)} {g k : Nat} {wr : World} (h : PW w a L g k wr) (hgB : w.heap.size < g) (hk : k < L.length) : PW w a L g (k + 1) (wr.setCell ⟨g, k, none⟩ (.string ⟨(unesc L[k]).1.toArray⟩)) := by
  refine ⟨by rw [heap_setCell' _ _ _ _ (by show w.heap.size ≠ g; omega)]; exact h.f, ?_, h.below.setCell (by show w.heap.size ≤ g; omega) _⟩
  rw [setCell_at h.row, ← mid_set hk]
  simp [strsV, List.map_set]
theorem PW.step {w : World} {a : List UInt8} {L : List (List UInt8)} {g k : Nat} {wr w1 : World} (h : PW w a L g k wr) (hb : Below wr.heap.size wr w1) : PW w a L g k w1 := by
  have h1 := heap_lt h.f
  exact ⟨by rw [hb.block _ h1]; exact h.f, by rw [hb.block _ (heap_lt h.row)]; exact h.row, h.below.trans (hb.mono (by omega))⟩
theorem slc_nil7 : slc 7 [] = .slice 0 [] := rfl
theorem pieces_DR {W : World} {B g m : Nat} {a : List UInt8} {U : List (List UInt8)} (hB : B ≤ g) (hrow : W.heap[g]? = some (.cells (strsV U).toArray 9 (0, 0))) (hU : U.length = m + 2) :
    DR (fun a => if B ≤ a.block then W.drew.cell? a else none) (encF (piecesF a U)) (.agg (fCells 4 a [] (U.getD 0 []) (U.getD (m + 1) []) (.slice (some ⟨g, 1, none⟩) m (m + 1)))) := by
  have e1 : piecesF a U = ⟨4, a, [], U.getD 0 [], U.getD (m + 1) [], (U.drop 1).take m, []⟩ := by
    rw [piecesF, if_neg (by omega), hU]
    rfl
  have hl : ((U.drop 1).take m).length = m := by simp; omega
  have hl2 : (((U.drop 1).take m).map DV.str).length = m := by rw [List.length_map, hl]
  have hany : DR (fun a => if B ≤ a.block then W.drew.cell? a else none) (slc 1 (((U.drop 1).take m).map .str)) (.slice (some ⟨g, 1, none⟩) m (m + 1)) := by
    have h := slc_DR (m := fun a => if B ≤ a.block then W.drew.cell? a else none) (A := some ⟨g, 1, none⟩) (c := m + 1) (sz := 1) (es := ((U.drop 1).take m).map .str) (by rw [hl2]; omega) (strs_DRe _) (fun j u hj => ⟨_, rfl, ?_⟩)
    · rw [hl2] at h; exact h
    · rw [addr_add_mk]
      show (if B ≤ g then W.drew.cell? ⟨g, 1 + j, none⟩ else none) = some u
      rw [if_pos hB]
      show W.cell? ⟨g, 1 + j, none⟩ = some u
      rw [cell_mk hrow]
      rw [List.getElem?_map] at hj
      obtain ⟨p, hp, rfl⟩ := Option.map_eq_some_iff.1 hj
      rw [List.getElem?_take] at hp
      split at hp
      · rw [List.getElem?_drop] at hp
        simp [strsV, hp]
      · cases hp
  rw [e1, encF]
  simp only [encFs, slc_nil7, DR, DRs]
  exact ⟨_, rfl, _, _, rfl, rfl, rfl, _, _, rfl, rfl, rfl, _, _, rfl, rfl, rfl, _, _, rfl, rfl, rfl, _, _, rfl, rfl, rfl, _, _, rfl, hany, rfl, _, _, rfl, ⟨none, 0, [], rfl, Nat.le_refl _, by simp only [DRe], fun _ _ h => by simp at h⟩, rfl, rfl⟩
theorem PW.glob {w : World} {a : List UInt8} {L : List (List UInt8)} {g k : Nat} {wr : World} (h : PW w a L g k wr) (hg : GlobW w) : GlobW wr := hg.below h.below (Nat.le_refl _)
def kinds3 : List Int := [5, 6, 8]
theorem kinds_drop {k : Nat} (h : k < 3) : kinds3.drop k = kinds3.getD k 0 :: kinds3.drop (k + 1) := by
  match k, h with
  | 0, _ => rfl
  | 1, _ => rfl
  | 2, _ => rfl

theorem get_S {S : ByteArray} {s : List UInt8} {k : Nat} (hS : S = ⟨s.toArray⟩) (h : k < S.size) (h' : k < s.length) : S[k] = s[k] := by subst hS; rfl
theorem ext_S {S : ByteArray} {s : List UInt8} (hS : S = ⟨s.toArray⟩) (a b : Nat) : S.extract a b = ⟨((s.take b).drop a).toArray⟩ := by
  subst hS
  apply ByteArray.ext
  simp [List.extract_eq_take_drop, List.drop_take]

set_option maxHeartbeats 40000000 in
set_option maxRecDepth 100000 in
theorem leaf_walk (s : List UInt8) (w : World) (hs : s.length ≤ 16384) (hg : GlobW w) :
    Calls Tryz.prog 95 #[.string ⟨s.toArray⟩] w fun e w' => ∃ u, e = .returned (.tuple #[u, .bool (leafF s).2]) ∧ DR (fun a => if w.heap.size ≤ a.block then w'.cell? a else none) (encF (leafF s).1) u ∧ Below w.heap.size w w' := by
  obtain ⟨S, hS⟩ : ∃ S : ByteArray, S = ⟨s.toArray⟩ := ⟨_, rfl⟩
  have hSz : S.size = s.length := by rw [hS, str_size]
  rw [← hS]
  have HS := Lib.hid hS
  clear hS
  go_enter Tryz.func95, Tryz.ntmps95
  go_wp2
  go_loop [4] (fun i => ∃ k : Nat, k ≤ attrLen s ∧ i = .int .i64 k) (fun i => s.length - (RowKit.intOf i).toNat)
  case atStart => exact ⟨0, Nat.zero_le _, rfl⟩
  case round =>
    obtain ⟨k, hk, rfl⟩ := hrel
    have hal := attrLen_le s
    go_wp2_with (go_at_call 93; refine (call93 signs4 _ _).mono ?_)
    · have hlt : k < s.length := by assumption
      have h3 : idxByte (S[k]'(by omega)) signs4 0 < 0 := by assumption
      rw [get_S HS.out (by omega) hlt] at h3
      have h4 := (attrLen_at s k hlt hk).1 h3
      go_round
      case rel => exact ⟨k + 1, h4, by go_num⟩
      case measure => simp [RowKit.intOf]; omega
    all_goals
      obtain rfl : k = attrLen s := by
        first
        | (have hlt : k < s.length := by assumption
           have h3 : 0 ≤ idxByte (S[k]'(by omega)) signs4 0 := by assumption
           rw [get_S HS.out (by omega) hlt] at h3
           exact (attrLen_at s k hlt hk).2 (by omega))
        | omega
      have hx1 : S.extract 0 (attrLen s) = ⟨(s.take (attrLen s)).toArray⟩ := by rw [ext_S HS.out]; simp
      have hx2 : S.extract (attrLen s) s.length = ⟨(s.drop (attrLen s)).toArray⟩ := by rw [ext_S HS.out]; simp
      go_region
      go_wp2
      go_loopw [36] (fun i wr => ∃ k : Nat, k ≤ 3 ∧ i = .int .i64 k ∧ leafF s = signF (s.take (attrLen s)) (s.drop (attrLen s)) (kinds3.drop k) ∧ Hid (FW w (s.take (attrLen s)) wr)) (fun i _ => 3 - (RowKit.intOf i).toNat)
      case atStart =>
        refine ⟨0, by omega, rfl, rfl, ?_⟩
        constructor
        · show ((w.alloc _).alloc _).heap[_]? = _
          rw [Lib.alloc_old _ _ _ (by simp)]
          exact heap_new w _
        · exact heap_two w _ _
        · exact (((Below.refl _ w).alloc (Nat.le_refl _) _).alloc (by simp) _).drew
      case round =>
        obtain ⟨k, hk, rfl, hsg, hfw⟩ := hrel
        by_cases hk3 : k < 3
        · have ht : (k : Int) < 3 := by omega
          have hcx : wr.cell? ⟨w.heap.size + 1, k, none⟩ = some (.int .i64 (kinds3.getD k 0)) := by
            rw [cell_mk hfw.out.k]
            match k, hk3 with
            | 0, _ => rfl
            | 1, _ => rfl
            | 2, _ => rfl
          go_wp2_with (go_at_call 88; refine (call88 _ _ (hfw.out.glob hg)).mono ?_)
          rintro e w1 ⟨rfl, hb1⟩
          have hfw1 := Lib.hid (hfw.out.step hb1)
          clear hb1
          go_wp2_with (go_at_call 141; refine (call141 _ _ _).mono ?_)
          rintro e w2 ⟨rfl, rfl⟩
          have c0 : w2.cell? ⟨w.heap.size, 0, none⟩ = some (.int .i64 0) := by rw [Lib.cell_of_heap hfw1.out.f]; rfl
          have z0 : w2.frozen? ⟨w.heap.size, 0, none⟩ = false := Lib.frozen_of_heap hfw1.out.f 0
          have c1 : w2.cell? ⟨w.heap.size, 1, none⟩ = some (.string ⟨(s.take (attrLen s)).toArray⟩) := by rw [Lib.cell_of_heap hfw1.out.f]; rfl
          have z1 : w2.frozen? ⟨w.heap.size, 1, none⟩ = false := Lib.frozen_of_heap hfw1.out.f 1
          have c2 : w2.cell? ⟨w.heap.size, 2, none⟩ = some (.string ⟨#[]⟩) := by rw [Lib.cell_of_heap hfw1.out.f]; rfl
          have z2 : w2.frozen? ⟨w.heap.size, 2, none⟩ = false := Lib.frozen_of_heap hfw1.out.f 2
          have c3 : w2.cell? ⟨w.heap.size, 3, none⟩ = some (.string ⟨#[]⟩) := by rw [Lib.cell_of_heap hfw1.out.f]; rfl
          have z3 : w2.frozen? ⟨w.heap.size, 3, none⟩ = false := Lib.frozen_of_heap hfw1.out.f 3
          have c4 : w2.cell? ⟨w.heap.size, 4, none⟩ = some (.string ⟨#[]⟩) := by rw [Lib.cell_of_heap hfw1.out.f]; rfl
          have z4 : w2.frozen? ⟨w.heap.size, 4, none⟩ = false := Lib.frozen_of_heap hfw1.out.f 4
          have c5 : w2.cell? ⟨w.heap.size, 5, none⟩ = some (.slice none 0 0) := by rw [Lib.cell_of_heap hfw1.out.f]; rfl
          have z5 : w2.frozen? ⟨w.heap.size, 5, none⟩ = false := Lib.frozen_of_heap hfw1.out.f 5
          have c6 : w2.cell? ⟨w.heap.size, 6, none⟩ = some (.slice none 0 0) := by rw [Lib.cell_of_heap hfw1.out.f]; rfl
          have z6 : w2.frozen? ⟨w.heap.size, 6, none⟩ = false := Lib.frozen_of_heap hfw1.out.f 6
          go_wp2_with (go_at_call 142; refine (call142 _ (by have := trimPrefix_len (s.drop (attrLen s)) (signS (kinds3.getD k 0)); simp at this; simp; omega) _ (hg.below (hfw1.out.below.setCell (Nat.le_refl _) _) (Nat.le_refl _))).mono ?_)
          · rintro e w3 ⟨rfl, hb3⟩
            have f3 : w3.heap[w.heap.size]? = some (.cells (fCells (kinds3.getD k 0) (s.take (attrLen s)) [] [] [] (.slice none 0 0)) 33 (0, 0)) := by
              have := hfw1.out.size
              rw [hb3.block _ (by simp [World.setCell]; omega), setCell_at hfw1.out.f]
              simp [fCells]
            have hb4 := Lib.hid ((hfw1.out.below.setCell (Nat.le_refl _) _).trans (hb3.mono (by have := hfw1.out.size; simp [World.setCell]; omega)))
            have hf3 := Lib.hid f3
            have dc0 : w3.cell? ⟨w.heap.size, 0, none⟩ = some (.int .i64 (kinds3.getD k 0)) := by rw [Lib.cell_of_heap hf3.out]; rfl
            have dz0 : w3.frozen? ⟨w.heap.size, 0, none⟩ = false := Lib.frozen_of_heap hf3.out 0
            have dc1 : w3.cell? ⟨w.heap.size, 1, none⟩ = some (.string ⟨(s.take (attrLen s)).toArray⟩) := by rw [Lib.cell_of_heap hf3.out]; rfl
            have dz1 : w3.frozen? ⟨w.heap.size, 1, none⟩ = false := Lib.frozen_of_heap hf3.out 1
            have dc2 : w3.cell? ⟨w.heap.size, 2, none⟩ = some (.string ⟨#[]⟩) := by rw [Lib.cell_of_heap hf3.out]; rfl
            have dz2 : w3.frozen? ⟨w.heap.size, 2, none⟩ = false := Lib.frozen_of_heap hf3.out 2
            have dc3 : w3.cell? ⟨w.heap.size, 3, none⟩ = some (.string ⟨#[]⟩) := by rw [Lib.cell_of_heap hf3.out]; rfl
            have dz3 : w3.frozen? ⟨w.heap.size, 3, none⟩ = false := Lib.frozen_of_heap hf3.out 3
            have dc4 : w3.cell? ⟨w.heap.size, 4, none⟩ = some (.string ⟨#[]⟩) := by rw [Lib.cell_of_heap hf3.out]; rfl
            have dz4 : w3.frozen? ⟨w.heap.size, 4, none⟩ = false := Lib.frozen_of_heap hf3.out 4
            have dc5 : w3.cell? ⟨w.heap.size, 5, none⟩ = some (.slice none 0 0) := by rw [Lib.cell_of_heap hf3.out]; rfl
            have dz5 : w3.frozen? ⟨w.heap.size, 5, none⟩ = false := Lib.frozen_of_heap hf3.out 5
            have dc6 : w3.cell? ⟨w.heap.size, 6, none⟩ = some (.slice none 0 0) := by rw [Lib.cell_of_heap hf3.out]; rfl
            have dz6 : w3.frozen? ⟨w.heap.size, 6, none⟩ = false := Lib.frozen_of_heap hf3.out 6
            clear hb3 f3
            go_wp2
            generalize hW : World.setCell _ _ _ = W
            have fW : W.heap[w.heap.size]? = some (.cells (fCells (kinds3.getD k 0) (s.take (attrLen s)) (unesc (Lib.trimPrefix (s.drop (attrLen s)) (signS (kinds3.getD k 0)))).1 [] [] (.slice none 0 0)) 33 (0, 0)) := by
              rw [← hW]
              exact back7 (fCells_set2 hf3.out _) _ _ _ _ _ _ _
            have bW := Lib.hid (show Below w.heap.size w W by
              rw [← hW]
              exact below7 (hb4.out.setCell (Nat.le_refl _) _) _ _ _ _ _ _ _)
            clear hW
            clear dc0 dc1 dc2 dc3 dc4 dc5 dc6 dz0 dz1 dz2 dz3 dz4 dz5 dz6
            refine bodyPost_ret (leaf_results rfl rfl fW) rfl ?_
            have hp : Lib.hasPrefix (s.drop (attrLen s)) (signS (kinds3.getD k 0)) = true := by assumption
            have hl : leafF s = (valF (kinds3.getD k 0) (s.take (attrLen s)) (unesc (Lib.trimPrefix (s.drop (attrLen s)) (signS (kinds3.getD k 0)))).1, (unesc (Lib.trimPrefix (s.drop (attrLen s)) (signS (kinds3.getD k 0)))).2) := by
              rw [hsg, kinds_drop hk3, signF, hp]
              rfl
            rw [hl]
            exact ⟨_, rfl, valF_DR _ _ _, bW.out⟩
          · have hnp : Lib.hasPrefix (s.drop (attrLen s)) (signS (kinds3.getD k 0)) = false := by
              have := (by assumption : Lib.hasPrefix (s.drop (attrLen s)) (signS (kinds3[k]?.getD 0)) = false)
              simpa using this
            go_roundw
            case rel =>
              refine ⟨k + 1, by omega, by go_num, ?_, hfw1⟩
              rw [hsg, kinds_drop hk3, signF, hnp]
              rfl
            case measure => simp [RowKit.intOf]; omega
        · obtain rfl : k = 3 := by omega
          have hsg : leafF s = restF (s.take (attrLen s)) (s.drop (attrLen s)) := hsg
          have hsz := hfw.out.size
          have c0 : wr.cell? ⟨w.heap.size, 0, none⟩ = some (.int .i64 0) := by rw [Lib.cell_of_heap hfw.out.f]; rfl
          have z0 : wr.frozen? ⟨w.heap.size, 0, none⟩ = false := Lib.frozen_of_heap hfw.out.f 0
          have c1 : wr.cell? ⟨w.heap.size, 1, none⟩ = some (.string ⟨(s.take (attrLen s)).toArray⟩) := by rw [Lib.cell_of_heap hfw.out.f]; rfl
          have z1 : wr.frozen? ⟨w.heap.size, 1, none⟩ = false := Lib.frozen_of_heap hfw.out.f 1
          have c2 : wr.cell? ⟨w.heap.size, 2, none⟩ = some (.string ⟨#[]⟩) := by rw [Lib.cell_of_heap hfw.out.f]; rfl
          have z2 : wr.frozen? ⟨w.heap.size, 2, none⟩ = false := Lib.frozen_of_heap hfw.out.f 2
          have c3 : wr.cell? ⟨w.heap.size, 3, none⟩ = some (.string ⟨#[]⟩) := by rw [Lib.cell_of_heap hfw.out.f]; rfl
          have z3 : wr.frozen? ⟨w.heap.size, 3, none⟩ = false := Lib.frozen_of_heap hfw.out.f 3
          have c4 : wr.cell? ⟨w.heap.size, 4, none⟩ = some (.string ⟨#[]⟩) := by rw [Lib.cell_of_heap hfw.out.f]; rfl
          have z4 : wr.frozen? ⟨w.heap.size, 4, none⟩ = false := Lib.frozen_of_heap hfw.out.f 4
          have c5 : wr.cell? ⟨w.heap.size, 5, none⟩ = some (.slice none 0 0) := by rw [Lib.cell_of_heap hfw.out.f]; rfl
          have z5 : wr.frozen? ⟨w.heap.size, 5, none⟩ = false := Lib.frozen_of_heap hfw.out.f 5
          have c6 : wr.cell? ⟨w.heap.size, 6, none⟩ = some (.slice none 0 0) := by rw [Lib.cell_of_heap hfw.out.f]; rfl
          have z6 : wr.frozen? ⟨w.heap.size, 6, none⟩ = false := Lib.frozen_of_heap hfw.out.f 6
          obtain ⟨L, hL⟩ : ∃ L, splitC 42 (Lib.trimPrefix (s.drop (attrLen s)) [61]) = L := ⟨_, rfl⟩
          obtain ⟨n, hn⟩ : ∃ n, L.length = n := ⟨_, rfl⟩
          have hLh := Lib.hid hL
          have hnh := Lib.hid hn
          have hn1 : n ≤ 16385 := by
            have h1 := splitC_len 42 (Lib.trimPrefix (s.drop (attrLen s)) [61])
            have h2 := trimPrefix_len (s.drop (attrLen s)) [61]
            rw [hL, hn] at h1
            simp at h2
            omega
          clear hL hn
          go_wp2_with (first | (go_at_call 141; refine (call141 _ [61] _).mono ?_; rintro e w2 ⟨rfl, rfl⟩) | (go_at_call 143; refine (call143 _ 42 _ (hfw.out.glob hg) (by have := trimPrefix_len (s.drop (attrLen s)) [61]; simp at this; unfold maxLenN; omega) L n hLh.out hnh.out).mono ?_; rintro e w3 ⟨rfl, rfl⟩))
          · generalize hW : World.setCell _ _ _ = W
            have fW : W.heap[w.heap.size]? = some (.cells (fCells 0 (s.take (attrLen s)) [] [] [] (.slice none 0 0)) 33 (0, 0)) := by
              rw [← hW]
              exact back7 hfw.out.f _ _ _ _ _ _ _
            have bW : Below w.heap.size w W := by
              rw [← hW]
              exact below7 hfw.out.below _ _ _ _ _ _ _
            refine bodyPost_ret (leaf_results rfl rfl fW) rfl ?_
            have hp : (!Lib.hasPrefix (s.drop (attrLen s)) [61]) = true := by assumption
            have hl : leafF s = (emptyF 0 (s.take (attrLen s)), false) := by
              rw [hsg, restF, if_pos (by simpa using hp)]
            rw [hl]
            exact ⟨_, rfl, valF_DR _ _ _, bW⟩
          · generalize hW : World.setCell _ _ _ = W
            have fW : W.heap[w.heap.size]? = some (.cells (fCells 7 (s.take (attrLen s)) [] [] [] (.slice none 0 0)) 33 (0, 0)) := by
              rw [← hW]
              exact back7 (fCells_set0 hfw.out.f 7) _ _ _ _ _ _ _
            have bW : Below w.heap.size w W := by
              rw [← hW]
              exact below7 (hfw.out.below.setCell (Nat.le_refl _) _) _ _ _ _ _ _ _
            refine bodyPost_ret (leaf_results rfl rfl fW) rfl ?_
            have hp : (!Lib.hasPrefix (s.drop (attrLen s)) [61]) = false := by assumption
            have hv : (Lib.trimPrefix (s.drop (attrLen s)) [61] == [42]) = true := by assumption
            have hl : leafF s = (emptyF 7 (s.take (attrLen s)), true) := by
              rw [hsg, restF, if_neg (by simpa using hp), if_pos (by simpa using hv)]
            rw [hl]
            exact ⟨_, rfl, valF_DR _ _ _, bW⟩
          · have hp : (!Lib.hasPrefix (s.drop (attrLen s)) [61]) = false := by assumption
            have hv : (Lib.trimPrefix (s.drop (attrLen s)) [61] == [42]) = false := by assumption
            have hsg := Lib.hid (show leafF s = _ by rw [hsg, restF, if_neg (by simpa using hp), if_neg (by simpa using hv), hLh.out])
            have hlen : ∀ p ∈ L, p.length ≤ 16384 := fun p hp => by
              rw [← hLh.out] at hp
              have h1 := splitC_mem hp
              have h2 := trimPrefix_len (s.drop (attrLen s)) [61]
              simp at h2
              omega
            have hlenh := Lib.hid hlen
            clear hlen
            clear c0 c1 c2 c3 c4 c5 c6 z0 z1 z2 z3 z4 z5 z6
            obtain ⟨g, hgg⟩ : ∃ g, g = w2.heap.size := ⟨_, rfl⟩
            have hst : PW w (s.take (attrLen s)) L g 0 (w2.alloc (.cells (L.map fun p => Value.string ⟨p.toArray⟩).toArray 9)) := by
              subst hgg
              exact PW.start hfw.out L
            have hstart := Lib.hid hst
            have hgB : w.heap.size < g := by omega
            clear hst
            rw [← hgg]
            clear hgg
            go_loopw [75] (fun i wx => ∃ k : Nat, k ≤ n ∧ i = .int .i64 k ∧ (L.take k).all (fun p => (unesc p).2) = true ∧ Hid (PW w (s.take (attrLen s)) L g k wx)) (fun i _ => n - (RowKit.intOf i).toNat)
            case atStart => exact ⟨0, Nat.zero_le _, rfl, rfl, hstart⟩
            case round =>
              obtain ⟨k, hk, rfl, hall, hpw⟩ := hrel
              have hne : ¬ g = w.heap.size := by omega
              have hne' : ¬ w.heap.size = g := by omega
              by_cases hkn : k < n
              · have ht : (k : Int) < n := by omega
                have hLk : k < L.length := by rw [hnh.out]; exact hkn
                obtain ⟨p, hp0⟩ : ∃ p, L[k] = p := ⟨_, rfl⟩
                have hpl : p.length ≤ 16384 := hlenh.out p (by rw [← hp0]; exact List.getElem_mem hLk)
                have hmid : (mid L k)[k]? = some p := by rw [mid_at (Nat.le_refl _) hLk, hp0]
                have hmidh := Lib.hid hmid
                have hp0h := Lib.hid hp0
                clear hmid hp0
                have hcx := hpw.out.cell hmidh.out
                go_wp2_with (go_at_call 142; refine (call142 p (by omega) _ (hpw.out.glob hg)).mono ?_)
                rintro e w4 ⟨rfl, hb4⟩
                have hpw4 := Lib.hid (hpw.out.step hb4)
                clear hb4 hcx
                have hcx := hpw4.out.cell hmidh.out
                have hzx : w4.frozen? ⟨g, k, none⟩ = false := Lib.frozen_of_heap hpw4.out.row k
                have c0 : w4.cell? ⟨w.heap.size, 0, none⟩ = some (.int .i64 0) := by rw [Lib.cell_of_heap hpw4.out.f]; rfl
                have z0 : w4.frozen? ⟨w.heap.size, 0, none⟩ = false := Lib.frozen_of_heap hpw4.out.f 0
                have c1 : w4.cell? ⟨w.heap.size, 1, none⟩ = some (.string ⟨(s.take (attrLen s)).toArray⟩) := by rw [Lib.cell_of_heap hpw4.out.f]; rfl
                have z1 : w4.frozen? ⟨w.heap.size, 1, none⟩ = false := Lib.frozen_of_heap hpw4.out.f 1
                have c2 : w4.cell? ⟨w.heap.size, 2, none⟩ = some (.string ⟨#[]⟩) := by rw [Lib.cell_of_heap hpw4.out.f]; rfl
                have z2 : w4.frozen? ⟨w.heap.size, 2, none⟩ = false := Lib.frozen_of_heap hpw4.out.f 2
                have c3 : w4.cell? ⟨w.heap.size, 3, none⟩ = some (.string ⟨#[]⟩) := by rw [Lib.cell_of_heap hpw4.out.f]; rfl
                have z3 : w4.frozen? ⟨w.heap.size, 3, none⟩ = false := Lib.frozen_of_heap hpw4.out.f 3
                have c4 : w4.cell? ⟨w.heap.size, 4, none⟩ = some (.string ⟨#[]⟩) := by rw [Lib.cell_of_heap hpw4.out.f]; rfl
                have z4 : w4.frozen? ⟨w.heap.size, 4, none⟩ = false := Lib.frozen_of_heap hpw4.out.f 4
                have c5 : w4.cell? ⟨w.heap.size, 5, none⟩ = some (.slice none 0 0) := by rw [Lib.cell_of_heap hpw4.out.f]; rfl
                have z5 : w4.frozen? ⟨w.heap.size, 5, none⟩ = false := Lib.frozen_of_heap hpw4.out.f 5
                have c6 : w4.cell? ⟨w.heap.size, 6, none⟩ = some (.slice none 0 0) := by rw [Lib.cell_of_heap hpw4.out.f]; rfl
                have z6 : w4.frozen? ⟨w.heap.size, 6, none⟩ = false := Lib.frozen_of_heap hpw4.out.f 6
                have hpu := hpw4.out.set hgB hLk
                rw [hp0h.out] at hpu
                have hpuh := Lib.hid hpu
                clear hpu
                go_wp2
                · generalize hW : World.setCell _ _ _ = W
                  have fW : W.heap[w.heap.size]? = some (.cells (fCells 0 (s.take (attrLen s)) [] [] [] (.slice none 0 0)) 33 (0, 0)) := by
                    rw [← hW]
                    exact back7 hpuh.out.f _ _ _ _ _ _ _
                  have bW : Below w.heap.size w W := by
                    rw [← hW]
                    exact below7 hpuh.out.below _ _ _ _ _ _ _
                  refine bodyPost_ret (leaf_results rfl rfl fW) rfl ?_
                  have hf : (!(unesc p).2) = true := by assumption
                  have hl : leafF s = (emptyF 0 (s.take (attrLen s)), false) := by
                    rw [hsg.out, if_neg]
                    intro h
                    have := List.all_eq_true.1 h p (by rw [← hp0h.out]; exact List.getElem_mem hLk)
                    rw [this] at hf
                    cases hf
                  rw [hl]
                  exact ⟨_, rfl, valF_DR _ _ _, bW⟩
                · have hf : (!(unesc p).2) = false := by assumption
                  go_roundw
                  case rel =>
                    refine ⟨k + 1, by omega, by go_num, ?_, hpuh⟩
                    rw [List.take_add_one, List.getElem?_eq_getElem hLk, hp0h.out, List.all_append, hall]
                    simpa using hf
                  case measure => simp [RowKit.intOf]; omega
              · obtain rfl : k = n := by omega
                have hall' : L.all (fun p => (unesc p).2) = true := by
                  rw [← hnh.out, List.take_length] at hall
                  exact hall
                have hsg := Lib.hid (show leafF s = _ by rw [hsg.out, if_pos hall'])
                clear hall hall'
                have hrow := hpw.out.row
                rw [← hnh.out, mid_all] at hrow
                obtain ⟨U, hU⟩ : ∃ U, L.map (fun p => (unesc p).1) = U := ⟨_, rfl⟩
                have hUl : U.length = k := by rw [← hU, List.length_map, hnh.out]
                rw [hU] at hrow hsg
                have hrowh := Lib.hid hrow
                have hUlh := Lib.hid hUl
                clear hrow hU hUl
                have c0 : wr.cell? ⟨w.heap.size, 0, none⟩ = some (.int .i64 0) := by rw [Lib.cell_of_heap hpw.out.f]; rfl
                have z0 : wr.frozen? ⟨w.heap.size, 0, none⟩ = false := Lib.frozen_of_heap hpw.out.f 0
                have c1 : wr.cell? ⟨w.heap.size, 1, none⟩ = some (.string ⟨(s.take (attrLen s)).toArray⟩) := by rw [Lib.cell_of_heap hpw.out.f]; rfl
                have z1 : wr.frozen? ⟨w.heap.size, 1, none⟩ = false := Lib.frozen_of_heap hpw.out.f 1
                have c2 : wr.cell? ⟨w.heap.size, 2, none⟩ = some (.string ⟨#[]⟩) := by rw [Lib.cell_of_heap hpw.out.f]; rfl
                have z2 : wr.frozen? ⟨w.heap.size, 2, none⟩ = false := Lib.frozen_of_heap hpw.out.f 2
                have c3 : wr.cell? ⟨w.heap.size, 3, none⟩ = some (.string ⟨#[]⟩) := by rw [Lib.cell_of_heap hpw.out.f]; rfl
                have z3 : wr.frozen? ⟨w.heap.size, 3, none⟩ = false := Lib.frozen_of_heap hpw.out.f 3
                have c4 : wr.cell? ⟨w.heap.size, 4, none⟩ = some (.string ⟨#[]⟩) := by rw [Lib.cell_of_heap hpw.out.f]; rfl
                have z4 : wr.frozen? ⟨w.heap.size, 4, none⟩ = false := Lib.frozen_of_heap hpw.out.f 4
                have c5 : wr.cell? ⟨w.heap.size, 5, none⟩ = some (.slice none 0 0) := by rw [Lib.cell_of_heap hpw.out.f]; rfl
                have z5 : wr.frozen? ⟨w.heap.size, 5, none⟩ = false := Lib.frozen_of_heap hpw.out.f 5
                have c6 : wr.cell? ⟨w.heap.size, 6, none⟩ = some (.slice none 0 0) := by rw [Lib.cell_of_heap hpw.out.f]; rfl
                have z6 : wr.frozen? ⟨w.heap.size, 6, none⟩ = false := Lib.frozen_of_heap hpw.out.f 6
                by_cases hk1 : k = 1
                · subst hk1
                  have hr0 : wr.cell? ⟨g, 0, none⟩ = some (.string ⟨(U.getD 0 []).toArray⟩) := by
                    rw [cell_mk hrowh.out]
                    have : 0 < U.length := by rw [hUlh.out]; omega
                    simp [strsV, this]
                  go_wp2
                  go_region
                  go_wp2
                  generalize hW : World.setCell _ _ _ = W
                  have fW : W.heap[w.heap.size]? = some (.cells (fCells 3 (s.take (attrLen s)) (U.getD 0 []) [] [] (.slice none 0 0)) 33 (0, 0)) := by
                    rw [← hW]
                    exact back7 (fCells_set2 (fCells_set0 hpw.out.f 3) _) _ _ _ _ _ _ _
                  have bW : Below w.heap.size w W := by
                    rw [← hW]
                    exact below7 ((hpw.out.below.setCell (Nat.le_refl _) _).setCell (Nat.le_refl _) _) _ _ _ _ _ _ _
                  refine bodyPost_ret (leaf_results rfl rfl fW) rfl ?_
                  have hl : leafF s = (valF 3 (s.take (attrLen s)) (U.getD 0 []), true) := by
                    rw [hsg.out, piecesF, if_pos hUlh.out]
                  rw [hl]
                  exact ⟨_, rfl, valF_DR _ _ _, bW.drew⟩
                · have hk0 : k ≠ 0 := by
                    rw [← hnh.out, ← hLh.out]
                    intro h
                    exact splitC_ne _ _ (List.eq_nil_of_length_eq_zero h)
                  obtain ⟨m, rfl⟩ : ∃ m, k = m + 2 := ⟨k - 2, by omega⟩
                  have hr0 : wr.cell? ⟨g, 0, none⟩ = some (.string ⟨(U.getD 0 []).toArray⟩) := by
                    rw [cell_mk hrowh.out]
                    have : 0 < U.length := by rw [hUlh.out]; omega
                    simp [strsV, this]
                  have hrm : wr.cell? ⟨g, m + 1, none⟩ = some (.string ⟨(U.getD (m + 1) []).toArray⟩) := by
                    rw [cell_mk hrowh.out]
                    have : m + 1 < U.length := by rw [hUlh.out]; omega
                    simp [strsV, this]
                  have hb1 : ¬ ((m : Int) + 2 - 1 = 0) := by omega
                  go_wp2
                  go_region
                  go_wp2
                  generalize hW : World.setCell _ _ _ = W
                  have fW : W.heap[w.heap.size]? = some (.cells (fCells 4 (s.take (attrLen s)) [] (U.getD 0 []) (U.getD (m + 1) []) (.slice (some ⟨g, 1, none⟩) m (m + 1))) 33 (0, 0)) := by
                    rw [← hW]
                    exact back7 (fCells_set4 (fCells_set5 (fCells_set3 (fCells_set0 hpw.out.f 4) _) _) _) _ _ _ _ _ _ _
                  have bW : Below w.heap.size w W := by
                    rw [← hW]
                    exact below7 ((((hpw.out.below.setCell (Nat.le_refl _) _).setCell (Nat.le_refl _) _).setCell (Nat.le_refl _) _).setCell (Nat.le_refl _) _) _ _ _ _ _ _ _
                  have rW : W.heap[g]? = some (.cells (strsV U).toArray 9 (0, 0)) := by
                    rw [← hW]
                    repeat rw [heap_setCell' _ _ _ _ hne]
                    exact hrowh.out
                  refine bodyPost_ret (leaf_results rfl rfl fW) rfl ?_
                  rw [hsg.out]
                  exact ⟨_, rfl, pieces_DR (by omega) rW hUlh.out, bW.drew⟩
end Go.Abs

/- The table's second level: leaf. -/
namespace Go.Abs
open Go Go.RowKit Go.Proofs

def pLeaf : List AV → List Box → Option (DV × List Box)
  | [.d (.str s)], [] => if s.length ≤ 16384 then some (.tup [encF (leafF s).1, .bool (leafF s).2], []) else none
  | _, _ => none
def prims1 : FuncId → Option (List AV → List Box → Option (DV × List Box))
  | 95 => some pLeaf
  | f => prims f
noncomputable abbrev TU : Orc := Run (Tab.of Tryz.prog prims1)

theorem pure95 {s : List UInt8} (h : s.length ≤ 16384) : Pure Tryz.prog 95 [.str s] (.tup [encF (leafF s).1, .bool (leafF s).2]) := by
  intro m w vals hm hg hx
  obtain ⟨_, rfl, hx1⟩ := DRt_str hx
  obtain rfl := DRt_nil hx1
  refine (leaf_walk s w h ⟨m, hm, hg⟩).mono ?_
  rintro e w' ⟨u, rfl, hd, hb⟩
  refine ⟨_, rfl, hb, DR_tup2 (DR.mono ?_ _ _ hd) (by simp only [DR])⟩
  intro a v e
  have e : (if w.heap.size ≤ a.block then w'.cell? a else none) = some v := e
  split at e
  · rename_i hlt
    rw [grow_new hm hlt]
    exact e
  · cases e
theorem sound95 {args : List AV} {bs : List Box} {r : DV} {bs' : List Box} (h : pLeaf args bs = some (r, bs')) : Sound Tryz.prog 95 args bs r bs' := by
  unfold pLeaf at h
  split at h
  case h_2 => cases h
  split at h
  case isFalse => cases h
  rename_i hc
  cases h
  exact (pure95 hc).sound
theorem enters95 : Enters Tryz.prog 95 := ⟨_, Tryz.func95, by kernel_rfl, by kernel_rfl⟩
theorem prims1_ok (f : FuncId) (p : List AV → List Box → Option (DV × List Box)) {args : List AV} {bs : List Box} {r : DV} {bs' : List Box} (hf : prims1 f = some p) (h : p args bs = some (r, bs')) : Enters Tryz.prog f ∧ Sound Tryz.prog f args bs r bs' := by
  unfold prims1 at hf
  split at hf
  · cases hf
    exact ⟨enters95, sound95 h⟩
  · exact prims_ok f p hf h
theorem tab1_ok : TabOK Tryz.prog (Tab.of Tryz.prog prims1) := Tab.of_ok mixed_ok fun f p args bs r bs' hf h _ => prims1_ok f p hf h
theorem lift1 : Ole TT TU := by
  refine Run_le (fun f x hx => ?_) (fun f hf => ?_)
  · unfold prims1
    split
    · cases hx
      exact ⟨_, rfl, fun args bs r h => by cases h⟩
    · exact ⟨x, hx, fun _ _ _ h => h⟩
  · unfold prims1
    split
    · cases hf
    · exact hf
end Go.Abs
