/- Part PkG of the proof: FunG FunH FunI FunJ FunK FunL FunM. -/
import Derived.Test.YtinebfdbacaahaaGreatDoorPkF
import Derived.Test.YtinebfdbacaahaaGreatDoorPkC
set_option linter.unusedSimpArgs false
set_option linter.unusedVariables false
set_option linter.unusedSectionVars false
set_option linter.unnecessarySimpa false

/- Filters: alike. -/
namespace Go.Abs
open Go Go.Proofs

mutual
def sameF : Flt → Flt → Bool
  | .mk k a v x l y p, g => (k == g.kind) && (a == g.attr) && (v == g.value) && (x == g.first) && (l == g.last) && (y == g.any) && sameFs p g.parts
def sameFs : List Flt → List Flt → Bool
  | [], [] => true
  | p :: ps, q :: qs => sameF p q && sameFs ps qs
  | _, _ => false
end
theorem sameF_eq (f g : Flt) : sameF f g = ((f.kind == g.kind) && (f.attr == g.attr) && (f.value == g.value) && (f.first == g.first) && (f.last == g.last) && (f.any == g.any) && sameFs f.parts g.parts) := by
  cases f; simp only [sameF, Flt.kind, Flt.attr, Flt.value, Flt.first, Flt.last, Flt.any, Flt.parts]
theorem sameFs_len : ∀ {l m : List Flt}, l.length ≠ m.length → sameFs l m = false
  | [], [], h => by simp at h
  | [], _ :: _, _ => rfl
  | _ :: _, [], _ => rfl
  | p :: ps, q :: qs, h => by
    simp only [sameFs]
    rw [sameFs_len (by simpa using h)]
    simp

theorem loop48 (a b : List (List UInt8)) (hab : a.length = b.length) (ha : a.length ≤ 1073741824) : ∀ (n i : Nat), n + i = a.length →
    DnB TT (.loop b48L0) [.d (slc 1 (a.map .str)), .d (slc 1 (b.map .str)), .d (.int .i64 a.length), .d (.int .i64 i)] [] [] = if a.drop i == b.drop i then some (.ex 0, [], [], []) else some (.rt, [.d (.bool false)], [], [])
  | 0, i, hi => by
    have : ¬ ((i : Int) < (a.length : Int)) := by omega
    have h2 : a.drop i = [] := List.drop_eq_nil_of_le (by omega)
    have h3 : b.drop i = [] := List.drop_eq_nil_of_le (by omega)
    rw [L_loopU b48L0_eq]
    simp only [b48B0]
    simp only [bC, bO, bV, bF, this, decide_false, h2, h3]
    rfl
  | n + 1, i, hi => by
    have h1 : ((i : Int) < (a.length : Int)) := by omega
    have h1' : i < a.length := by omega
    have h2' : i < b.length := by omega
    have hw := wrap_inc h1' ha
    have ih := loop48 a b hab ha n (i + 1) (by omega)
    rw [List.drop_eq_getElem_cons h1', List.drop_eq_getElem_cons h2', List.cons_beq_cons]
    rw [L_loopU b48L0_eq]
    generalize (a.drop (i + 1) == b.drop (i + 1)) = B at *
    simp only [b48B0]
    simp only [bC, bO, bV, bF, bFlt, ia_map h1', ia_map h2', h1, decide_true]
    cases hc : (a[i] == b[i]) <;> simp only [bne, hc, bC, bO, bV, bF, bL, Bool.not_true, Bool.not_false, hw, ih, Bool.true_and, Bool.false_and, Bool.false_eq_true, if_false]
theorem loop50 (a b : List (List UInt8)) (hab : a.length = b.length) (ha : a.length ≤ 1073741824) : ∀ (n i : Nat), n + i = a.length →
    DnB TT (.loop b50L0) [.d (slc 1 (a.map .str)), .d (slc 1 (b.map .str)), .d (.int .i64 a.length), .d (.int .i64 i)] [] [] = if a.drop i == b.drop i then some (.ex 0, [], [], []) else some (.rt, [.d (.bool false)], [], []) := loop48 a b hab ha

theorem len_bne {α β : Type} {l : List α} {m : List β} : (((l.length : Int)) != ((m.length : Int))) = !decide (l.length = m.length) := by
  rw [bne, Bool.eq_iff_iff]; simp; omega
theorem run48 (a b : List (List UInt8)) (ha : a.length ≤ 1073741824) : TT 48 [.d (slc 1 (a.map .str)), .d (slc 1 (b.map .str))] [] = some (.bool (a == b), []) := by
  refine ok48.run ?_
  simp only [b48]
  by_cases h : a.length = b.length
  · have lp := loop48 a b h ha a.length 0 rfl
    simp only [List.drop_zero] at lp
    have lp : DnB TT (.loop b48L0) [.d (slc 1 (a.map .str)), .d (slc 1 (b.map .str)), .d (.int .i64 a.length), .d (.int .i64 0)] [] [] = _ := lp
    simp only [bC, bO, bV, bF, List.length_map, len_bne, h, decide_true, Bool.not_true]
    rw [← h, lp]
    cases (a == b) <;> simp only [bC, bF, Bool.false_eq_true, if_false, if_true, List.length_nil]
  · have hne : (a == b) = false := by
      rw [beq_eq_false_iff_ne]; intro he; exact h (by rw [he])
    simp only [bC, bO, bV, bF, List.length_map, len_bne, h, decide_false, Bool.not_false, hne, List.length_nil]
theorem run50 (a b : List (List UInt8)) (ha : a.length ≤ 1073741824) : TT 50 [.d (slc 1 (a.map .str)), .d (slc 1 (b.map .str))] [] = some (.bool (a == b), []) := by
  refine ok50.run ?_
  simp only [b50]
  by_cases h : a.length = b.length
  · have lp := loop50 a b h ha a.length 0 rfl
    simp only [List.drop_zero] at lp
    have lp : DnB TT (.loop b50L0) [.d (slc 1 (a.map .str)), .d (slc 1 (b.map .str)), .d (.int .i64 a.length), .d (.int .i64 0)] [] [] = _ := lp
    simp only [bC, bO, bV, bF, List.length_map, len_bne, h, decide_true, Bool.not_true]
    rw [← h, lp]
    cases (a == b) <;> simp only [bC, bF, Bool.false_eq_true, if_false, if_true, List.length_nil]
  · have hne : (a == b) = false := by
      rw [beq_eq_false_iff_ne]; intro he; exact h (by rw [he])
    simp only [bC, bO, bV, bF, List.length_map, len_bne, h, decide_false, Bool.not_false, hne, List.length_nil]

theorem loop24 (f g : Flt) (hfg : f.parts.length = g.parts.length) (hf : f.parts.length ≤ 1073741824) (H : ∀ i (hi : i < f.parts.length) (hj : i < g.parts.length), TT 24 [.d (encF f.parts[i]), .d (encF g.parts[i])] [] = some (.bool (sameF f.parts[i] g.parts[i]), [])) : ∀ (n i : Nat), n + i = f.parts.length →
    DnB TT (.loop b24L0) [.bp 0 0, .bp 1 0, .d (.int .i64 f.parts.length), .d (.int .i64 i)] [fbox f, fbox g] [] = if sameFs (f.parts.drop i) (g.parts.drop i) then some (.ex 0, [], [fbox f, fbox g], []) else some (.rt, [.d (.bool false)], [fbox f, fbox g], [])
  | 0, i, hi => by
    have : ¬ ((i : Int) < (f.parts.length : Int)) := by omega
    have h2 : f.parts.drop i = [] := List.drop_eq_nil_of_le (by omega)
    have h3 : g.parts.drop i = [] := List.drop_eq_nil_of_le (by omega)
    rw [L_loopU b24L0_eq]
    simp only [b24B0]
    simp only [bC, bO, bV, bF, this, decide_false, h2, h3, sameFs, if_true]
  | n + 1, i, hi => by
    have h1 : ((i : Int) < (f.parts.length : Int)) := by omega
    have h1' : i < f.parts.length := by omega
    have h2' : i < g.parts.length := by omega
    have hw := wrap_inc h1' hf
    have hr := H i h1' h2'
    have ih := loop24 f g hfg hf H n (i + 1) (by omega)
    rw [List.drop_eq_getElem_cons h1', List.drop_eq_getElem_cons h2', sameFs]
    rw [L_loopU b24L0_eq]
    generalize sameFs (f.parts.drop (i + 1)) (g.parts.drop (i + 1)) = B at *
    simp only [b24B0]
    simp only [bC, bO, bV, bF, bFlt, ia_map h1', ia_map h2', h1, decide_true, hr, bCall, bK]
    cases hc : sameF f.parts[i] g.parts[i] <;> simp only [bC, bO, bV, bF, bL, Bool.not_true, Bool.not_false, hw, ih, Bool.true_and, Bool.false_and, Bool.false_eq_true, if_false]

theorem run24 : ∀ (k : Nat) (f g : Flt), f.size ≤ k → f.Ok → TT 24 [.d (encF f), .d (encF g)] [] = some (.bool (sameF f g), [])
  | 0, f, g, hk, _ => by cases f; simp [Flt.size] at hk
  | k + 1, f, g, hk, hf => by
    have ha := run50 f.any g.any hf.any
    refine ok24.run ?_
    simp only [b24, sameF_eq]
    have LB : (((f.parts.length : Int)) != ((g.parts.length : Int))) = !decide (f.parts.length = g.parts.length) := len_bne
    have lp : (decide (f.parts.length = g.parts.length) = true ∧ DnB TT (.loop b24L0) [.bp 0 0, .bp 1 0, .d (.int .i64 f.parts.length), .d (.int .i64 0)] [fbox f, fbox g] [] = if sameFs f.parts g.parts then some (.ex 0, [], [fbox f, fbox g], []) else some (.rt, [.d (.bool false)], [fbox f, fbox g], [])) ∨ (decide (f.parts.length = g.parts.length) = false ∧ sameFs f.parts g.parts = false) := by
      by_cases h : f.parts.length = g.parts.length
      · left
        have lp := loop24 f g h hf.parts (fun i hi hj => run24 k _ _ (by have := Flt.size_part hi; omega) (hf.part hi)) f.parts.length 0 rfl
        simp only [List.drop_zero] at lp
        exact ⟨by simp [h], lp⟩
      · right
        exact ⟨by simp [h], sameFs_len h⟩
    generalize sameFs f.parts g.parts = B at *
    generalize decide (f.parts.length = g.parts.length) = C at *
    simp only [bne] at LB
    simp only [bC, bO, bV, bF, bL, bM, bFlt, bCall, bK, bne]
    cases h1 : (f.kind == g.kind) <;> simp only [h1, bC, bO, bV, bF, bL, bM, bFlt, bCall, bK, bne, List.length_nil, Bool.not_true, Bool.not_false, Bool.false_and, Bool.true_and]
    cases h2 : (f.attr == g.attr) <;> simp only [h2, bC, bO, bV, bF, bL, bM, bFlt, bCall, bK, bne, List.length_nil, Bool.not_true, Bool.not_false, Bool.false_and, Bool.true_and]
    cases h3 : (f.value == g.value) <;> simp only [h3, bC, bO, bV, bF, bL, bM, bFlt, bCall, bK, bne, List.length_nil, Bool.not_true, Bool.not_false, Bool.false_and, Bool.true_and]
    cases h4 : (f.first == g.first) <;> simp only [h4, bC, bO, bV, bF, bL, bM, bFlt, bCall, bK, bne, List.length_nil, Bool.not_true, Bool.not_false, Bool.false_and, Bool.true_and]
    cases h5 : (f.last == g.last) <;> simp only [h5, bC, bO, bV, bF, bL, bM, bFlt, bCall, bK, bne, List.length_nil, Bool.not_true, Bool.not_false, Bool.false_and, Bool.true_and, ha]
    cases h6 : (f.any == g.any) <;> simp only [h6, bC, bO, bV, bF, bL, bM, bFlt, bCall, bK, bne, List.length_nil, List.length_map, LB, Bool.not_true, Bool.not_false, Bool.false_and, Bool.true_and]
    rcases lp with ⟨hC, lp⟩ | ⟨hC, hB⟩
    · simp only [hC, bC, bO, bV, bF, bL, bM, bFlt, Bool.not_true, List.length_map, lp]
      cases B <;> simp only [bC, bF, Bool.false_eq_true, if_false, if_true]
    · simp only [hC, hB, bC, bO, bV, bF, bL, bM, bFlt, Bool.not_false]

theorem f_st0 {a b c d e g h : DV} {tau : List Nat} (p : Flt) : stK 7 [.cells ([a, b, c, d, e, g, h].map .d)] tau (.bp 0 0) (.d (encF p)) = some (.junk, [fbox p], tau) := by
  unfold fbox; rw [encF_eq]; rfl

theorem loop49 (a b : List Flt) (hfg : a.length = b.length) (hf : a.length ≤ 1073741824) (H : ∀ i (hi : i < a.length) (hj : i < b.length), TT 23 [.d (encF a[i]), .d (encF b[i])] [] = some (.bool (sameF a[i] b[i]), [])) : ∀ (n i : Nat), n + i = a.length →
    (sameFs (a.drop i) (b.drop i) = true ∧ DnB TT (.loop b49L0) [.d (slc 7 (b.map encF)), .fn 23 [], .d (slc 7 (a.map encF)), .d (.int .i64 a.length), .d (.int .i64 i)] [] [] = some (.ex 0, [], [], [])) ∨
    (sameFs (a.drop i) (b.drop i) = false ∧ ∃ bs, DnB TT (.loop b49L0) [.d (slc 7 (b.map encF)), .fn 23 [], .d (slc 7 (a.map encF)), .d (.int .i64 a.length), .d (.int .i64 i)] [] [] = some (.rt, [.d (.bool false)], bs, []))
  | 0, i, hi => by
    have : ¬ ((i : Int) < (a.length : Int)) := by omega
    have h2 : a.drop i = [] := List.drop_eq_nil_of_le (by omega)
    have h3 : b.drop i = [] := List.drop_eq_nil_of_le (by omega)
    left
    refine ⟨by rw [h2, h3, sameFs], ?_⟩
    rw [L_loopU b49L0_eq]
    simp only [b49B0]
    simp only [bC, bO, bV, bF, this, decide_false]
  | n + 1, i, hi => by
    have h1 : ((i : Int) < (a.length : Int)) := by omega
    have h1' : i < a.length := by omega
    have h2' : i < b.length := by omega
    have hw := wrap_inc h1' hf
    have hr := H i h1' h2'
    have ih := loop49 a b hfg hf H n (i + 1) (by omega)
    rw [List.drop_eq_getElem_cons h1', List.drop_eq_getElem_cons h2', sameFs]
    rw [L_loopU b49L0_eq]
    generalize sameFs (a.drop (i + 1)) (b.drop (i + 1)) = B at *
    simp only [b49B0]
    simp only [bC, bO, bV, bF, bL, bM, bFlt, f_st0, f_st1, ia_map h1', ia_map h2', h1, decide_true, hr, bCall, bK]
    cases hc : sameF a[i] b[i] <;> simp only [bC, bO, bV, bF, bL, Bool.not_true, Bool.not_false, hw, Bool.true_and, Bool.false_and]
    · right; exact ⟨trivial, _, rfl⟩
    · exact ih

theorem run23 : ∀ (k : Nat) (f g : Flt), f.size ≤ k → f.Ok → TT 23 [.d (encF f), .d (encF g)] [] = some (.bool (sameF f g), [])
  | 0, f, g, hk, _ => by cases f; simp [Flt.size] at hk
  | k + 1, f, g, hk, hf => by
    have ha := run48 f.any g.any hf.any
    have hp : TT 49 [.d (slc 7 (f.parts.map encF)), .d (slc 7 (g.parts.map encF)), .fn 23 []] [] = some (.bool (sameFs f.parts g.parts), []) := by
      refine ok49.run ?_
      simp only [b49]
      have LB : (((f.parts.length : Int)) != ((g.parts.length : Int))) = !decide (f.parts.length = g.parts.length) := len_bne
      by_cases h : f.parts.length = g.parts.length
      · have lp := loop49 f.parts g.parts h hf.parts (fun i hi hj => run23 k _ _ (by have := Flt.size_part hi; omega) (hf.part hi)) f.parts.length 0 rfl
        simp only [List.drop_zero] at lp
        have LB2 : (((f.parts.length : Int)) != ((g.parts.length : Int))) = false := by rw [LB]; simp [h]
        simp only [bC, bO, bV, bF, List.length_map, LB2]
        rcases lp with ⟨h1, lp⟩ | ⟨h1, bs, lp⟩
        · have lp : DnB TT (.loop b49L0) [.d (slc 7 (g.parts.map encF)), .fn 23 [], .d (slc 7 (f.parts.map encF)), .d (.int .i64 f.parts.length), .d (.int .i64 0)] [] [] = _ := lp
          simp only [lp, bC, bF, h1, List.length_nil]
        · have lp : DnB TT (.loop b49L0) [.d (slc 7 (g.parts.map encF)), .fn 23 [], .d (slc 7 (f.parts.map encF)), .d (.int .i64 f.parts.length), .d (.int .i64 0)] [] [] = _ := lp
          simp only [lp, bC, bF, h1, List.length_nil]
      · simp only [bC, bO, bV, bF, List.length_map, LB, h, decide_false, Bool.not_false, List.length_nil, sameFs_len h]
    refine ok23.run ?_
    simp only [b23, sameF_eq]
    simp only [bC, bO, bV, bF, bL, bM, bFlt, bCall, bK]
    cases h1 : (f.kind == g.kind) <;> simp only [h1, bC, bO, bV, bF, bL, bM, bFlt, bCall, bK, List.length_nil, Bool.false_and, Bool.true_and]
    cases h2 : (f.attr == g.attr) <;> simp only [h2, bC, bO, bV, bF, bL, bM, bFlt, bCall, bK, List.length_nil, Bool.false_and, Bool.true_and]
    cases h3 : (f.value == g.value) <;> simp only [h3, bC, bO, bV, bF, bL, bM, bFlt, bCall, bK, List.length_nil, Bool.false_and, Bool.true_and]
    cases h4 : (f.first == g.first) <;> simp only [h4, bC, bO, bV, bF, bL, bM, bFlt, bCall, bK, List.length_nil, Bool.false_and, Bool.true_and]
    cases h5 : (f.last == g.last) <;> simp only [h5, bC, bO, bV, bF, bL, bM, bFlt, bCall, bK, List.length_nil, Bool.false_and, Bool.true_and, ha]
    cases h6 : (f.any == g.any) <;> simp only [h6, bC, bO, bV, bF, bL, bM, bFlt, bCall, bK, List.length_nil, Bool.false_and, Bool.true_and, hp]
end Go.Abs

/- Escaped texts; signs. -/
namespace Go.Abs
open Go Go.Proofs

def hexD (n : UInt8) : UInt8 := ([48, 49, 50, 51, 52, 53, 54, 55, 56, 57, 97, 98, 99, 100, 101, 102] : List UInt8).getD n.toNat 0
def bad (c : UInt8) : Bool := decide ((c.toNat : Int) < 32) || decide ((126 : Int) < c.toNat) || ((c.toNat : Int) == 42) || ((c.toNat : Int) == 40) || ((c.toNat : Int) == 41) || ((c.toNat : Int) == 92)
def esc (c : UInt8) : List UInt8 := if bad c then [92, hexD (c >>> 4), hexD (c &&& 15)] else [c]
def escS (s : List UInt8) : List UInt8 := s.flatMap esc
theorem esc_len (c : UInt8) : (esc c).length ≤ 3 ∧ esc c ≠ [] := by unfold esc; split <;> simp

theorem shr4 {bs : List Box} {tau : List Nat} (c : UInt8) : binK bs tau .shr (.d (.int .u8 c.toNat)) (.d (.int .u64 4)) = some (.d (.int .u8 (c >>> 4).toNat), bs, tau) := by
  have h : ∀ c : UInt8, (c.toNat : Int).fdiv (2 ^ (min (4 : Int).toNat 8)) = ((c >>> 4).toNat : Int) := all_u8 (by decide +kernel)
  simp only [binK, evBin, optDV]
  rw [if_neg (by decide), show IntKind.u8.bits = 8 from rfl, h c]
theorem and15 {bs : List Box} {tau : List Nat} (c : UInt8) : binK bs tau .and (.d (.int .u8 c.toNat)) (.d (.int .u8 15)) = some (.d (.int .u8 (c &&& 15).toNat), bs, tau) := by
  have h : ∀ c : UInt8, IntKind.u8.wrap ((BitVec.ofInt 8 (c.toNat : Int) &&& BitVec.ofInt 8 15).toNat : Int) = ((c &&& 15).toNat : Int) := all_u8 (by decide +kernel)
  simp only [binK, evBin, if_true, optDV]
  rw [show IntKind.u8.bits = 8 from rfl, h c]
theorem ix_hex {bs : List Box} {tau : List Nat} {n : UInt8} (h : n.toNat < 16) : ixsK bs tau (.d (.str [48, 49, 50, 51, 52, 53, 54, 55, 56, 57, 97, 98, 99, 100, 101, 102])) (.d (.int .u8 n.toNat)) = some (.d (.int .u8 (hexD n).toNat), bs, tau) := by
  rw [ix_ok (by simpa using h)]
  simp only [hexD]
  rw [List.getD_eq_getElem?_getD, List.getElem?_eq_getElem (by simpa using h)]
  rfl
theorem lt16a (c : UInt8) : (c >>> 4).toNat < 16 := by revert c; exact all_u8 (by decide +kernel)
theorem lt16b (c : UInt8) : (c &&& 15).toNat < 16 := by revert c; exact all_u8 (by decide +kernel)
theorem mks3 {bs : List Box} {tau : List Nat} {a b c : UInt8} : mksK none 1 3 [.int .u8 0] bs tau [(0, .d (.int .u8 a.toNat)), (1, .d (.int .u8 b.toNat)), (2, .d (.int .u8 c.toNat))] = some (.d (.slice 1 (bytesD [a, b, c])), bs, tau) := rfl
theorem mks3' {bs : List Box} {tau : List Nat} {b c : UInt8} : mksK none 1 3 [.int .u8 0] bs tau [(0, .d (.int .u8 92)), (1, .d (.int .u8 b.toNat)), (2, .d (.int .u8 c.toNat))] = some (.d (.slice 1 (bytesD [92, b, c])), bs, tau) := rfl
theorem mks1 {bs : List Box} {tau : List Nat} {a : UInt8} : mksK none 1 1 [.int .u8 0] bs tau [(0, .d (.int .u8 a.toNat))] = some (.d (.slice 1 (bytesD [a])), bs, tau) := rfl

theorem loop89 (s : List UInt8) (hs : s.length ≤ 300000000) : ∀ (n i : Nat) (out : List UInt8), n + i = s.length → out.length ≤ 3 * i →
    DnB TT (.loop b89L0) [.d (.str s), ownV 5 1 (bytesD out), .d (.int .i64 i)] [] (ownT (bytesD out)) = some (.ex 0, [ownV 5 1 (bytesD (out ++ escS (s.drop i)))], [], ownT (bytesD (out ++ escS (s.drop i))))
  | 0, i, out, hi, _ => by
    have : ¬ ((i : Int) < (s.length : Int)) := by omega
    have h2 : s.drop i = [] := List.drop_eq_nil_of_le (by omega)
    rw [L_loopU b89L0_eq]
    simp only [b89B0]
    simp only [bC, bO, bV, bF, this, decide_false, h2, escS, List.flatMap_nil, List.append_nil]
  | n + 1, i, out, hi, ho => by
    have h1 : ((i : Int) < (s.length : Int)) := by omega
    have h1' : i < s.length := by omega
    have hw := wrap_inc h1' (by omega)
    have el := esc_len s[i]
    have ih := loop89 s hs n (i + 1) (out ++ esc s[i]) (by omega) (by simp only [List.length_append]; omega)
    have e : escS (s.drop i) = esc s[i] ++ escS (s.drop (i + 1)) := by
      rw [List.drop_eq_getElem_cons h1', escS, List.flatMap_cons]; rfl
    rw [e, ← List.append_assoc]
    have ap : appK 5 1 [] (ownT (bytesD out)) (ownV 5 1 (bytesD out)) (.d (.slice 1 (bytesD (esc s[i])))) = some (ownV 5 1 (bytesD (out ++ esc s[i])), [], ownT (bytesD (out ++ esc s[i]))) := by
      rw [app_own, bytesD_app]
      · intro h; have := congrArg List.length h; rw [bytesD_len] at this; simp at this; exact el.2 this
      · simp only [bytesD_len, maxLenN]; omega
    have key : bad s[i] = true ∧ esc s[i] = [92, hexD (s[i] >>> 4), hexD (s[i] &&& 15)] ∨ bad s[i] = false ∧ esc s[i] = [s[i]] := by
      cases hb : bad s[i] <;> simp [esc, hb]
    rw [L_loopU b89L0_eq]
    simp only [b89B0]
    rcases key with ⟨hb, he⟩ | ⟨hb, he⟩
    · rw [he] at ap
      simp only [bad] at hb
      repeat' (simp only [bC, bO, bV, bF, bL, bM, R_mks, List.map_cons, List.map_nil, mks3', shr4, and15, ix_hex (lt16a _), ix_hex (lt16b _), ap, ownV_clr, ix_ok h1', h1, decide_true, hw, *]; (try (simp only [grdK, cndK]; split)))
      all_goals (simp_all; done)
    · rw [he] at ap
      simp only [bad, Bool.or_eq_false_iff] at hb
      obtain ⟨⟨⟨⟨⟨h3, h4⟩, h5⟩, h6⟩, h7⟩, h8⟩ := hb
      simp only [bC, bO, bV, bF, bL, bM, R_mks, List.map_cons, List.map_nil, mks1, ap, ownV_clr, ix_ok h1', h1, decide_true, hw, h3, h4, h5, h6, h7, h8]
      rw [← he]
      exact ih

theorem run89 (s : List UInt8) (hs : s.length ≤ 300000000) : TT 89 [.d (.str s)] [] = some (.str (escS s), []) := by
  refine ok89.run ?_
  have lp := loop89 s hs s.length 0 [] rfl (by simp)
  have lp : DnB TT (.loop b89L0) [.d (.str s), .d (.nils 0), .d (.int .i64 0)] [] [] = some (.ex 0, [ownV 5 1 (bytesD (escS s))], [], ownT (bytesD (escS s))) := lp
  simp only [b89]
  simp only [bC, bO, bV, bF, bL, lp, conv_own, List.length_nil]

theorem run93 (s : List UInt8) (hs : s.length ≤ 1073741824) (c : UInt8) : TT 93 [.d (.str s), .d (.int .u8 c.toNat)] [] = some (.int .i64 (idxByte c s 0), []) := by
  refine Run_prim (T := Tab.of Tryz.prog prims) rfl ?_
  have := c.toNat_lt
  simp only [pIdxByte]
  rw [if_pos ⟨hs, by omega, by omega⟩]
  simp
theorem idx4 (c : UInt8) : decide ((0 : Int) ≤ idxByte c [42, 40, 41, 92] 0) = (((c.toNat : Int) == 42) || ((c.toNat : Int) == 40) || ((c.toNat : Int) == 41) || ((c.toNat : Int) == 92)) := by
  revert c; exact all_u8 (by decide +kernel)

theorem loop87 (s : List UInt8) (hs : s.length ≤ 300000000) : ∀ (n i : Nat) (out : List UInt8), n + i = s.length → out.length ≤ 3 * i →
    DnB TT (.loop b87L0) [.bp 0 0, .d (.slice 1 (bytesD s)), .d (.int .i64 s.length), .d (.int .i64 i)] [.bld out] [] = some (.ex 0, [.bp 0 0], [.bld (out ++ escS (s.drop i))], [])
  | 0, i, out, hi, _ => by
    have : ¬ ((i : Int) < (s.length : Int)) := by omega
    have h2 : s.drop i = [] := List.drop_eq_nil_of_le (by omega)
    rw [L_loopU b87L0_eq]
    simp only [b87B0]
    simp only [bC, bO, bV, bF, this, decide_false, h2, escS, List.flatMap_nil, List.append_nil]
  | n + 1, i, out, hi, ho => by
    have h1 : ((i : Int) < (s.length : Int)) := by omega
    have h1' : i < s.length := by omega
    have hw := wrap_inc h1' (by omega)
    have el := esc_len s[i]
    have ih := loop87 s hs n (i + 1) (out ++ esc s[i]) (by omega) (by simp only [List.length_append]; omega)
    have e : escS (s.drop i) = esc s[i] ++ escS (s.drop (i + 1)) := by
      rw [List.drop_eq_getElem_cons h1', escS, List.flatMap_cons]; rfl
    rw [e, ← List.append_assoc]
    have key : bad s[i] = true ∧ esc s[i] = [92, hexD (s[i] >>> 4), hexD (s[i] &&& 15)] ∨ bad s[i] = false ∧ esc s[i] = [s[i]] := by
      cases hb : bad s[i] <;> simp [esc, hb]
    have ri := run93 [42, 40, 41, 92] (by simp) s[i]
    have i4 := idx4 s[i]
    have w1 : ∀ {r tau}, evCall TT false 85 [.bp 0 0, .d (.int .u8 s[i].toNat)] (.bld out :: r) tau = some (.d .nili, .bld (out ++ [s[i]]) :: r, tau) := wb_byte (by simp only [maxLenN]; omega)
    have w3 : ∀ {r tau}, evCall TT false 136 [.bp 0 0, .d (.slice 1 (bytesD [92, hexD (s[i] >>> 4), hexD (s[i] &&& 15)]))] (.bld out :: r) tau = some (.d (.tup [.int .i64 3, .nili]), .bld (out ++ [92, hexD (s[i] >>> 4), hexD (s[i] &&& 15)]) :: r, tau) := wb_bytes (by simp only [maxLenN]; simp only [List.length_cons, List.length_nil]; omega)
    have ri : ∀ {bs tau}, evCall TT false 93 [.d (.str [42, 40, 41, 92]), .d (.int .u8 s[i].toNat)] bs tau = some (.d (.int .i64 (idxByte s[i] [42, 40, 41, 92] 0)), bs, tau) := by
      intros; simp only [bK, bCall, bF, ri]
    have im : ∀ {k : IntKind} {bs tau}, iadK bs tau 1 (.d (.slice 1 (bytesD s))) (.d (.int k i)) = some (.ep [.int .u8 s[i].toNat], bs, tau) := by
      intros; unfold bytesD; rw [(ia_map h1').1]; rfl
    rw [L_loopU b87L0_eq]
    simp only [b87B0]
    rcases key with ⟨hb, he⟩ | ⟨hb, he⟩
    · rw [he] at ih ⊢
      simp only [bad] at hb
      repeat' (simp only [bC, bO, bV, bF, bL, bM, bFlt, R_mks, List.map_cons, List.map_nil, mks3', shr4, and15, ix_hex (lt16a _), ix_hex (lt16b _), im, w3, ri, i4, h1, decide_true, hw, *]; (try (simp only [grdK, cndK]; split)))
      all_goals (simp_all; done)
    · rw [he] at ih ⊢
      simp only [bad, Bool.or_eq_false_iff] at hb
      obtain ⟨⟨⟨⟨⟨h3, h4⟩, h5⟩, h6⟩, h7⟩, h8⟩ := hb
      simp only [bC, bO, bV, bF, bL, bM, bFlt, R_mks, List.map_cons, List.map_nil, mks1, im, w1, ri, i4, h1, decide_true, hw, h3, h4, h5, h6, h7, h8, Bool.or_false]
      exact ih

theorem run87 (s : List UInt8) (hs : s.length ≤ 300000000) : TT 87 [.d (.str s)] [] = some (.str (escS s), []) := by
  refine ok87.run ?_
  have lp := loop87 s hs s.length 0 [] rfl (by simp)
  have lp : DnB TT (.loop b87L0) [.bp 0 0, .d (.slice 1 (bytesD s)), .d (.int .i64 s.length), .d (.int .i64 0)] [.bld []] [] = some (.ex 0, [.bp 0 0], [.bld (escS s)], []) := lp
  have cv : ∀ bs tau, convK .sb bs tau (.d (.str s)) = some (.d (.slice 1 (bytesD s)), bs, tau) := by
    intros; simp only [convK, AV.dv, evConv]; rw [if_pos (show s.length ≤ maxLenN by simp only [maxLenN]; omega)]; rfl
  have w : ∀ {r tau}, evCall TT false 44 [.bp 0 0] (.bld (escS s) :: r) tau = some (.d (.str (escS s)), .cells [.d .any, .d .any] :: r, tau) := wb_out
  simp only [b87]
  simp only [bC, bO, bV, bF, bL, cv, bytesD_len, lp, w]

def signS (k : Int) : List UInt8 := if k == 5 then [62, 61] else if k == 6 then [60, 61] else if k == 8 then [126, 61] else [61]
theorem run88 (k : Int) : TT 88 [.d (.int .i64 k)] [] = some (.str (signS k), []) := by
  refine ok88.run ?_
  simp only [b88, signS]
  repeat' (simp only [bC, bO, bV, bF, List.length_nil, *]; (try (simp only [grdK, cndK]; split)))
  all_goals simp_all
theorem run90 (k : Int) : TT 90 [.d (.int .i64 k)] [] = some (.str (signS k), []) := by
  refine ok90.run ?_
  simp only [b90, signS]
  repeat' (simp only [bC, bO, bV, bF, List.length_nil, *]; (try (simp only [grdK, cndK]; split)))
  all_goals simp_all
end Go.Abs

/- A filter's text: the document's. -/
namespace Go.Abs
open Go Go.Proofs

def sym (k : Int) : UInt8 := if k == 0 then 38 else if k == 1 then 124 else 33
def anyT (l : List (List UInt8)) : List UInt8 := l.flatMap fun p => escS p ++ [42]
mutual
def textF : Flt → List UInt8
  | .mk k a v x l y p =>
    [40] ++ (if k == 0 || k == 1 || k == 2 then [sym k] ++ textFs p
      else if k == 7 then a ++ [61, 42]
      else if k == 4 then a ++ [61] ++ escS x ++ [42] ++ anyT y ++ escS l
      else a ++ signS k ++ escS v) ++ [41]
def textFs : List Flt → List UInt8
  | [] => []
  | p :: ps => textF p ++ textFs ps
end
theorem textF_eq (f : Flt) : textF f = [40] ++ (if f.kind == 0 || f.kind == 1 || f.kind == 2 then [sym f.kind] ++ textFs f.parts
      else if f.kind == 7 then f.attr ++ [61, 42]
      else if f.kind == 4 then f.attr ++ [61] ++ escS f.first ++ [42] ++ anyT f.any ++ escS f.last
      else f.attr ++ signS f.kind ++ escS f.value) ++ [41] := by
  cases f; simp only [textF, Flt.kind, Flt.attr, Flt.value, Flt.first, Flt.last, Flt.any, Flt.parts]; rfl
theorem escS_ge : ∀ s : List UInt8, s.length ≤ (escS s).length
  | [] => by simp [escS]
  | c :: l => by
    have := escS_ge l
    have h : 1 ≤ (esc c).length := by unfold esc; split <;> simp
    simp only [escS, List.flatMap_cons, List.length_append, List.length_cons] at *
    omega

theorem add_str {bs : List Box} {tau : List Nat} {a b : List UInt8} (h : a.length + b.length ≤ maxLenN) : binK bs tau .add (.d (.str a)) (.d (.str b)) = some (.d (.str (a ++ b)), bs, tau) := by
  simp only [binK, evBin, if_pos h, optDV]
/-- Numbers. -/
theorem bI : (((0 : Int) == 0) = true) ∧ (((1 : Int) == 0) = false) ∧ (((1 : Int) == 1) = true) ∧ (((2 : Int) == 0) = false) ∧ (((2 : Int) == 1) = false) ∧ (((2 : Int) == 2) = true) ∧
    (((7 : Int) == 0) = false) ∧ (((7 : Int) == 1) = false) ∧ (((7 : Int) == 2) = false) ∧ (((7 : Int) == 7) = true) ∧
    (((4 : Int) == 0) = false) ∧ (((4 : Int) == 1) = false) ∧ (((4 : Int) == 2) = false) ∧ (((4 : Int) == 7) = false) ∧ (((4 : Int) == 4) = true) := by decide

theorem loop45a (f : Flt) (hf : f.Ok) (H : ∀ i (hi : i < f.parts.length), (textF f.parts[i]).length ≤ 300000000 → TT 45 [.d (encF f.parts[i])] [] = some (.str (textF f.parts[i]), [])) : ∀ (n i : Nat) (s : List UInt8), n + i = f.parts.length → s.length + (textFs (f.parts.drop i)).length ≤ 300000000 →
    DnB TT (.loop b45L0) [.bp 0 0, .d (.str s), .d (.int .i64 f.parts.length), .d (.int .i64 i)] [fbox f] [] = some (.ex 1, [.d (.str (s ++ textFs (f.parts.drop i)))], [fbox f], [])
  | 0, i, s, hi, _ => by
    have : ¬ ((i : Int) < (f.parts.length : Int)) := by omega
    have h2 : f.parts.drop i = [] := List.drop_eq_nil_of_le (by omega)
    rw [L_loopU b45L0_eq]
    simp only [b45B0]
    simp only [bC, bO, bV, bF, this, decide_false, h2, textFs, List.append_nil]
  | n + 1, i, s, hi, hs => by
    have h1 : ((i : Int) < (f.parts.length : Int)) := by omega
    have h1' : i < f.parts.length := by omega
    have hw := wrap_inc h1' hf.parts
    rw [List.drop_eq_getElem_cons h1', textFs, List.length_append] at hs
    have hr := H i h1' (by omega)
    have ih := loop45a f hf H n (i + 1) (s ++ textF f.parts[i]) (by omega) (by rw [List.length_append]; omega)
    have ad : ∀ {bs tau}, binK bs tau .add (.d (.str s)) (.d (.str (textF f.parts[i]))) = some (.d (.str (s ++ textF f.parts[i])), bs, tau) := add_str (by simp only [maxLenN]; omega)
    rw [List.drop_eq_getElem_cons h1', textFs, ← List.append_assoc]
    rw [L_loopU b45L0_eq]
    simp only [b45B0]
    simp only [bC, bO, bV, bF, bL, bFlt, ia_map h1', hr, ad, bCall, bK, h1, decide_true, hw, ih]

theorem loop45b (f : Flt) (hf : f.Ok) : ∀ (n i : Nat) (s : List UInt8), n + i = f.any.length → s.length + (anyT (f.any.drop i)).length ≤ 300000000 →
    DnB TT (.loop b45L1) [.bp 0 0, .d (.str s), .d (.int .i64 f.any.length), .d (.int .i64 i)] [fbox f] [] = some (.ex 3, [.bp 0 0, .d (.str (s ++ anyT (f.any.drop i)))], [fbox f], [])
  | 0, i, s, hi, _ => by
    have : ¬ ((i : Int) < (f.any.length : Int)) := by omega
    have h2 : f.any.drop i = [] := List.drop_eq_nil_of_le (by omega)
    rw [L_loopU b45L1_eq]
    simp only [b45B1]
    simp only [bC, bO, bV, bF, this, decide_false, h2, anyT, List.flatMap_nil, List.append_nil]
  | n + 1, i, s, hi, hs => by
    have h1 : ((i : Int) < (f.any.length : Int)) := by omega
    have h1' : i < f.any.length := by omega
    have hw := wrap_inc h1' hf.any
    have e : anyT (f.any.drop i) = (escS f.any[i] ++ [42]) ++ anyT (f.any.drop (i + 1)) := by
      rw [List.drop_eq_getElem_cons h1', anyT, List.flatMap_cons]; rfl
    rw [e] at hs ⊢
    simp only [List.length_append, List.length_cons, List.length_nil] at hs
    have hg := escS_ge f.any[i]
    have hr := run89 f.any[i] (by omega)
    have ih := loop45b f hf n (i + 1) ((s ++ escS f.any[i]) ++ [42]) (by omega) (by simp only [List.length_append, List.length_cons, List.length_nil]; omega)
    have ad : ∀ {bs tau}, binK bs tau .add (.d (.str s)) (.d (.str (escS f.any[i]))) = some (.d (.str (s ++ escS f.any[i])), bs, tau) := add_str (by simp only [maxLenN]; omega)
    have ad2 : ∀ {bs tau}, binK bs tau .add (.d (.str (s ++ escS f.any[i]))) (.d (.str [42])) = some (.d (.str ((s ++ escS f.any[i]) ++ [42])), bs, tau) := add_str (by simp only [maxLenN, List.length_append, List.length_cons, List.length_nil]; omega)
    rw [L_loopU b45L1_eq]
    simp only [b45B1]
    simp only [bC, bO, bV, bF, bL, bFlt, ia_map h1', hr, ad, ad2, bCall, bK, h1, decide_true, hw, ih]
    simp only [List.append_assoc]

theorem run45 : ∀ (k : Nat) (f : Flt), f.size ≤ k → f.Ok → (textF f).length ≤ 300000000 → TT 45 [.d (encF f)] [] = some (.str (textF f), [])
  | 0, f, hk, _, _ => by cases f; simp [Flt.size] at hk
  | k + 1, f, hk, hf, ht => by
    have lp := fun s => loop45a f hf (fun i hi h => run45 k _ (by have := Flt.size_part hi; omega) (hf.part hi) h) f.parts.length 0 s rfl
    have lq := fun s => loop45b f hf f.any.length 0 s rfl
    simp only [List.drop_zero] at lp lq
    refine ok45.run ?_
    rw [textF_eq] at ht ⊢
    simp only [b45]
    have fin : ∀ {s bs tau}, s.length ≤ 300000000 → binK bs tau .add (.d (.str [40])) (.d (.str s)) = some (.d (.str ([40] ++ s)), bs, tau) ∧ binK bs tau .add (.d (.str ([40] ++ s))) (.d (.str [41])) = some (.d (.str ([40] ++ s ++ [41])), bs, tau) := by
      intro s bs tau h
      exact ⟨add_str (by simp only [maxLenN, List.length_cons, List.length_nil]; omega), add_str (by simp only [maxLenN, List.length_append, List.length_cons, List.length_nil]; omega)⟩
    by_cases h0 : f.kind = 0 ∨ f.kind = 1 ∨ f.kind = 2
    · have hL : (textFs f.parts).length ≤ 300000000 - 3 := by
        rcases h0 with h | h | h <;> simp only [h, bI, Bool.true_or, Bool.or_true, if_true, List.length_append, List.length_cons, List.length_nil] at ht <;> omega
      have l0 : ∀ c : UInt8, DnB TT (.loop b45L0) [.bp 0 0, .d (.str [c]), .d (.int .i64 f.parts.length), .d (.int .i64 0)] [fbox f] [] = some (.ex 1, [.d (.str ([c] ++ textFs f.parts))], [fbox f], []) := fun c => lp [c] (by simp only [List.length_cons, List.length_nil]; omega)
      have hF := fun c : UInt8 => fun {bs tau} => @fin ([c] ++ textFs f.parts) bs tau (by simp only [List.length_append, List.length_cons, List.length_nil]; omega)
      have w0 : IntKind.i64.wrap ((0 : Int) + 1) = 1 := by decide
      have w1 : IntKind.i64.wrap ((1 : Int) + 1) = 2 := by decide
      have w2 : IntKind.i64.wrap ((2 : Int) + 1) = 3 := by decide
      have s0 : ∀ {bs tau a b c d e g}, slsK bs tau [a, b, c, d, .d (.int .i64 0), e, g, .d (.int .i64 1)] (some (.t 4)) (some (.t 7)) (.d (.str [38, 124, 33])) = some (.d (.str [38]), bs, tau) := by intros; rfl
      have s1 : ∀ {bs tau a b c d e g}, slsK bs tau [a, b, c, d, .d (.int .i64 1), e, g, .d (.int .i64 2)] (some (.t 4)) (some (.t 7)) (.d (.str [38, 124, 33])) = some (.d (.str [124]), bs, tau) := by intros; rfl
      have s2 : ∀ {bs tau a b c d e g}, slsK bs tau [a, b, c, d, .d (.int .i64 2), e, g, .d (.int .i64 3)] (some (.t 4)) (some (.t 7)) (.d (.str [38, 124, 33])) = some (.d (.str [33]), bs, tau) := by intros; rfl
      have y0 : sym 0 = 38 := rfl
      have y1 : sym 1 = 124 := rfl
      have y2 : sym 2 = 33 := rfl
      rcases h0 with h | h | h
      · simp only [bC, bO, bV, bF, bL, bM, bFlt, bI, h, w0, s0, List.length_map, l0, (hF 38).1, (hF 38).2, List.length_nil, Bool.true_or, Bool.or_true, if_true, y0]
      · simp only [bC, bO, bV, bF, bL, bM, bFlt, bI, h, w1, s1, List.length_map, l0, (hF 124).1, (hF 124).2, List.length_nil, Bool.true_or, Bool.or_true, if_true, y1]
      · simp only [bC, bO, bV, bF, bL, bM, bFlt, bI, h, w2, s2, List.length_map, l0, (hF 33).1, (hF 33).2, List.length_nil, Bool.true_or, Bool.or_true, if_true, y2]
    · have k0 : (f.kind == 0) = false := by simp; omega
      have k1 : (f.kind == 1) = false := by simp; omega
      have k2 : (f.kind == 2) = false := by simp; omega
      simp only [k0, k1, k2, Bool.or_self, Bool.false_eq_true, if_false] at ht ⊢
      cases k7 : (f.kind == 7)
      · cases k4 : (f.kind == 4)
        · simp only [k7, k4, Bool.false_eq_true, if_false, List.length_append, List.length_cons, List.length_nil] at ht ⊢
          have hg := escS_ge f.value
          have hr := run89 f.value (by omega)
          have a1 : ∀ {bs tau}, binK bs tau .add (.d (.str f.attr)) (.d (.str (signS f.kind))) = some (.d (.str (f.attr ++ signS f.kind)), bs, tau) := add_str (by simp only [maxLenN]; omega)
          have a2 : ∀ {bs tau}, binK bs tau .add (.d (.str (f.attr ++ signS f.kind))) (.d (.str (escS f.value))) = some (.d (.str (f.attr ++ signS f.kind ++ escS f.value)), bs, tau) := add_str (by simp only [maxLenN, List.length_append]; omega)
          have hF := fun {bs tau} => @fin (f.attr ++ signS f.kind ++ escS f.value) bs tau (by simp only [List.length_append]; omega)
          simp only [bC, bO, bV, bF, bL, bM, bFlt, bCall, bK, k0, k1, k2, k7, k4, run90, hr, a1, a2, hF.1, hF.2]
        · simp only [k7, k4, Bool.false_eq_true, if_false, if_true, List.length_append, List.length_cons, List.length_nil] at ht ⊢
          have hg := escS_ge f.first
          have hg2 := escS_ge f.last
          have hr := run89 f.first (by omega)
          have hr2 := run89 f.last (by omega)
          have a1 : ∀ {bs tau}, binK bs tau .add (.d (.str f.attr)) (.d (.str [61])) = some (.d (.str (f.attr ++ [61])), bs, tau) := add_str (by simp only [maxLenN, List.length_cons, List.length_nil]; omega)
          have a2 : ∀ {bs tau}, binK bs tau .add (.d (.str (f.attr ++ [61]))) (.d (.str (escS f.first))) = some (.d (.str (f.attr ++ [61] ++ escS f.first)), bs, tau) := add_str (by simp only [maxLenN, List.length_append, List.length_cons, List.length_nil]; omega)
          have a3 : ∀ {bs tau}, binK bs tau .add (.d (.str (f.attr ++ [61] ++ escS f.first))) (.d (.str [42])) = some (.d (.str (f.attr ++ [61] ++ escS f.first ++ [42])), bs, tau) := add_str (by simp only [maxLenN, List.length_append, List.length_cons, List.length_nil]; omega)
          have l3 : DnB TT (.loop b45L1) [.bp 0 0, .d (.str (f.attr ++ [61] ++ escS f.first ++ [42])), .d (.int .i64 f.any.length), .d (.int .i64 0)] [fbox f] [] = _ := lq (f.attr ++ [61] ++ escS f.first ++ [42]) (by simp only [List.length_append, List.length_cons, List.length_nil]; omega)
          have a4 : ∀ {bs tau}, binK bs tau .add (.d (.str (f.attr ++ [61] ++ escS f.first ++ [42] ++ anyT f.any))) (.d (.str (escS f.last))) = some (.d (.str (f.attr ++ [61] ++ escS f.first ++ [42] ++ anyT f.any ++ escS f.last)), bs, tau) := add_str (by simp only [maxLenN, List.length_append, List.length_cons, List.length_nil]; omega)
          have hF := fun {bs tau} => @fin (f.attr ++ [61] ++ escS f.first ++ [42] ++ anyT f.any ++ escS f.last) bs tau (by simp only [List.length_append, List.length_cons, List.length_nil]; omega)
          simp only [bC, bO, bV, bF, bL, bM, bFlt, bCall, bK, k0, k1, k2, k7, k4, hr, hr2, a1, a2, a3, a4, List.length_map, l3, hF.1, hF.2]
      · simp only [k7, if_true, List.length_append, List.length_cons, List.length_nil] at ht ⊢
        have a1 : ∀ {bs tau}, binK bs tau .add (.d (.str f.attr)) (.d (.str [61, 42])) = some (.d (.str (f.attr ++ [61, 42])), bs, tau) := add_str (by simp only [maxLenN, List.length_cons, List.length_nil]; omega)
        have hF := fun {bs tau} => @fin (f.attr ++ [61, 42]) bs tau (by simp only [List.length_append, List.length_cons, List.length_nil]; omega)
        simp only [bC, bO, bV, bF, bL, bM, bFlt, bCall, bK, k0, k1, k2, k7, a1, hF.1, hF.2]
end Go.Abs

/- A filter's text: the package's; both prints. -/
namespace Go.Abs
open Go Go.Proofs

def anyS (l : List (List UInt8)) : List UInt8 := l.flatMap fun p => [42] ++ escS p
theorem any_ST : ∀ l, [42] ++ anyT l = anyS l ++ [42]
  | [] => rfl
  | p :: l => by
    have ih := any_ST l
    simp only [anyT, anyS, List.flatMap_cons, List.append_assoc] at ih ⊢
    rw [← ih]
theorem f_st2 {x y : Box} {a b c d e g h : DV} {tau : List Nat} (p : Flt) : stK 7 [x, y, .cells ([a, b, c, d, e, g, h].map .d)] tau (.bp 2 0) (.d (encF p)) = some (.junk, [x, y, fbox p], tau) := by
  unfold fbox; rw [encF_eq]; rfl
theorem f_ld2 {x y : Box} {r : List Box} {tau : List Nat} (p : Flt) : ldK true 7 (x :: y :: fbox p :: r) tau (.bp 2 0) = some (.d (encF p), x :: y :: fbox p :: r, tau) := by
  unfold fbox; rw [encF_eq]; rfl
theorem fin0 {l : List UInt8} {r : List Box} {e : Env} {tau : List Nat} : finish [] 1 (some (.rt, e, .bld l :: r, tau)) = some (.tup [], [.bld l]) := rfl
theorem ld_slice {bs : List Box} {tau : List Nat} {x : DV} {l : List DV} : ldK false 1 bs tau (.ep (x :: l)) = some (.d x, bs, tau) := bFlt.2.2.2.2.2.2.2.2.2.2.2.2.2.2.2.2.2.2.2.2.2.1

theorem loop43a (f : Flt) (hf : f.Ok) (H : ∀ i (hi : i < f.parts.length) (out : List UInt8), out.length + (textF f.parts[i]).length ≤ 300000000 → TT 43 [.bp 0 0, .d (encF f.parts[i])] [.bld out] = some (.tup [], [.bld (out ++ textF f.parts[i])])) : ∀ (n i : Nat) (s : List UInt8), n + i = f.parts.length → s.length + (textFs (f.parts.drop i)).length ≤ 300000000 →
    DnB TT (.loop b43L0) [.bp 0 0, .d (slc 7 (f.parts.map encF)), .d (.int .i64 f.parts.length), .d (.int .i64 i)] [.bld s, fbox f] [] = some (.ex 1, [.bp 0 0], [.bld (s ++ textFs (f.parts.drop i)), fbox f], [])
  | 0, i, s, hi, _ => by
    have : ¬ ((i : Int) < (f.parts.length : Int)) := by omega
    have h2 : f.parts.drop i = [] := List.drop_eq_nil_of_le (by omega)
    rw [L_loopU b43L0_eq]
    simp only [b43B0]
    simp only [bC, bO, bV, bF, this, decide_false, h2, textFs, List.append_nil]
  | n + 1, i, s, hi, hs => by
    have h1 : ((i : Int) < (f.parts.length : Int)) := by omega
    have h1' : i < f.parts.length := by omega
    have hw := wrap_inc h1' hf.parts
    rw [List.drop_eq_getElem_cons h1', textFs, List.length_append] at hs
    have hr := H i h1' s (by omega)
    have ih := loop43a f hf H n (i + 1) (s ++ textF f.parts[i]) (by omega) (by rw [List.length_append]; omega)
    have ca : ∀ {r tau}, evCall TT false 43 [.bp 0 0, .d (encF f.parts[i])] (.bld s :: r) tau = some (.d (.tup []), .bld (s ++ textF f.parts[i]) :: r, tau) := by
      intros; exact call_b (by rw [encF_canon2]; exact hr)
    rw [List.drop_eq_getElem_cons h1', textFs, ← List.append_assoc]
    rw [L_loopU b43L0_eq]
    simp only [b43B0]
    simp only [bC, bO, bV, bF, bL, bFlt, ia_map h1', f_st2, f_ld2, ca, h1, decide_true, hw, ih]

theorem loop43b (f : Flt) (hf : f.Ok) : ∀ (n i : Nat) (s : List UInt8), n + i = f.any.length → s.length + (anyS (f.any.drop i)).length ≤ 300000000 →
    DnB TT (.loop b43L1) [.bp 0 0, .bp 1 0, .d (slc 1 (f.any.map .str)), .d (.int .i64 f.any.length), .d (.int .i64 i)] [.bld s, fbox f] [] = some (.ex 3, [.bp 0 0, .bp 1 0], [.bld (s ++ anyS (f.any.drop i)), fbox f], [])
  | 0, i, s, hi, _ => by
    have : ¬ ((i : Int) < (f.any.length : Int)) := by omega
    have h2 : f.any.drop i = [] := List.drop_eq_nil_of_le (by omega)
    rw [L_loopU b43L1_eq]
    simp only [b43B1]
    simp only [bC, bO, bV, bF, this, decide_false, h2, anyS, List.flatMap_nil, List.append_nil]
  | n + 1, i, s, hi, hs => by
    have h1 : ((i : Int) < (f.any.length : Int)) := by omega
    have h1' : i < f.any.length := by omega
    have hw := wrap_inc h1' hf.any
    have e : anyS (f.any.drop i) = ([42] ++ escS f.any[i]) ++ anyS (f.any.drop (i + 1)) := by
      rw [List.drop_eq_getElem_cons h1', anyS, List.flatMap_cons]; rfl
    rw [e] at hs ⊢
    simp only [List.length_append, List.length_cons, List.length_nil] at hs
    have hg := escS_ge f.any[i]
    have hr := run87 f.any[i] (by omega)
    have ih := loop43b f hf n (i + 1) (s ++ ([42] ++ escS f.any[i])) (by omega) (by simp only [List.length_append, List.length_cons, List.length_nil]; omega)
    have ad : ∀ {bs tau}, binK bs tau .add (.d (.str [42])) (.d (.str (escS f.any[i]))) = some (.d (.str ([42] ++ escS f.any[i])), bs, tau) := add_str (by simp only [maxLenN, List.length_cons, List.length_nil]; omega)
    have wr : ∀ {r tau}, evCall TT false 86 [.bp 0 0, .d (.str ([42] ++ escS f.any[i]))] (.bld s :: r) tau = some (.d (.tup [.int .i64 ([42] ++ escS f.any[i]).length, .nili]), .bld (s ++ ([42] ++ escS f.any[i])) :: r, tau) := wb_str (by simp only [maxLenN, List.length_append, List.length_cons, List.length_nil]; omega)
    have ca : ∀ {bs tau}, evCall TT false 87 [.d (.str f.any[i])] bs tau = some (.d (.str (escS f.any[i])), bs, tau) := by
      intros; simp only [bK, bCall, bF, hr]
    rw [← List.append_assoc]
    rw [L_loopU b43L1_eq]
    simp only [b43B1]
    simp only [bC, bO, bV, bF, bL, bFlt, ia_map h1', ca, ad, wr, h1, decide_true, hw, ih]

theorem run43 : ∀ (k : Nat) (f : Flt) (out : List UInt8), f.size ≤ k → f.Ok → out.length + (textF f).length ≤ 300000000 → TT 43 [.bp 0 0, .d (encF f)] [.bld out] = some (.tup [], [.bld (out ++ textF f)])
  | 0, f, out, hk, _, _ => by cases f; simp [Flt.size] at hk
  | k + 1, f, out, hk, hf, ht => by
    have lp := fun s => loop43a f hf (fun i hi o h => run43 k _ o (by have := Flt.size_part hi; omega) (hf.part hi) h) f.parts.length 0 s rfl
    have lq := fun s => loop43b f hf f.any.length 0 s rfl
    simp only [List.drop_zero] at lp lq
    refine ok43.run ?_
    rw [textF_eq] at ht ⊢
    have o1 : out.length + 1 ≤ 300000000 := by simp only [List.length_append, List.length_cons, List.length_nil] at ht; omega
    have wo : ∀ {r tau}, evCall TT false 85 [.bp 0 0, .d (.int .u8 40)] (.bld out :: r) tau = some (.d .nili, .bld (out ++ [40]) :: r, tau) := wb_byte (c := 40) (by simp only [maxLenN]; omega)
    have wc : ∀ {s r tau}, s.length ≤ 300000000 → evCall TT false 85 [.bp 0 0, .d (.int .u8 41)] (.bld s :: r) tau = some (.d .nili, .bld (s ++ [41]) :: r, tau) := fun h => wb_byte (c := 41) (by simp only [maxLenN]; omega)
    have ws : ∀ {s t r tau}, s.length + t.length ≤ 1000000000 → evCall TT false 86 [.bp 0 0, .d (.str t)] (.bld s :: r) tau = some (.d (.tup [.int .i64 t.length, .nili]), .bld (s ++ t) :: r, tau) := fun h => wb_str (by simp only [maxLenN]; omega)
    simp only [b43]
    by_cases h0 : f.kind = 0 ∨ f.kind = 1 ∨ f.kind = 2
    · have hL : out.length + (textFs f.parts).length ≤ 300000000 - 3 := by
        rcases h0 with h | h | h <;> simp only [h, bI, Bool.true_or, Bool.or_true, if_true, List.length_append, List.length_cons, List.length_nil] at ht <;> omega
      have l0 : ∀ c : UInt8, DnB TT (.loop b43L0) [.bp 0 0, .d (slc 7 (f.parts.map encF)), .d (.int .i64 f.parts.length), .d (.int .i64 0)] [.bld (out ++ [40] ++ [c]), fbox f] [] = some (.ex 1, [.bp 0 0], [.bld (out ++ [40] ++ [c] ++ textFs f.parts), fbox f], []) := fun c => lp (out ++ [40] ++ [c]) (by simp only [List.length_append, List.length_cons, List.length_nil]; omega)
      have w2 : ∀ (c : UInt8) {r tau}, evCall TT false 85 [.bp 0 0, .d (.int .u8 c.toNat)] (.bld (out ++ [40]) :: r) tau = some (.d .nili, .bld (out ++ [40] ++ [c]) :: r, tau) := fun c => wb_byte (by simp only [maxLenN, List.length_append, List.length_cons, List.length_nil]; omega)
      have w3 := fun c : UInt8 => fun {r tau} => @wc (out ++ [40] ++ [c] ++ textFs f.parts) r tau (by simp only [List.length_append, List.length_cons, List.length_nil]; omega)
      have s0 : ∀ {bs tau}, ixsK bs tau (.d (.str [38, 124, 33])) (.d (.int .i64 0)) = some (.d (.int .u8 (38 : UInt8).toNat), bs, tau) := by intros; rfl
      have s1 : ∀ {bs tau}, ixsK bs tau (.d (.str [38, 124, 33])) (.d (.int .i64 1)) = some (.d (.int .u8 (124 : UInt8).toNat), bs, tau) := by intros; rfl
      have s2 : ∀ {bs tau}, ixsK bs tau (.d (.str [38, 124, 33])) (.d (.int .i64 2)) = some (.d (.int .u8 (33 : UInt8).toNat), bs, tau) := by intros; rfl
      have y0 : sym 0 = 38 := rfl
      have y1 : sym 1 = 124 := rfl
      have y2 : sym 2 = 33 := rfl
      rcases h0 with h | h | h
      · simp only [bC, bO, bV, bF, bL, bM, bFlt, bI, h, wo, s0, w2, List.length_map, l0, w3, Bool.true_or, Bool.or_true, if_true, y0, fin0]; simp only [List.append_assoc]
      · simp only [bC, bO, bV, bF, bL, bM, bFlt, bI, h, wo, s1, w2, List.length_map, l0, w3, Bool.true_or, Bool.or_true, if_true, y1, fin0]; simp only [List.append_assoc]
      · simp only [bC, bO, bV, bF, bL, bM, bFlt, bI, h, wo, s2, w2, List.length_map, l0, w3, Bool.true_or, Bool.or_true, if_true, y2, fin0]; simp only [List.append_assoc]
    · have k0 : (f.kind == 0) = false := by simp; omega
      have k1 : (f.kind == 1) = false := by simp; omega
      have k2 : (f.kind == 2) = false := by simp; omega
      simp only [k0, k1, k2, Bool.or_self, Bool.false_eq_true, if_false] at ht ⊢
      cases k7 : (f.kind == 7)
      · cases k4 : (f.kind == 4)
        · simp only [k7, k4, Bool.false_eq_true, if_false, List.length_append, List.length_cons, List.length_nil] at ht ⊢
          have hg := escS_ge f.value
          have hr := run87 f.value (by omega)
          have a1 : ∀ {bs tau}, binK bs tau .add (.d (.str f.attr)) (.d (.str (signS f.kind))) = some (.d (.str (f.attr ++ signS f.kind)), bs, tau) := add_str (by simp only [maxLenN]; omega)
          have a2 : ∀ {bs tau}, binK bs tau .add (.d (.str (f.attr ++ signS f.kind))) (.d (.str (escS f.value))) = some (.d (.str (f.attr ++ signS f.kind ++ escS f.value)), bs, tau) := add_str (by simp only [maxLenN, List.length_append]; omega)
          have w1 := fun {r tau} => @ws (out ++ [40]) (f.attr ++ signS f.kind ++ escS f.value) r tau (by simp only [List.length_append, List.length_cons, List.length_nil]; omega)
          have w2 := fun {r tau} => @wc (out ++ [40] ++ (f.attr ++ signS f.kind ++ escS f.value)) r tau (by simp only [List.length_append, List.length_cons, List.length_nil]; omega)
          have c1 : ∀ {bs tau}, evCall TT true 87 [.d (.str f.value)] bs tau = some (.d (.str (escS f.value)), bs, tau) := by intros; simp only [bK, bCall, bF, hr]
          have c2 : ∀ {bs tau}, evCall TT true 88 [.d (.int .i64 f.kind)] bs tau = some (.d (.str (signS f.kind)), bs, tau) := by intros; simp only [bK, bCall, bF, run88]
          simp only [bC, bO, bV, bF, bL, bM, bFlt, k0, k1, k2, k7, k4, wo, c1, c2, a1, a2, w1, w2, fin0]
          simp only [List.append_assoc]
        · simp only [k7, k4, Bool.false_eq_true, if_false, if_true, List.length_append, List.length_cons, List.length_nil] at ht ⊢
          have hg := escS_ge f.first
          have hg2 := escS_ge f.last
          have hST := any_ST f.any
          have hl := congrArg List.length hST
          simp only [List.length_append, List.length_cons, List.length_nil] at hl
          have hr := run87 f.first (by omega)
          have hr2 := run87 f.last (by omega)
          have a1 : ∀ {bs tau}, binK bs tau .add (.d (.str f.attr)) (.d (.str [61])) = some (.d (.str (f.attr ++ [61])), bs, tau) := add_str (by simp only [maxLenN, List.length_cons, List.length_nil]; omega)
          have a2 : ∀ {bs tau}, binK bs tau .add (.d (.str (f.attr ++ [61]))) (.d (.str (escS f.first))) = some (.d (.str (f.attr ++ [61] ++ escS f.first)), bs, tau) := add_str (by simp only [maxLenN, List.length_append, List.length_cons, List.length_nil]; omega)
          have a3 : ∀ {bs tau}, binK bs tau .add (.d (.str [42])) (.d (.str (escS f.last))) = some (.d (.str ([42] ++ escS f.last)), bs, tau) := add_str (by simp only [maxLenN, List.length_cons, List.length_nil]; omega)
          have w1 := fun {r tau} => @ws (out ++ [40]) (f.attr ++ [61] ++ escS f.first) r tau (by simp only [List.length_append, List.length_cons, List.length_nil]; omega)
          have l3 : DnB TT (.loop b43L1) [.bp 0 0, .bp 1 0, .d (slc 1 (f.any.map .str)), .d (.int .i64 f.any.length), .d (.int .i64 0)] [.bld (out ++ [40] ++ (f.attr ++ [61] ++ escS f.first)), fbox f] [] = _ := lq (out ++ [40] ++ (f.attr ++ [61] ++ escS f.first)) (by simp only [List.length_append, List.length_cons, List.length_nil]; omega)
          have w2 := fun {r tau} => @ws (out ++ [40] ++ (f.attr ++ [61] ++ escS f.first) ++ anyS f.any) ([42] ++ escS f.last) r tau (by simp only [List.length_append, List.length_cons, List.length_nil]; omega)
          have w3 := fun {r tau} => @wc (out ++ [40] ++ (f.attr ++ [61] ++ escS f.first) ++ anyS f.any ++ ([42] ++ escS f.last)) r tau (by simp only [List.length_append, List.length_cons, List.length_nil]; omega)
          have c1 : ∀ {bs tau}, evCall TT true 87 [.d (.str f.first)] bs tau = some (.d (.str (escS f.first)), bs, tau) := by intros; simp only [bK, bCall, bF, hr]
          have c2 : ∀ {bs tau}, evCall TT false 87 [.d (.str f.last)] bs tau = some (.d (.str (escS f.last)), bs, tau) := by intros; simp only [bK, bCall, bF, hr2]
          simp only [bC, bO, bV, bF, bL, bM, bFlt, k0, k1, k2, k7, k4, wo, c1, c2, a1, a2, a3, List.length_map, w1, l3, w2, w3, fin0]
          have : ∀ x y : List UInt8, x ++ ([42] ++ (anyT f.any ++ y)) = x ++ (anyS f.any ++ ([42] ++ y)) := by
            intro x y; rw [← List.append_assoc [42], hST, List.append_assoc]
          simp only [List.append_assoc]
          have h5 : [42] ++ (anyT f.any ++ (escS f.last ++ [41])) = anyS f.any ++ ([42] ++ (escS f.last ++ [41])) := by
            rw [← List.append_assoc [42], hST, List.append_assoc]
          rw [h5]
      · simp only [k7, if_true, List.length_append, List.length_cons, List.length_nil] at ht ⊢
        have a1 : ∀ {bs tau}, binK bs tau .add (.d (.str f.attr)) (.d (.str [61, 42])) = some (.d (.str (f.attr ++ [61, 42])), bs, tau) := add_str (by simp only [maxLenN, List.length_cons, List.length_nil]; omega)
        have w1 := fun {r tau} => @ws (out ++ [40]) (f.attr ++ [61, 42]) r tau (by simp only [List.length_append, List.length_cons, List.length_nil]; omega)
        have w2 := fun {r tau} => @wc (out ++ [40] ++ (f.attr ++ [61, 42])) r tau (by simp only [List.length_append, List.length_cons, List.length_nil]; omega)
        simp only [bC, bO, bV, bF, bL, bM, bFlt, k0, k1, k2, k7, wo, a1, w1, w2, fin0]
        simp only [List.append_assoc]

def printF (f : Flt) : DV := if formedF f then .tup [.str (textF f), .int .i64 0] else .tup [.str [], .int .i64 1]
theorem run19 (f : Flt) (hf : f.Ok) (ht : formedF f = true → (textF f).length ≤ 300000000) : TT 19 [.d (encF f)] [] = some (printF f, []) := by
  have h1 := run20 f hf
  refine ok19.run ?_
  simp only [b19, printF]
  cases h : formedF f
  · simp only [bC, bO, bV, bF, bL, bFlt, bCall, bK, h1, h, Bool.not_false, Bool.false_eq_true, if_false, List.length_nil, List.map_cons, List.map_nil]
  · have h2 := run45 f.size f (Nat.le_refl _) hf (ht h)
    simp only [bC, bO, bV, bF, bL, bFlt, bCall, bK, h1, h2, h, Bool.not_true, if_true, List.length_nil, List.map_cons, List.map_nil]
theorem run18 (f : Flt) (hf : f.Ok) (ht : formedF f = true → (textF f).length ≤ 300000000) : TT 18 [.d (encF f)] [] = some (printF f, []) := by
  have h1 := run17 f hf
  refine ok18.run ?_
  simp only [b18, printF]
  have c1 : ∀ {bs tau}, evCall TT false 17 [.d (encF f)] bs tau = some (.d (.bool (formedF f)), bs, tau) := by intros; simp only [bK, bCall, bF, bFlt, h1]
  cases h : formedF f
  · simp only [bC, bO, bV, bF, bL, bFlt, c1, h, Bool.not_false, Bool.false_eq_true, if_false, List.map_cons, List.map_nil]
  · have h2 := run43 f.size f [] (Nat.le_refl _) hf (by simpa using ht h)
    have c2 : ∀ {tau}, evCall TT false 43 [.bp 1 0, .d (encF f)] [fbox f, .bld []] tau = some (.d (.tup []), [fbox f, .bld (textF f)], tau) := by
      intro tau
      simp [evCall, argVs, argV, idxB, boxesOut, boxOut, encF_canon2, h2, boxesIn]
    have c3 : ∀ {tau}, evCall TT false 44 [.bp 1 0] [fbox f, .bld (textF f)] tau = some (.d (.str (textF f)), [fbox f, .cells [.d .any, .d .any]], tau) := by
      intro tau
      have : TT 44 [.bp 0 0] [.bld (textF f)] = some (.str (textF f), [.cells [.d .any, .d .any]]) := Run_prim (T := Tab.of Tryz.prog prims) rfl rfl
      simp [evCall, argVs, argV, idxB, boxesOut, boxOut, this, boxesIn]
    simp only [bC, bO, bV, bF, bL, bFlt, c1, c2, c3, h, Bool.not_true, if_true, List.map_cons, List.map_nil]
end Go.Abs

/- Filters of a size that is looked at. -/
namespace Go.Abs
open Go Go.Proofs

def okAny (l : List (List UInt8)) : Bool := l.all fun s => !decide ((2000 : Int) < s.length)
def okHead (f : Flt) (depth : Int) : Bool := !(decide ((40 : Int) < depth) || decide ((100 : Int) < f.any.length) || decide ((2000 : Int) < f.value.length) || decide ((2000 : Int) < f.attr.length) || decide ((2000 : Int) < f.first.length) || decide ((2000 : Int) < f.last.length))
mutual
def smallF : Flt → Int → Int → Int
  | f@(.mk _ _ _ _ _ y p), d, n => if okHead f d && okAny y then smallFs p d (n - 1) else -1
def smallFs : List Flt → Int → Int → Int
  | [], _, n => n
  | p :: ps, d, n => if n < 0 then -1 else smallFs ps d (smallF p (d + 1) n)
end
theorem smallF_eq (f : Flt) (d n : Int) : smallF f d n = if okHead f d && okAny f.any then smallFs f.parts d (n - 1) else -1 := by
  cases f; simp only [smallF, Flt.any, Flt.parts]; rfl
mutual
theorem smallF_le : ∀ (f : Flt) (d n : Int), -1 ≤ n → -2 ≤ smallF f d n ∧ (smallF f d n ≤ n)
  | .mk k a v x l y p, d, n, h => by
    have := smallFs_le p d (n - 1)
    simp only [smallF]
    split <;> omega
theorem smallFs_le : ∀ (l : List Flt) (d n : Int), -2 ≤ n → -2 ≤ smallFs l d n ∧ smallFs l d n ≤ max n (-1)
  | [], d, n, h => by simp only [smallFs]; omega
  | p :: ps, d, n, h => by
    simp only [smallFs]
    split
    · omega
    · have h1 := smallF_le p (d + 1) n (by omega)
      have h2 := smallFs_le ps d (smallF p (d + 1) n) h1.1
      omega
end

theorem loop38a (f : Flt) (hf : f.Ok) (d m : DV) : ∀ (n i : Nat), n + i = f.any.length →
    DnB TT (.loop b38L0) [.d d, .d m, .bp 0 0, .d (.int .i64 f.any.length), .d (.int .i64 i)] [fbox f] [] = if okAny (f.any.drop i) then some (.ex 0, [.d d, .d m, .bp 0 0], [fbox f], []) else some (.rt, [.d (.int .i64 (-1))], [fbox f], [])
  | 0, i, hi => by
    have : ¬ ((i : Int) < (f.any.length : Int)) := by omega
    have h2 : f.any.drop i = [] := List.drop_eq_nil_of_le (by omega)
    rw [L_loopU b38L0_eq]
    simp only [b38B0]
    simp only [bC, bO, bV, bF, this, decide_false, h2, okAny, List.all_nil, if_true]
  | n + 1, i, hi => by
    have h1 : ((i : Int) < (f.any.length : Int)) := by omega
    have h1' : i < f.any.length := by omega
    have hw := wrap_inc h1' hf.any
    have ih := loop38a f hf d m n (i + 1) (by omega)
    have e : okAny (f.any.drop i) = (!decide ((2000 : Int) < f.any[i].length) && okAny (f.any.drop (i + 1))) := by
      rw [List.drop_eq_getElem_cons h1', okAny, List.all_cons]; rfl
    rw [e]
    rw [L_loopU b38L0_eq]
    generalize okAny (f.any.drop (i + 1)) = B at *
    simp only [b38B0]
    simp only [bC, bO, bV, bF, bL, bFlt, ia_map h1', h1, decide_true]
    cases hc : decide ((2000 : Int) < f.any[i].length) <;> simp only [bC, bO, bV, bF, bL, bFlt, hw, ih, Bool.not_true, Bool.not_false, Bool.true_and, Bool.false_and, Bool.false_eq_true, if_false]

theorem loop38b (f : Flt) (hf : f.Ok) (d : Int) (hd : 0 ≤ d ∧ d ≤ 40) (H : ∀ i (hi : i < f.parts.length) (m : Int), 0 ≤ m → m ≤ 60 → TT 38 [.d (encF f.parts[i]), .d (.int .i64 (d + 1)), .d (.int .i64 m)] [] = some (.int .i64 (smallF f.parts[i] (d + 1) m), [])) : ∀ (n i : Nat) (m : Int), n + i = f.parts.length → -2 ≤ m → m ≤ 60 →
    (DnB TT (.loop b38L1) [.d (.int .i64 d), .d (.int .i64 m), .bp 0 0, .d (.int .i64 f.parts.length), .d (.int .i64 i)] [fbox f] [] = some (.ex 2, [.d (.int .i64 (smallFs (f.parts.drop i) d m))], [fbox f], [])) ∨
    (DnB TT (.loop b38L1) [.d (.int .i64 d), .d (.int .i64 m), .bp 0 0, .d (.int .i64 f.parts.length), .d (.int .i64 i)] [fbox f] [] = some (.rt, [.d (.int .i64 (smallFs (f.parts.drop i) d m))], [fbox f], []))
  | 0, i, m, hi, _, _ => by
    have : ¬ ((i : Int) < (f.parts.length : Int)) := by omega
    have h2 : f.parts.drop i = [] := List.drop_eq_nil_of_le (by omega)
    left
    rw [L_loopU b38L1_eq]
    simp only [b38B1]
    simp only [bC, bO, bV, bF, this, decide_false, h2, smallFs]
  | n + 1, i, m, hi, hm, hm' => by
    have h1 : ((i : Int) < (f.parts.length : Int)) := by omega
    have h1' : i < f.parts.length := by omega
    have hw := wrap_inc h1' hf.parts
    have hadd : IntKind.i64.wrap (d + 1) = d + 1 := wrap_s (by omega)
    rw [List.drop_eq_getElem_cons h1', smallFs]
    rw [L_loopU b38L1_eq]
    simp only [b38B1]
    by_cases h0 : m < 0
    · right
      simp only [bC, bO, bV, bF, bL, h1, h0, decide_true, if_true]
    · have hr := H i h1' m (by omega) hm'
      have hb := smallF_le f.parts[i] (d + 1) m (by omega)
      have ih := loop38b f hf d hd H n (i + 1) (smallF f.parts[i] (d + 1) m) (by omega) (by omega) (by omega)
      simp only [bC, bO, bV, bF, bL, bFlt, bCall, bK, ia_map h1', hr, h1, h0, decide_true, decide_false, if_false, hadd, hw]
      exact ih

theorem run38 : ∀ (k : Nat) (f : Flt) (d m : Int), f.size ≤ k → f.Ok → 0 ≤ d → d ≤ 41 → 0 ≤ m → m ≤ 60 → TT 38 [.d (encF f), .d (.int .i64 d), .d (.int .i64 m)] [] = some (.int .i64 (smallF f d m), [])
  | 0, f, _, _, hk, _, _, _, _, _ => by cases f; simp [Flt.size] at hk
  | k + 1, f, d, m, hk, hf, hd, hd', hm, hm' => by
    refine ok38.run ?_
    rw [smallF_eq]
    have la := loop38a f hf (.int .i64 d) (.int .i64 m) f.any.length 0 rfl
    rw [List.drop_zero] at la
    have la : DnB TT (.loop b38L0) [.d (.int .i64 d), .d (.int .i64 m), .bp 0 0, .d (.int .i64 f.any.length), .d (.int .i64 0)] [fbox f] [] = _ := la
    have hsub : IntKind.i64.wrap (m - 1) = m - 1 := wrap_s (by omega)
    cases h1 : decide ((40 : Int) < d)
    · have hd40 : d ≤ 40 := by simpa using h1
      have lb := loop38b f hf d ⟨hd, hd40⟩ (fun i hi m h1 h2 => run38 k _ _ _ (by have := Flt.size_part hi; omega) (hf.part hi) (by omega) (by omega) h1 h2) f.parts.length 0 (m - 1) rfl (by omega) (by omega)
      rw [List.drop_zero] at lb
      simp only [b38, okHead]
      generalize okAny f.any = A at *
      generalize smallFs f.parts d (m - 1) = R at *
      simp only [bC, bO, bV, bF, bL, bFlt, h1]
      cases h2 : decide ((100 : Int) < f.any.length) <;> simp only [bC, bO, bV, bF, bL, bFlt, List.length_map, h2, Bool.not_true, Bool.false_and, Bool.false_or, Bool.true_or, Bool.false_eq_true, if_false, List.length_nil]
      cases h3 : decide ((2000 : Int) < f.value.length) <;> simp only [bC, bO, bV, bF, bL, bFlt, List.length_map, h3, Bool.not_true, Bool.false_and, Bool.false_or, Bool.true_or, Bool.false_eq_true, if_false, List.length_nil]
      cases h4 : decide ((2000 : Int) < f.attr.length) <;> simp only [bC, bO, bV, bF, bL, bFlt, List.length_map, h4, Bool.not_true, Bool.false_and, Bool.false_or, Bool.true_or, Bool.false_eq_true, if_false, List.length_nil]
      cases h5 : decide ((2000 : Int) < f.first.length) <;> simp only [bC, bO, bV, bF, bL, bFlt, List.length_map, h5, Bool.not_true, Bool.false_and, Bool.false_or, Bool.true_or, Bool.false_eq_true, if_false, List.length_nil]
      cases h6 : decide ((2000 : Int) < f.last.length) <;> simp only [bC, bO, bV, bF, bL, bFlt, List.length_map, h6, la, Bool.not_true, Bool.not_false, Bool.true_and, Bool.false_and, Bool.false_or, Bool.true_or, Bool.false_eq_true, if_false, List.length_nil]
      cases A <;> simp only [bC, bO, bV, bF, bL, bFlt, if_true, Bool.false_eq_true, if_false, hsub, List.length_map]
      rcases lb with lb | lb
      · have lb : DnB TT (.loop b38L1) [.d (.int .i64 d), .d (.int .i64 (m - 1)), .bp 0 0, .d (.int .i64 f.parts.length), .d (.int .i64 0)] [fbox f] [] = _ := lb
        simp only [lb, bC, bF]
      · have lb : DnB TT (.loop b38L1) [.d (.int .i64 d), .d (.int .i64 (m - 1)), .bp 0 0, .d (.int .i64 f.parts.length), .d (.int .i64 0)] [fbox f] [] = _ := lb
        simp only [lb, bC, bF]
    · simp only [b38, okHead]
      simp only [bC, bO, bV, bF, bL, bFlt, h1, Bool.not_true, Bool.false_and, Bool.true_or, Bool.false_eq_true, if_false, List.length_nil]

def small (f : Flt) : Bool := decide (0 ≤ smallF f 0 60)
theorem run12 (f : Flt) (hf : f.Ok) : TT 12 [.d (encF f)] [] = some (.bool (small f), []) := by
  have h := run38 f.size f 0 60 (Nat.le_refl _) hf (by omega) (by omega) (by omega) (by omega)
  refine ok12.run ?_
  simp only [b12, small]
  simp only [bC, bO, bV, bF, bL, bFlt, bCall, bK, h, List.length_nil]
end Go.Abs

/- A filter handed over: the same. -/
namespace Go.Abs
open Go Go.Proofs

/-- A slice that grew out of nil behind other tokens. -/
def ownP (pre : List Nat) (t : TypeId) (sz : Nat) (es : List DV) : AV := match es with | [] => .d (.nils 0) | _ => .sl pre.length t sz es
def ownPT (pre : List Nat) (es : List DV) : List Nat := match es with | [] => pre | _ => pre ++ [es.length]
theorem app_ownP {pre : List Nat} {t : TypeId} {sz : Nat} {bs : List Box} {es ys : List DV} {y : AV} (he : elemsOf sz y = some ys) (hy : ys ≠ []) (h : es.length + ys.length ≤ maxLenN) : appK t sz bs (ownPT pre es) (ownP pre t sz es) y = some (ownP pre t sz (es ++ ys), bs, ownPT pre (es ++ ys)) := by
  cases es with
  | nil =>
    cases ys with
    | nil => exact (hy rfl).elim
    | cons z ys =>
      simp only [List.length_nil, Nat.zero_add] at h
      simp only [appK, he, ownP, ownPT, evApp, List.nil_append, if_pos h]
  | cons e es =>
    have h2 : (e :: es).length + ys.length ≤ maxLenN := h
    have h3 : (pre ++ [(e :: es).length])[pre.length]? = some (e :: es).length := by simp
    have h4 : ∀ x, (pre ++ [(e :: es).length]).set pre.length x = pre ++ [x] := by intro x; simp
    simp only [appK, he, ownP, ownPT, evApp, h3, true_and, if_pos h2, h4, List.cons_append]
    rw [show (e :: es).length + ys.length = (e :: (es ++ ys)).length by simp only [List.length_cons, List.length_append]; omega]
theorem ownP_dv {pre : List Nat} {t : TypeId} {sz : Nat} {es : List DV} : ∃ x, (ownP pre t sz es).dv = some x ∧ canon1 x = slc sz es := by
  cases es with
  | nil => exact ⟨.nils 0, rfl, rfl⟩
  | cons e es => exact ⟨.slice sz (e :: es), rfl, rfl⟩

/-- A struct's literal, on values. -/
def fillDV : List DV → List (Nat × Nat × AV) → Option (List DV)
  | cs, [] => some cs
  | cs, (off, n, x) :: ps =>
    match x.dvc with
    | some v => if (canon2 v).cells.length = n ∧ off + n ≤ cs.length then fillDV (setCells cs off (canon2 v).cells) ps else none
    | none => none
theorem fillD_V {e : Env} : ∀ {ps : List (Nat × Nat × Opd)} {cs : List DV}, fillD e cs ps = fillDV cs (ps.map fun p => (p.1, p.2.1, p.2.2.ev e))
  | [], _ => rfl
  | (o, n, x) :: ps, cs => by
    simp only [fillD, List.map_cons, fillDV]
    cases (x.ev e).dvc with
    | none => rfl
    | some v =>
      simp only
      split
      · exact fillD_V
      · rfl
def buildK (z : List DV) (bs : List Box) (tau : List Nat) (ps : List (Nat × Nat × AV)) : OpR :=
  match fillDV z ps with | some cs => some (.d (.agg cs), bs, tau) | none => none
theorem R_build {O : Orc} {e : Env} {bs : List Box} {tau : List Nat} {z ps} : evR O e bs tau (.build z ps) = buildK z bs tau (ps.map fun p => (p.1, p.2.1, p.2.2.ev e)) := by
  simp only [evR, fillD_V]
  rfl

/-- The box that is filled. -/
def obox (f : Flt) (l : List Flt) : Box := .cells [.d (.int .i64 f.kind), .d (.str f.attr), .d (.str f.value), .d (.str f.first), .d (.str f.last), .d (slc 1 (f.any.map .str)), ownP [f.any.length] 33 7 (l.map encF)]
theorem o_ld {x y : Box} {f : Flt} {l : List Flt} {tau : List Nat} : ldK false 1 [x, y, obox f l] tau (.bp 2 6) = some (ownP [f.any.length] 33 7 (l.map encF), [x, y, obox f l], tau) := rfl
theorem o_st {x y : Box} {f : Flt} {l l' : List Flt} {tau : List Nat} : stK 1 [x, y, obox f l] tau (.bp 2 6) (ownP [f.any.length] 33 7 (l'.map encF)) = some (.junk, [x, y, obox f l'], tau) := by
  cases l' <;> rfl
theorem mks_f {bs : List Box} {tau : List Nat} {z : List DV} (f : Flt) : mksK none 7 1 z bs tau [(0, .d (encF f))] = some (.d (.slice 7 [encF f]), bs, tau) := by
  have h1 : (AV.d (encF f)).dvc = some (encF f) := by rw [encF_eq]; rfl
  have h2 : (encF f).cells.length = 7 := by rw [encF_eq]; rfl
  simp [mksK, fillV, h1, encF_canon2, h2]

theorem loop15 (f : Flt) (hf : f.Ok) (x : Box) (H : ∀ i (hi : i < f.parts.length), TT 15 [.d (encF f.parts[i])] [] = some (encF f.parts[i], [])) : ∀ (n i : Nat), n + i = f.parts.length →
    DnB TT (.loop b15L0) [.bp 0 0, .bp 1 0, .bp 2 0, .d (.int .i64 f.parts.length), .d (.int .i64 i)] [fbox f, x, obox f (f.parts.take i)] (ownPT [f.any.length] ((f.parts.take i).map encF)) = some (.ex 0, [.bp 1 0, .bp 2 0], [fbox f, x, obox f f.parts], ownPT [f.any.length] (f.parts.map encF))
  | 0, i, hi => by
    have : ¬ ((i : Int) < (f.parts.length : Int)) := by omega
    have h2 : f.parts.take i = f.parts := List.take_of_length_le (by omega)
    rw [L_loopU b15L0_eq]
    simp only [b15B0]
    simp only [bC, bO, bV, bF, this, decide_false, h2]
  | n + 1, i, hi => by
    have h1 : ((i : Int) < (f.parts.length : Int)) := by omega
    have h1' : i < f.parts.length := by omega
    have hw := wrap_inc h1' hf.parts
    have hp := hf.parts
    have hr := H i h1'
    have ih := loop15 f hf x H n (i + 1) (by omega)
    have ht : f.parts.take (i + 1) = f.parts.take i ++ [f.parts[i]] := List.take_succ_eq_append_getElem h1'
    have ap : ∀ {bs}, appK 33 7 bs (ownPT [f.any.length] ((f.parts.take i).map encF)) (ownP [f.any.length] 33 7 ((f.parts.take i).map encF)) (.d (.slice 7 [encF f.parts[i]])) = some (ownP [f.any.length] 33 7 ((f.parts.take (i + 1)).map encF), bs, ownPT [f.any.length] ((f.parts.take (i + 1)).map encF)) := by
      intro bs
      rw [ht, List.map_append]
      exact app_ownP (by simp [elemsOf]) (by simp) (by simp only [List.length_map, List.length_take, List.length_cons, List.length_nil, maxLenN]; omega)
    have c1 : ∀ {bs tau}, evCall TT true 15 [.d (encF f.parts[i])] bs tau = some (.d (encF f.parts[i]), bs, tau) := by intros; simp only [bK, bCall, bFlt, hr]
    rw [L_loopU b15L0_eq]
    simp only [b15B0]
    simp only [bC, bO, bV, bF, bL, bFlt, R_mks, List.map_cons, List.map_nil, mks_f, o_ld, o_st, ia_map h1', c1, ap, h1, decide_true, hw, ih]

theorem run15 : ∀ (k : Nat) (f : Flt), f.size ≤ k → f.Ok → TT 15 [.d (encF f)] [] = some (encF f, [])
  | 0, f, hk, _ => by cases f; simp [Flt.size] at hk
  | k + 1, f, hk, hf => by
    have ha := hf.any
    have lp := fun x => loop15 f hf x (fun i hi => run15 k _ (by have := Flt.size_part hi; omega) (hf.part hi)) f.parts.length 0 rfl
    simp only [List.take_zero, List.map_nil] at lp
    obtain ⟨x6, hx, hc⟩ := @ownP_dv [f.any.length] 33 7 (f.parts.map encF)
    have m0 : ∀ {bs}, mksK (some 9) 1 0 [.str []] bs [] [] = some (.sl 0 9 1 [], bs, [0]) := by intros; rfl
    have a0 : ∀ {bs}, appK 9 1 bs [0] (.sl 0 9 1 []) (.d (slc 1 (f.any.map .str))) = some (.sl 0 9 1 (f.any.map .str), bs, [f.any.length]) := by
      intro bs
      have h : ([] : List DV).length + (f.any.map DV.str).length ≤ maxLenN := by simp only [List.length_map, List.length_nil, maxLenN]; omega
      have h0 : [0][0]? = some ([] : List DV).length := rfl
      simp only [appK, elems_slc, evApp, h0, true_and, if_pos h, List.nil_append, List.set_cons_zero, List.length_nil, List.length_map, Nat.zero_add]
      rw [if_pos (by simp only [maxLenN]; omega)]
    have bd : ∀ {bs tau}, buildK [.int .i64 0, .str [], .str [], .str [], .str [], .nils 0, .nils 0] bs tau [(0, 1, .d (.int .i64 f.kind)), (1, 1, .d (.str f.attr)), (2, 1, .d (.str f.value)), (3, 1, .d (.str f.first)), (4, 1, .d (.str f.last)), (5, 1, .sl 0 9 1 (f.any.map .str))] = some (.d (.agg [.int .i64 f.kind, .str f.attr, .str f.value, .str f.first, .str f.last, slc 1 (f.any.map .str), .nils 0]), bs, tau) := by
      intros
      generalize f.any.map DV.str = L
      cases L <;> rfl
    have s2 : ∀ {x y : Box} {tau}, stK 7 [x, y, .cells ([DV.int .i64 0, .str [], .str [], .str [], .str [], .nils 0, .nils 0].map .d)] tau (.bp 2 0) (.d (.agg [.int .i64 f.kind, .str f.attr, .str f.value, .str f.first, .str f.last, slc 1 (f.any.map .str), .nils 0])) = some (.junk, [x, y, obox f []], tau) := by
      intros; rfl
    have l2 : ∀ {x y : Box} {tau}, ldK true 7 [x, y, obox f f.parts] tau (.bp 2 0) = some (.d (.agg [.int .i64 f.kind, .str f.attr, .str f.value, .str f.first, .str f.last, slc 1 (f.any.map .str), x6]), [x, y, obox f f.parts], tau) := by
      intro x y tau
      have h : dvs [.d (.int .i64 f.kind), .d (.str f.attr), .d (.str f.value), .d (.str f.first), .d (.str f.last), .d (slc 1 (f.any.map .str)), ownP [f.any.length] 33 7 (f.parts.map encF)] = some [.int .i64 f.kind, .str f.attr, .str f.value, .str f.first, .str f.last, slc 1 (f.any.map .str), x6] := by simp only [dvs, AV.dv] at hx ⊢; simp only [hx]
      have h2 : ldK true 7 [x, y, obox f f.parts] tau (.bp 2 0) = optAV (match dvs [.d (.int .i64 f.kind), .d (.str f.attr), .d (.str f.value), .d (.str f.first), .d (.str f.last), .d (slc 1 (f.any.map .str)), ownP [f.any.length] 33 7 (f.parts.map encF)] with | some l => some (.d (.agg l)) | none => none) [x, y, obox f f.parts] tau := rfl
      rw [h2, h]
      rfl
    have s1 : ∀ {x z : Box} {tau}, stK 7 [x, .cells ([DV.int .i64 0, .str [], .str [], .str [], .str [], .nils 0, .nils 0].map .d), z] tau (.bp 1 0) (.d (.agg [.int .i64 f.kind, .str f.attr, .str f.value, .str f.first, .str f.last, slc 1 (f.any.map .str), x6])) = some (.junk, [x, .cells [.d (.int .i64 f.kind), .d (.str f.attr), .d (.str f.value), .d (.str f.first), .d (.str f.last), .d (slc 1 (f.any.map .str)), .d x6], z], tau) := by intros; rfl
    have fn : ∀ {x z : Box} {e : Env} {tau}, finish [.cell 0 true 7] 0 (some (.rt, .bp 1 0 :: e, [x, .cells [.d (.int .i64 f.kind), .d (.str f.attr), .d (.str f.value), .d (.str f.first), .d (.str f.last), .d (slc 1 (f.any.map .str)), .d x6], z], tau)) = some (encF f, []) := by
      intro x z e tau
      rw [encF_eq]
      have : finish [.cell 0 true 7] 0 (some (.rt, .bp 1 0 :: e, [x, .cells [.d (.int .i64 f.kind), .d (.str f.attr), .d (.str f.value), .d (.str f.first), .d (.str f.last), .d (slc 1 (f.any.map .str)), .d x6], z], tau)) = some (canon (.agg [.int .i64 f.kind, .str f.attr, .str f.value, .str f.first, .str f.last, slc 1 (f.any.map .str), x6]), []) := rfl
      rw [this]
      simp only [canon, canon2, List.map_cons, List.map_nil, slc_c1, hc]
      rfl
    have l3 : ∀ x, DnB TT (.loop b15L0) [.bp 0 0, .bp 1 0, .bp 2 0, .d (.int .i64 f.parts.length), .d (.int .i64 0)] [fbox f, x, obox f []] [f.any.length] = some (.ex 0, [.bp 1 0, .bp 2 0], [fbox f, x, obox f f.parts], ownPT [f.any.length] (f.parts.map encF)) := lp
    refine ok15.run ?_
    simp only [b15]
    simp only [List.map_cons, List.map_nil] at s1 s2
    simp only [bC, bO, bV, bF, bL, bFlt, R_mks, R_build, List.map_cons, List.map_nil, m0, a0, bd, s2, List.length_map, l3, l2, s1, fn]
end Go.Abs

/- The text of a filter that is looked at is short. -/
namespace Go.Abs
open Go Go.Proofs

inductive Flt.Sm : Flt → Prop
  | mk {f : Flt} : f.attr.length ≤ 2000 → f.value.length ≤ 2000 → f.first.length ≤ 2000 → f.last.length ≤ 2000 → f.any.length ≤ 100 → (∀ s ∈ f.any, s.length ≤ 2000) → (∀ p ∈ f.parts, p.Sm) → f.Sm

theorem okHead_of {f : Flt} {d : Int} (h : okHead f d = true) : f.attr.length ≤ 2000 ∧ f.value.length ≤ 2000 ∧ f.first.length ≤ 2000 ∧ f.last.length ≤ 2000 ∧ f.any.length ≤ 100 := by
  simp only [okHead, Bool.not_eq_true', Bool.or_eq_false_iff, decide_eq_false_iff_not] at h
  omega
theorem okAny_of {l : List (List UInt8)} (h : okAny l = true) : ∀ s ∈ l, s.length ≤ 2000 := by
  intro s hs
  have := List.all_eq_true.1 h s hs
  simp only [Bool.not_eq_true', decide_eq_false_iff_not] at this
  omega
mutual
theorem small_Sm : ∀ (f : Flt) (d n : Int), 0 ≤ n → 0 ≤ smallF f d n → f.Sm
  | .mk k a v x l y p, d, n, hn, h => by
    simp only [smallF] at h
    split at h
    · rename_i hc
      simp only [Bool.and_eq_true] at hc
      have h1 := okHead_of hc.1
      have h2 := okAny_of hc.2
      have h3 := smalls_Sm p d (n - 1) (by omega) h
      exact .mk h1.1 h1.2.1 h1.2.2.1 h1.2.2.2.1 h1.2.2.2.2 h2 h3
    · omega
theorem smalls_Sm : ∀ (l : List Flt) (d n : Int), -1 ≤ n → 0 ≤ smallFs l d n → ∀ p ∈ l, p.Sm
  | [], _, _, _, _ => fun p h => by cases h
  | p :: ps, d, n, hn, h => by
    simp only [smallFs] at h
    split at h
    · omega
    · have h1 := smallF_le p (d + 1) n (by omega)
      have h2 := smallFs_le ps d (smallF p (d + 1) n) h1.1
      have h3 := small_Sm p (d + 1) n (by omega) (by omega)
      have h4 := smalls_Sm ps d (smallF p (d + 1) n) (by omega) h
      intro q hq
      cases hq with
      | head => exact h3
      | tail _ hq => exact h4 q hq
end

theorem escS_le : ∀ s : List UInt8, (escS s).length ≤ 3 * s.length
  | [] => by simp [escS]
  | c :: l => by
    have := escS_le l
    have h := (esc_len c).1
    simp only [escS, List.flatMap_cons, List.length_append, List.length_cons] at *
    omega
theorem anyT_le : ∀ l : List (List UInt8), (∀ s ∈ l, s.length ≤ 2000) → (anyT l).length ≤ 6001 * l.length
  | [], _ => by simp [anyT]
  | s :: l, h => by
    have := anyT_le l fun s hs => h s (by simp [hs])
    have h1 := escS_le s
    have h2 := h s (by simp)
    simp only [anyT, List.flatMap_cons, List.length_append, List.length_cons, List.length_nil] at *
    omega
theorem signS_le (k : Int) : (signS k).length ≤ 2 := by
  unfold signS; repeat' split
  all_goals simp
theorem text_le : ∀ (k : Nat) (f : Flt), f.size ≤ k → f.Sm → (textF f).length ≤ 700000 * f.size
  | 0, f, hk, _ => by cases f; simp [Flt.size] at hk
  | k + 1, f, hk, hs => by
    cases hs with
    | mk h1 h2 h3 h4 h5 h6 h7 =>
      have hp : ∀ l : List Flt, (∀ p ∈ l, p ∈ f.parts) → (textFs l).length ≤ 700000 * Flt.sizes l := by
        intro l
        induction l with
        | nil => intro _; simp [textFs]
        | cons p ps ih =>
          intro hl
          have e1 := ih fun q hq => hl q (by simp [hq])
          have hm := hl p (by simp)
          have e2 := text_le k p (by have := Flt.size_mem hm; have := size_eq f; omega) (h7 p hm)
          simp only [textFs, Flt.sizes, List.length_append]
          omega
      have hp := hp f.parts fun p h => h
      have e1 := size_eq f
      have e2 := escS_le f.value
      have e3 := escS_le f.first
      have e4 := escS_le f.last
      have e5 := anyT_le f.any h6
      have e6 := signS_le f.kind
      rw [textF_eq]
      simp only [List.length_append, List.length_cons, List.length_nil]
      repeat' split
      all_goals simp only [List.length_append, List.length_cons, List.length_nil]
      all_goals omega
theorem text_small {f : Flt} (h : small f = true) (hf : formedF f = true) : (textF f).length ≤ 300000000 := by
  simp only [small, decide_eq_true_eq] at h
  simp only [formedF, Bool.and_eq_true, decide_eq_true_eq] at hf
  have h1 := text_le f.size f (Nat.le_refl _) (small_Sm f 0 60 (by omega) h)
  have h2 : min (f.size : Int) 41 ≤ 40 := hf.1.1
  omega
end Go.Abs
