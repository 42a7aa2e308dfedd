/- Part PkB of the proof: AbsJ AbsK AbsL AbsM AbsN AbsO AbsP AbsQ. -/
import Derived.Test.YtinebfdbacaahaaGreatDoorPkA
import Derived.LoopN
set_option linter.unusedSimpArgs false
set_option linter.unusedVariables false
set_option linter.unusedSectionVars false
set_option linter.unnecessarySimpa false

/- All instructions but the calls: what the model does is what the evaluator says. -/
namespace Go.Abs
open Go

/-- The operation is a call of a Go function. -/
def IsCall (pu : Bool) (o : Oper) (r : Rhs) : Prop :=
  (∃ f args ts l, o.op = .call { callee := .value (.func f), args, argTypes := ts } ∧ args.toList.mapM cOpd = some l ∧ r = .call pu f l) ∨
  (∃ t args ts l, o.op = .call { callee := .value (.tmp t), args, argTypes := ts } ∧ args.toList.mapM cOpd = some l ∧ r = .callv pu (.t t) l)

section
variable {P : Program} {o : Oper} {a : Act} {w : World} {M : Mem} {bs bs' : List Box} {tau tau' : List Nat} {e : Env} {O : Orc}

theorem arr1 {α : Type} {x : Array α} {a : α} (h : x.toList = [a]) : x = #[a] := Array.ext' (by simpa using h)
theorem arr2 {α : Type} {x : Array α} {a b : α} (h : x.toList = [a, b]) : x = #[a, b] := Array.ext' (by simpa using h)

theorem evR_ok {own : List Nat} {pu : Bool} {r : Rhs} {v : AV} (hc : cOp P own pu o = some r) (he : EnvR M e a.tmps) (hw : WR M bs tau w) (hn : ¬ IsCall pu o r) (hev : evR O e bs tau r = some (v, bs', tau')) : ROK P o a w M v bs' tau' := by
  unfold cOp at hc
  split at hc
  · -- move
    rename_i x hop
    simp only [Option.map_eq_some_iff] at hc
    obtain ⟨x', hx, rfl⟩ := hc
    simp only [evR, Option.some.injEq, Prod.mk.injEq] at hev
    obtain ⟨rfl, rfl, rfl⟩ := hev
    exact rok_mv hw he (.inl hop) hx
  · -- assign
    rename_i x hop
    simp only [Option.map_eq_some_iff] at hc
    obtain ⟨x', hx, rfl⟩ := hc
    simp only [evR, Option.some.injEq, Prod.mk.injEq] at hev
    obtain ⟨rfl, rfl, rfl⟩ := hev
    exact rok_mv hw he (.inr hop) hx
  · -- pick
    rename_i c x y hop
    simp only [Option.bind_eq_bind, Option.pure_def, Option.bind_eq_some_iff, Option.some.injEq] at hc
    obtain ⟨c', hcc, x', hx, y', hy, rfl⟩ := hc
    simp only [evR] at hev
    split at hev
    · rename_i b hb
      simp only [Option.some.injEq, Prod.mk.injEq] at hev
      obtain ⟨rfl, rfl, rfl⟩ := hev
      exact rok_pick hw he hop hcc hx hy hb
    · cases hev
  · -- alloc
    rename_i t hop
    split at hc
    · rename_i hb
      cases hc
      simp only [evR, Option.some.injEq, Prod.mk.injEq] at hev
      obtain ⟨rfl, rfl, rfl⟩ := hev
      exact rok_allocB hw hop hb
    · simp only [Option.map_eq_some_iff] at hc
      obtain ⟨zs, hz, rfl⟩ := hc
      simp only [evR, Option.some.injEq, Prod.mk.injEq] at hev
      obtain ⟨rfl, rfl, rfl⟩ := hev
      exact rok_alloc hw hop hz
  · -- box
    rename_i t x hop
    split at hc
    · cases hc
    · split at hc
      · cases hc
      · simp only [Option.bind_eq_bind, Option.pure_def, Option.bind_eq_some_iff, Option.some.injEq] at hc
        obtain ⟨x', hx, rfl⟩ := hc
        simp only [evR] at hev
        split at hev
        · rename_i cs hcs
          simp only [Option.some.injEq, Prod.mk.injEq] at hev
          obtain ⟨rfl, rfl, rfl⟩ := hev
          exact rok_box hw he hop hx hcs
        · cases hev
  · -- build
    rename_i t parts hop
    simp only [Option.bind_eq_bind, Option.bind_eq_some_iff] at hc
    obtain ⟨z, hz, hc⟩ := hc
    split at hc
    · rename_i fs hfs
      simp only [Option.bind_eq_some_iff] at hc
      obtain ⟨ps, hps, hc⟩ := hc
      split at hc
      · rename_i hall
        cases hc
        simp only [evR] at hev
        split at hev
        · rename_i cs hcs
          simp only [Option.some.injEq, Prod.mk.injEq] at hev
          obtain ⟨rfl, rfl, rfl⟩ := hev
          exact rok_build hw he hop hz hfs hps hall hcs
        · cases hev
      · cases hc
    · cases hc
  · -- buildSlice
    rename_i t n parts hop
    split at hc
    · rename_i t' ht
      simp only [Option.bind_eq_bind, Option.bind_eq_some_iff] at hc
      obtain ⟨z, hz, ps, hps, hc⟩ := hc
      split at hc
      · rename_i hcond
        cases hc
        simp only [evR] at hev
        split at hev
        · rename_i es hes
          obtain ⟨h1, h2⟩ := rok_mks (tau := tau) hw he hop ht hz hcond.2 hps hcond.1 hes
          split at hev
          · rename_i q hq
            simp only [Option.some.injEq, Prod.mk.injEq] at hev
            obtain ⟨rfl, rfl, rfl⟩ := hev
            split at hq
            · cases hq; exact h2
            · cases hq
          · simp only [Option.some.injEq, Prod.mk.injEq] at hev
            obtain ⟨rfl, rfl, rfl⟩ := hev
            exact h1
        · cases hev
      · cases hc
    · cases hc
  · -- load
    rename_i t x hop
    split at hc
    · rename_i hcond
      simp only [Bool.and_eq_true, Bool.or_eq_true, beq_iff_eq] at hcond
      simp only [Option.map_eq_some_iff] at hc
      obtain ⟨x', hx, rfl⟩ := hc
      simp only [evR, optAV] at hev
      split at hev
      · rename_i av hav
        simp only [Option.some.injEq, Prod.mk.injEq] at hev
        obtain ⟨rfl, rfl, rfl⟩ := hev
        exact rok_ld hw he hop hcond.1 (fun h => hcond.2.resolve_left (by rw [h]; simp)) hx hav
      · cases hev
    · cases hc
  · -- store
    rename_i t x y hop
    split at hc
    · rename_i hcond
      simp only [Option.bind_eq_bind, Option.pure_def, Option.bind_eq_some_iff, Option.some.injEq] at hc
      obtain ⟨x', hx, y', hy, rfl⟩ := hc
      simp only [evR] at hev
      split at hev
      · rename_i b hb
        simp only [Option.some.injEq, Prod.mk.injEq] at hev
        obtain ⟨rfl, rfl, rfl⟩ := hev
        exact rok_st hw he hop hcond hx hy hb
      · cases hev
    · cases hc
  · -- nilCheck
    rename_i x hop
    simp only [Option.map_eq_some_iff] at hc
    obtain ⟨x', hx, rfl⟩ := hc
    simp only [evR] at hev
    split at hev
    · rename_i b k hv
      simp only [Option.some.injEq, Prod.mk.injEq] at hev
      obtain ⟨rfl, rfl, rfl⟩ := hev
      exact rok_nck hw he hop hx (.inl ⟨b, k, hv⟩) hv.symm
    · rename_i cs hv
      simp only [Option.some.injEq, Prod.mk.injEq] at hev
      obtain ⟨rfl, rfl, rfl⟩ := hev
      exact rok_nck hw he hop hx (.inr (.inl ⟨cs, hv⟩)) hv.symm
    · rename_i f c hv
      simp only [Option.some.injEq, Prod.mk.injEq] at hev
      obtain ⟨rfl, rfl, rfl⟩ := hev
      exact rok_nck hw he hop hx (.inr (.inr ⟨f, c, hv⟩)) hv.symm
    · cases hev
  · -- binOp
    rename_i op t x y yt hop
    simp only [Option.bind_eq_bind, Option.bind_eq_some_iff] at hc
    obtain ⟨p, hp, hc⟩ := hc
    have key : ∀ (x' y' : Opd), cOpd x = some x' → cOpd y = some y' → (r = .bin p x' y' ∨ P.underlying t = some .bool ∧ r = .binb p x' y') → ROK P o a w M v bs' tau' := by
      rintro x' y' hx hy (rfl | ⟨ht, rfl⟩)
      · simp only [evR] at hev
        split at hev
        · rename_i d1 d2 h1 h2
          simp only [optDV] at hev
          split at hev
          · rename_i z hz
            simp only [Option.some.injEq, Prod.mk.injEq] at hev
            obtain ⟨rfl, rfl, rfl⟩ := hev
            exact rok_bin hw he hop hp hx hy h1 h2 (.inl hz)
          · cases hev
        · cases hev
      · simp only [evR] at hev
        split at hev
        · rename_i d1 d2 h1 h2
          simp only [optDV] at hev
          split at hev
          · rename_i z hz
            simp only [Option.some.injEq, Prod.mk.injEq] at hev
            obtain ⟨rfl, rfl, rfl⟩ := hev
            exact rok_bin hw he hop hp hx hy h1 h2 (.inr ⟨ht, hz⟩)
          · cases hev
        · cases hev
    split at hc
    · simp only [Option.pure_def, Option.bind_eq_some_iff, Option.some.injEq] at hc
      obtain ⟨x', hx, y', hy, rfl⟩ := hc
      exact key x' y' hx hy (.inl rfl)
    · simp only [Option.pure_def, Option.bind_eq_some_iff, Option.some.injEq] at hc
      obtain ⟨x', hx, y', hy, rfl⟩ := hc
      exact key x' y' hx hy (.inl rfl)
    · rename_i ht
      simp only [Option.pure_def, Option.bind_eq_some_iff, Option.some.injEq] at hc
      obtain ⟨x', hx, y', hy, rfl⟩ := hc
      exact key x' y' hx hy (.inr ⟨ht, rfl⟩)
    · simp only [Option.pure_def, Option.bind_eq_some_iff, Option.some.injEq] at hc
      obtain ⟨x', hx, y', hy, rfl⟩ := hc
      exact key x' y' hx hy (.inl rfl)
    · rename_i ms ht
      split at hc
      · rename_i hnil
        have key2 : ∀ (f : U2) (x' y' : Opd), op = .eql ∧ f = .eqn ∨ op = .neq ∧ f = .nen → cOpd x = some x' → cOpd y = some y' → r = .u2 f x' y' → ROK P o a w M v bs' tau' := by
          rintro f x' y' hf hx hy rfl
          simp only [evR] at hev
          split at hev
          · rename_i d1 d2 h1 h2
            simp only [optDV] at hev
            split at hev
            · rename_i z hz
              simp only [Option.some.injEq, Prod.mk.injEq] at hev
              obtain ⟨rfl, rfl, rfl⟩ := hev
              exact rok_nil hw he hop hf ht hnil hx hy h1 h2 hz
            · cases hev
          · cases hev
        have hop' := BOp.of_go hp
        split at hc
        · simp only [Option.pure_def, Option.bind_eq_some_iff, Option.some.injEq] at hc
          obtain ⟨x', hx, y', hy, rfl⟩ := hc
          exact key2 .eqn x' y' (.inl ⟨hop', rfl⟩) hx hy rfl
        · simp only [Option.pure_def, Option.bind_eq_some_iff, Option.some.injEq] at hc
          obtain ⟨x', hx, y', hy, rfl⟩ := hc
          exact key2 .nen x' y' (.inr ⟨hop', rfl⟩) hx hy rfl
        · cases hc
      · cases hc
    · cases hc
  · -- unOp
    rename_i op t x hop
    split at hc
    · simp only [Option.map_eq_some_iff] at hc
      obtain ⟨x', hx, rfl⟩ := hc
      simp only [evR] at hev
      split at hev
      · rename_i b hb
        simp only [Option.some.injEq, Prod.mk.injEq] at hev
        obtain ⟨rfl, rfl, rfl⟩ := hev
        exact rok_not hw he hop hx hb
      · cases hev
    · simp only [Option.map_eq_some_iff] at hc
      obtain ⟨x', hx, rfl⟩ := hc
      simp only [evR] at hev
      split at hev
      · rename_i k n hb
        simp only [Option.some.injEq, Prod.mk.injEq] at hev
        obtain ⟨rfl, rfl, rfl⟩ := hev
        exact rok_neg hw he hop hx hb
      · cases hev
    · cases hc
  · -- convert
    rename_i s d x hop
    have key : ∀ (c : Cv) (x' : Opd), r = .conv c x' → ∃ y z, (x'.ev e).dv = some y ∧ evConv c y = some z ∧ v = .d z ∧ bs' = bs ∧ tau' = tau := by
      rintro c x' rfl
      simp only [evR] at hev
      split at hev
      · rename_i y hy
        simp only [optDV] at hev
        split at hev
        · rename_i z hz
          simp only [Option.some.injEq, Prod.mk.injEq] at hev
          obtain ⟨rfl, rfl, rfl⟩ := hev
          exact ⟨y, z, hy, hz, rfl, rfl, rfl⟩
        · cases hev
      · cases hev
    split at hc
    · rename_i k1 k hs hd
      simp only [Option.map_eq_some_iff] at hc
      obtain ⟨x', hx, rfl⟩ := hc
      obtain ⟨y, z, h1, h2, rfl, rfl, rfl⟩ := key _ _ rfl
      unfold evConv at h2
      split at h2 <;> first | (cases h2; done) | skip
      all_goals rename_i h; first | (cases h; done) | skip
      cases h
      cases h2
      exact rok_conv_int hw he hop hs hd hx (fun h => h.dv h1)
    · rename_i k1 k hs hd
      simp only [Option.map_eq_some_iff] at hc
      obtain ⟨x', hx, rfl⟩ := hc
      obtain ⟨y, z, h1, h2, rfl, rfl, rfl⟩ := key _ _ rfl
      cases y <;> simp only [evConv] at h2 <;> first | (cases h2; done) | skip
      cases h2
      exact rok_conv_i2f hw he hop hs hd hx (fun h => h.dv h1)
    · rename_i k1 k hs hd
      simp only [Option.map_eq_some_iff] at hc
      obtain ⟨x', hx, rfl⟩ := hc
      obtain ⟨y, z, h1, h2, rfl, rfl, rfl⟩ := key _ _ rfl
      cases y <;> simp only [evConv] at h2 <;> first | (cases h2; done) | skip
      split at h2
      · rename_i n hn
        split at h2
        · rename_i hr
          cases h2
          exact rok_conv_f2i hw he hop hs hd hx (fun h => h.dv h1) hn hr
        · cases h2
      · cases h2
    · rename_i hs hd
      simp only [Option.map_eq_some_iff] at hc
      obtain ⟨x', hx, rfl⟩ := hc
      obtain ⟨y, z, h1, h2, rfl, rfl, rfl⟩ := key _ _ rfl
      unfold evConv at h2
      split at h2 <;> first | (cases h2; done) | skip
      all_goals rename_i h; first | (cases h; done) | skip
      cases h2
      exact rok_conv_str hw he hop hs hd hx (fun h => h.dv h1)
    · rename_i t hs hd
      split at hc
      · rename_i hcond
        simp only [Bool.and_eq_true] at hcond
        simp only [Option.map_eq_some_iff] at hc
        obtain ⟨x', hx, rfl⟩ := hc
        obtain ⟨y, z, h1, h2, rfl, rfl, rfl⟩ := key _ _ rfl
        unfold evConv at h2
        split at h2 <;> first | (cases h2; done) | skip
        all_goals rename_i h; first | (cases h; done) | skip
        split at h2
        · cases h2
          exact rok_conv_sb hw he hop hs hd hcond.1 hx (fun h => h.dv h1)
        · cases h2
      · cases hc
    · rename_i t hs hd
      split at hc
      · rename_i hcond
        simp only [Option.map_eq_some_iff] at hc
        obtain ⟨x', hx, rfl⟩ := hc
        obtain ⟨y, z, h1, h2, rfl, rfl, rfl⟩ := key _ _ rfl
        have hz : ∃ l, z = .str l := by
          unfold evConv at h2
          split at h2 <;> first | (cases h2; done) | skip
          all_goals rename_i h; first | (cases h; done) | skip
          · cases h2; exact ⟨_, rfl⟩
          · split at h2
            · simp only [Option.map_eq_some_iff] at h2
              obtain ⟨l, _, rfl⟩ := h2
              exact ⟨l, rfl⟩
            · cases h2
        obtain ⟨l, rfl⟩ := hz
        exact rok_conv_bs hw he hop hs hd hcond hx (fun h => h.dv h1) h2
      · cases hc
    · cases hc
  · -- slice
    rename_i t x lo hi hop
    simp only [Option.bind_eq_bind, Option.bind_eq_some_iff] at hc
    obtain ⟨x', hx, lo', hlo, hi', hhi, hc⟩ := hc
    split at hc
    · rename_i ht
      cases hc
      simp only [evR] at hev
      split at hev
      · rename_i l hl
        split at hev
        · rename_i i j h1 h2
          split at hev
          · rename_i hcond
            simp only [Option.some.injEq, Prod.mk.injEq] at hev
            obtain ⟨rfl, rfl, rfl⟩ := hev
            exact rok_sls hw he hop ht hx hlo hhi hl h1 h2 hcond.1 hcond.2
          · cases hev
        · cases hev
      · cases hev
    · rename_i t' ht
      split at hc
      · rename_i hcond
        cases hc
        simp only [evR] at hev
        split at hev
        · rename_i es hes
          split at hev
          · rename_i i j h1 h2
            split at hev
            · rename_i hij
              simp only [Option.some.injEq, Prod.mk.injEq] at hev
              obtain ⟨rfl, rfl, rfl⟩ := hev
              exact rok_slc hw he hop ht hcond.1 hx hlo hhi hes h1 h2 hij.1 hij.2
            · cases hev
          · cases hev
        · cases hev
      · cases hc
    · cases hc
  · -- fieldAddr
    rename_i s x n hop
    split at hc
    · rename_i fs hs
      simp only [Option.bind_eq_bind, Option.bind_eq_some_iff] at hc
      obtain ⟨f, hf, hc⟩ := hc
      split at hc
      · rename_i hcond
        simp only [Option.map_eq_some_iff] at hc
        obtain ⟨x', hx, rfl⟩ := hc
        simp only [evR] at hev
        split at hev
        · rename_i cs hcs
          simp only [Option.some.injEq, Prod.mk.injEq] at hev
          obtain ⟨rfl, rfl, rfl⟩ := hev
          exact rok_fad hw he hop hs hf hcond.1 hcond.2 hx (.inl ⟨cs, hcs, rfl⟩)
        · rename_i b k hb
          simp only [Option.some.injEq, Prod.mk.injEq] at hev
          obtain ⟨rfl, rfl, rfl⟩ := hev
          exact rok_fad hw he hop hs hf hcond.1 hcond.2 hx (.inr ⟨b, k, hb, rfl⟩)
        · cases hev
      · cases hc
    · cases hc
  · -- field
    rename_i s x n hop
    split at hc
    · rename_i fs hs
      simp only [Option.bind_eq_bind, Option.bind_eq_some_iff] at hc
      obtain ⟨f, hf, hc⟩ := hc
      split at hc
      · rename_i hcond
        simp only [Option.map_eq_some_iff] at hc
        obtain ⟨x', hx, rfl⟩ := hc
        simp only [evR] at hev
        split at hev
        · rename_i cs hcs
          split at hev
          · simp only [optDV] at hev
            split at hev
            · rename_i z hz
              simp only [Option.some.injEq, Prod.mk.injEq] at hev
              obtain ⟨rfl, rfl, rfl⟩ := hev
              exact rok_fld hw he hop hs hf hcond.1 hx hcs hz
            · cases hev
          · cases hev
        · cases hev
      · cases hc
    · cases hc
  · -- indexAddr
    rename_i t x i hop
    split at hc
    · rename_i t' ht
      split at hc
      · rename_i hcond
        simp only [Option.bind_eq_bind, Option.pure_def, Option.bind_eq_some_iff, Option.some.injEq] at hc
        obtain ⟨x', hx, i', hi, rfl⟩ := hc
        simp only [evR] at hev
        split at hev
        · rename_i es k h1 h2
          split at hev
          · rename_i v' hv'
            simp only [Option.some.injEq, Prod.mk.injEq] at hev
            obtain ⟨rfl, rfl, rfl⟩ := hev
            exact rok_iad hw he hop ht hcond.1 hx hi h1 h2 hv' hcond.2
          · cases hev
        · cases hev
      · cases hc
    · rename_i n t' ht
      split at hc
      · rename_i hcond
        simp only [Option.bind_eq_bind, Option.pure_def, Option.bind_eq_some_iff, Option.some.injEq] at hc
        obtain ⟨x', hx, i', hi, rfl⟩ := hc
        simp only [evR] at hev
        split at hev
        · rename_i b k j h1 h2
          split at hev
          · rename_i hlt
            simp only [Option.some.injEq, Prod.mk.injEq] at hev
            obtain ⟨rfl, rfl, rfl⟩ := hev
            exact rok_iaa hw he hop ht hcond.1 hx hi h1 h2 hlt
          · cases hev
        · cases hev
      · cases hc
    · cases hc
  · -- index
    rename_i t x i hop
    split at hc
    · rename_i ht
      simp only [Option.bind_eq_bind, Option.pure_def, Option.bind_eq_some_iff, Option.some.injEq] at hc
      obtain ⟨x', hx, i', hi, rfl⟩ := hc
      simp only [evR] at hev
      split at hev
      · rename_i l k h1 h2
        split at hev
        · rename_i c hcc
          simp only [Option.some.injEq, Prod.mk.injEq] at hev
          obtain ⟨rfl, rfl, rfl⟩ := hev
          exact rok_ixs hw he hop ht hx hi h1 h2 hcc
        · cases hev
      · cases hev
    · cases hc
  · -- extract
    rename_i x i hop
    simp only [Option.map_eq_some_iff] at hc
    obtain ⟨x', hx, rfl⟩ := hc
    simp only [evR] at hev
    split at hev
    · rename_i vs hvs
      split at hev
      · rename_i u hu
        simp only [Option.some.injEq, Prod.mk.injEq] at hev
        obtain ⟨rfl, rfl, rfl⟩ := hev
        exact rok_ext hw he hop hx hvs hu
      · cases hev
    · cases hev
  · -- makeInterface
    rename_i t x hop
    split at hc
    · cases hc
    · cases hc
    · rename_i d h1 h2 
      cases hd : P.underlying t with
      | none => exact absurd hd h2
      | some d =>
        simp only [Option.map_eq_some_iff] at hc
        obtain ⟨x', hx, rfl⟩ := hc
        simp only [evR] at hev
        split at hev
        · rename_i u hu
          simp only [Option.some.injEq, Prod.mk.injEq] at hev
          obtain ⟨rfl, rfl, rfl⟩ := hev
          exact rok_mif hw he hop hd (fun ms e => h1 ms (by rw [hd, e])) hx hu
        · cases hev
  · -- makeFunc
    rename_i f first caps hop
    split at hc
    · rename_i h0
      simp only [Option.bind_eq_bind, Option.pure_def, Option.bind_eq_some_iff, Option.some.injEq] at hc
      obtain ⟨caps', hcaps, rfl⟩ := hc
      simp only [evR] at hev
      split at hev
      · rename_i l hl
        simp only [Option.some.injEq, Prod.mk.injEq] at hev
        obtain ⟨rfl, rfl, rfl⟩ := hev
        exact rok_mkf hw he hop h0 hcaps hl
      · cases hev
    · cases hc
  · -- call
    rename_i c hop
    obtain ⟨callee, args, argTypes⟩ := c
    simp only at hc
    split at hc
    · simp only [Option.bind_eq_bind, Option.pure_def, Option.bind_eq_some_iff, Option.some.injEq] at hc
      obtain ⟨l, hl, rfl⟩ := hc
      exact absurd (.inl ⟨_, args, argTypes, l, hop, hl, rfl⟩) hn
    · simp only [Option.bind_eq_bind, Option.pure_def, Option.bind_eq_some_iff, Option.some.injEq] at hc
      obtain ⟨l, hl, rfl⟩ := hc
      exact absurd (.inr ⟨_, args, argTypes, l, hop, hl, rfl⟩) hn
    · -- len
      split at hc
      · rename_i t x hts hxs
        obtain rfl := arr1 hts
        obtain rfl := arr1 hxs
        split at hc
        · rename_i ht
          simp only [Option.map_eq_some_iff] at hc
          obtain ⟨x', hx, rfl⟩ := hc
          simp only [evR] at hev
          split at hev
          · rename_i l hl
            simp only [Option.some.injEq, Prod.mk.injEq] at hev
            obtain ⟨rfl, rfl, rfl⟩ := hev
            exact rok_len hw he hop rfl hx (.inl ⟨ht, l, hl, rfl⟩)
          · cases hev
        · rename_i t' ht
          simp only [Option.map_eq_some_iff] at hc
          obtain ⟨x', hx, rfl⟩ := hc
          simp only [evR] at hev
          split at hev
          · rename_i sz hs
            simp only [Option.some.injEq, Prod.mk.injEq] at hev
            obtain ⟨rfl, rfl, rfl⟩ := hev
            exact rok_len (n := 0) hw he hop rfl hx (.inr ⟨t', ht, sz, [], by rw [hs]; rfl, rfl⟩)
          · rename_i sz es hs
            simp only [Option.some.injEq, Prod.mk.injEq] at hev
            obtain ⟨rfl, rfl, rfl⟩ := hev
            exact rok_len hw he hop rfl hx (.inr ⟨t', ht, sz, es, by rw [hs]; simp [elemsOf], rfl⟩)
          · rename_i tk te sz es hs
            simp only [Option.some.injEq, Prod.mk.injEq] at hev
            obtain ⟨rfl, rfl, rfl⟩ := hev
            exact rok_len hw he hop rfl hx (.inr ⟨t', ht, sz, es, by rw [hs]; simp [elemsOf], rfl⟩)
          · cases hev
        · cases hc
      · cases hc
    · -- append
      split at hc
      · rename_i t t2 x y hts hxs
        obtain rfl := arr2 hts
        obtain rfl := arr2 hxs
        split at hc
        · rename_i t' ht
          simp only [Option.bind_eq_bind, Option.bind_eq_some_iff] at hc
          obtain ⟨z, hz, hc⟩ := hc
          split at hc
          · rename_i hcond
            obtain ⟨rfl, h1, h2⟩ := hcond
            simp only [Option.pure_def, Option.bind_eq_some_iff, Option.some.injEq] at hc
            obtain ⟨x', hx, y', hy, rfl⟩ := hc
            simp only [evR] at hev
            split at hev
            · rename_i ys hys
              split at hev
              · rename_i u tau2 hu
                simp only [Option.some.injEq, Prod.mk.injEq] at hev
                obtain ⟨rfl, rfl, rfl⟩ := hev
                exact rok_app hw he hop ht hz h1 h2 hx hy hys hu
              · cases hev
            · cases hev
          · cases hc
        · cases hc
      · cases hc
    · -- real
      split at hc
      · rename_i x hxs
        obtain rfl := arr1 hxs
        simp only [Option.map_eq_some_iff] at hc
        obtain ⟨x', hx, rfl⟩ := hc
        simp only [evR] at hev
        split at hev
        · rename_i d h1
          simp only [optDV] at hev
          split at hev
          · rename_i z hz
            simp only [Option.some.injEq, Prod.mk.injEq] at hev
            obtain ⟨rfl, rfl, rfl⟩ := hev
            exact rok_u1 (f := .re) hw he hop hx h1 hz
          · cases hev
        · cases hev
      · cases hc
    · -- imag
      split at hc
      · rename_i x hxs
        obtain rfl := arr1 hxs
        simp only [Option.map_eq_some_iff] at hc
        obtain ⟨x', hx, rfl⟩ := hc
        simp only [evR] at hev
        split at hev
        · rename_i d h1
          simp only [optDV] at hev
          split at hev
          · rename_i z hz
            simp only [Option.some.injEq, Prod.mk.injEq] at hev
            obtain ⟨rfl, rfl, rfl⟩ := hev
            exact rok_u1 (f := .im) hw he hop hx h1 hz
          · cases hev
        · cases hev
      · cases hc
    · -- complex
      split at hc
      · rename_i x y hxs
        obtain rfl := arr2 hxs
        simp only [Option.bind_eq_bind, Option.pure_def, Option.bind_eq_some_iff, Option.some.injEq] at hc
        obtain ⟨x', hx, y', hy, rfl⟩ := hc
        simp only [evR] at hev
        split at hev
        · rename_i d1 d2 h1 h2
          simp only [optDV] at hev
          split at hev
          · rename_i z hz
            simp only [Option.some.injEq, Prod.mk.injEq] at hev
            obtain ⟨rfl, rfl, rfl⟩ := hev
            exact rok_cpx hw he hop hx hy h1 h2 hz
          · cases hev
        · cases hev
      · cases hc
    · -- min
      split at hc
      · rename_i x y hxs
        obtain rfl := arr2 hxs
        simp only [Option.bind_eq_bind, Option.pure_def, Option.bind_eq_some_iff, Option.some.injEq] at hc
        obtain ⟨x', hx, y', hy, rfl⟩ := hc
        simp only [evR] at hev
        split at hev
        · rename_i d1 d2 h1 h2
          simp only [optDV] at hev
          split at hev
          · rename_i z hz
            simp only [Option.some.injEq, Prod.mk.injEq] at hev
            obtain ⟨rfl, rfl, rfl⟩ := hev
            exact rok_mnmx (mx := false) hw he hop hx hy h1 h2 hz
          · cases hev
        · cases hev
      · cases hc
    · -- max
      split at hc
      · rename_i x y hxs
        obtain rfl := arr2 hxs
        simp only [Option.bind_eq_bind, Option.pure_def, Option.bind_eq_some_iff, Option.some.injEq] at hc
        obtain ⟨x', hx, y', hy, rfl⟩ := hc
        simp only [evR] at hev
        split at hev
        · rename_i d1 d2 h1 h2
          simp only [optDV] at hev
          split at hev
          · rename_i z hz
            simp only [Option.some.injEq, Prod.mk.injEq] at hev
            obtain ⟨rfl, rfl, rfl⟩ := hev
            exact rok_mnmx (mx := true) hw he hop hx hy h1 h2 hz
          · cases hev
        · cases hev
      · cases hc
    · cases hc
  · cases hc
end
end Go.Abs

/- Calls: the callee sees its arguments and the boxes that are handed on; all else is put aside. -/
namespace Go.Abs
open Go

def ARs (M : Mem) : List AV → List Value → Prop
  | [], vs => vs = []
  | x :: l, vs => ∃ v r, vs = v :: r ∧ AR M x v ∧ ARs M l r

def Box.plain : Box → Prop
  | .cells cs => ∃ ds : List DV, cs = ds.map .d
  | .bld _ => True

/-- What a call of a function does, said of data: in whatever memory. -/
def Sound (P : Program) (f : FuncId) (args : List AV) (bs : List Box) (r : DV) (bs' : List Box) : Prop :=
  bs'.length = bs.length ∧ (∀ x ∈ bs', x.plain) ∧
  ∀ M w vals, WR M bs [] w → ARs M args vals → Calls P f vals.toArray w fun e w' => ∃ v M', e = .returned v ∧ SR M w M' w' ∧ WR M' bs' [] w' ∧ DR M'.imm r v

/-- A function that can be entered. -/
def Enters (P : Program) (f : FuncId) : Prop := ∃ fn, P.funcs[f]? = some fn ∧ (fn.name == "runtime.NumGoroutine") = false ∧ fn.body.isSome = true

def OrcOK (P : Program) (O : Orc) : Prop := ∀ f args bs r bs', O f args bs = some (r, bs') → (∀ x ∈ bs, x.plain) → Enters P f ∧ Sound P f args bs r bs'

/- THE BOXES HANDED ON -/
theorem idxB_spec (b : Nat) : ∀ (l : List Nat) (k j : Nat) (t : Bool), idxB b l k = (j, t) → (t = true → ∃ i, j = k + i ∧ l[i]? = some b) ∧ (t = false → j = k + l.length ∧ b ∉ l)
  | [], k, j, t, h => by
    simp [idxB] at h
    obtain ⟨rfl, rfl⟩ := h
    simp
  | x :: l, k, j, t, h => by
    simp only [idxB] at h
    split at h
    · rename_i hx
      cases h
      exact ⟨fun _ => ⟨0, rfl, by simp [hx]⟩, fun h => by cases h⟩
    · rename_i hx
      obtain ⟨h1, h2⟩ := idxB_spec b l (k + 1) j t h
      refine ⟨fun ht => ?_, fun ht => ?_⟩
      · obtain ⟨i, e1, e2⟩ := h1 ht
        exact ⟨i + 1, by omega, by simpa using e2⟩
      · obtain ⟨e1, e2⟩ := h2 ht
        exact ⟨by simp; omega, by simp [e2]; exact fun e => hx e.symm⟩

/-- How an argument is seen, by a list of boxes. -/
def ArgR (ps : List Nat) : AV → AV → Prop
  | .d x, y => y = .d (canon2 x)
  | .sl _ _ sz es, y => y = .d (canon1 (.slice sz es))
  | .ep cs, y => y = .ep cs
  | .bp b off, y => ∃ i, ps[i]? = some b ∧ y = .bp i off
  | .fn f caps, y => caps = [] ∧ y = .fn f []
  | .junk, _ => False
theorem ArgR.more {ps qs : List Nat} {x y : AV} (h : ArgR ps x y) : ArgR (ps ++ qs) x y := by
  cases x <;> simp only [ArgR] at h ⊢ <;> try exact h
  obtain ⟨i, h1, h2⟩ := h
  refine ⟨i, ?_, h2⟩
  rw [List.getElem?_append_left (by
    rcases Nat.lt_or_ge i ps.length with h | h
    · exact h
    · rw [List.getElem?_eq_none h] at h1; cases h1)]
  exact h1
theorem argV_spec {ps ps' : List Nat} {x y : AV} (h : argV ps x = some (y, ps')) (hn : ps.Nodup) : (∃ qs, ps' = ps ++ qs) ∧ ps'.Nodup ∧ ArgR ps' x y := by
  unfold argV at h
  split at h
  · cases h; exact ⟨⟨[], by simp⟩, hn, rfl⟩
  · cases h; exact ⟨⟨[], by simp⟩, hn, rfl⟩
  · cases h; exact ⟨⟨[], by simp⟩, hn, rfl⟩
  · rename_i b off
    split at h
    · rename_i i hi
      cases h
      obtain ⟨j, e1, e2⟩ := (idxB_spec b ps 0 i true hi).1 rfl
      refine ⟨⟨[], by simp⟩, hn, j, e2, by rw [e1, Nat.zero_add]⟩
    · rename_i i hi
      cases h
      obtain ⟨e1, e2⟩ := (idxB_spec b ps 0 i false hi).2 rfl
      refine ⟨⟨[b], rfl⟩, ?_, ps.length, by simp, by rw [e1, Nat.zero_add]⟩
      rw [List.nodup_append]
      exact ⟨hn, by simp, fun a ha c hc e => by simp at hc; subst hc; subst e; exact e2 ha⟩
  · cases h; exact ⟨⟨[], by simp⟩, hn, rfl, rfl⟩
  · cases h
def All2 (R : AV → AV → Prop) : List AV → List AV → Prop
  | [], ys => ys = []
  | x :: l, ys => ∃ y r, ys = y :: r ∧ R x y ∧ All2 R l r
theorem argVs_spec : ∀ {l : List AV} {ps ps' : List Nat} {ys : List AV}, argVs ps l = some (ys, ps') → ps.Nodup → (∃ qs, ps' = ps ++ qs) ∧ ps'.Nodup ∧ All2 (ArgR ps') l ys
  | [], ps, ps', ys, h, hn => by
    simp [argVs] at h
    obtain ⟨rfl, rfl⟩ := h
    exact ⟨⟨[], by simp⟩, hn, rfl⟩
  | x :: l, ps, ps', ys, h, hn => by
    simp only [argVs] at h
    split at h
    · rename_i y ps1 h1
      split at h
      · rename_i ys' ps2 h2
        cases h
        obtain ⟨⟨q1, rfl⟩, hn1, h3⟩ := argV_spec h1 hn
        obtain ⟨⟨q2, rfl⟩, hn2, h4⟩ := argVs_spec h2 hn1
        exact ⟨⟨q1 ++ q2, by simp⟩, hn2, _, _, rfl, h3.more, h4⟩
      · cases h
    · cases h

theorem boxesOut_spec {bs : List Box} : ∀ {ps : List Nat} {xs : List Box}, boxesOut bs ps = some xs → xs.length = ps.length ∧ ∀ (i : Nat) x, xs[i]? = some x → ∃ b y, ps[i]? = some b ∧ bs[b]? = some y ∧ boxOut y = some x
  | [], xs, h => by simp [boxesOut] at h; subst h; simp
  | b :: ps, xs, h => by
    simp only [boxesOut] at h
    split at h
    · rename_i x xs' h1 h2
      cases h
      obtain ⟨h3, h4⟩ := boxesOut_spec h2
      split at h1
      · rename_i y hy
        refine ⟨by simp [h3], fun i z hz => ?_⟩
        cases i with
        | zero => simp at hz; subst hz; exact ⟨b, y, rfl, hy, h1⟩
        | succ i => simp at hz; obtain ⟨b', y', e1, e2, e3⟩ := h4 i z hz; exact ⟨b', y', by simpa using e1, e2, e3⟩
      · cases h1
    · cases h
theorem boxOut_plain {x y : Box} (h : boxOut x = some y) : y.plain := by
  cases x with
  | cells cs =>
    simp only [boxOut] at h
    split at h
    · cases h; exact ⟨_, rfl⟩
    · cases h
  | bld l => cases h; trivial
theorem boxesIn_length : ∀ (ps : List Nat) (ys bs : List Box), (boxesIn bs ps ys).length = bs.length
  | [], _, _ => by simp [boxesIn]
  | b :: ps, [], _ => by simp [boxesIn]
  | b :: ps, y :: ys, bs => by simp [boxesIn, boxesIn_length ps ys]
theorem boxesIn_other : ∀ (ps : List Nat) (ys bs : List Box) (b : Nat), b ∉ ps → (boxesIn bs ps ys)[b]? = bs[b]?
  | [], _, _, _, _ => by simp [boxesIn]
  | c :: ps, [], _, _, _ => by simp [boxesIn]
  | c :: ps, y :: ys, bs, b, h => by
    simp only [List.mem_cons, not_or] at h
    simp only [boxesIn]
    rw [boxesIn_other ps ys _ b h.2, List.getElem?_set_ne (fun e => h.1 e.symm)]
theorem boxesIn_at : ∀ (ps : List Nat) (ys bs : List Box) (i b : Nat) (y : Box), ps.Nodup → ps[i]? = some b → ys[i]? = some y → b < bs.length → (boxesIn bs ps ys)[b]? = some y
  | [], _, _, _, _, _, _, h, _, _ => by simp at h
  | c :: ps, [], _, _, _, _, _, _, h, _ => by simp at h
  | c :: ps, y' :: ys, bs, 0, b, y, hn, h1, h2, h3 => by
    simp at h1 h2
    subst h1 h2
    simp only [boxesIn]
    rw [boxesIn_other ps ys _ c (List.nodup_cons.1 hn).1, List.getElem?_set_self h3]
  | c :: ps, y' :: ys, bs, i + 1, b, y, hn, h1, h2, h3 => by
    simp at h1 h2
    simp only [boxesIn]
    exact boxesIn_at ps ys _ i b y (List.nodup_cons.1 hn).2 h1 h2 (by simpa using h3)

/- THE CALLEE's MEMORY -/
def rowOf (w : World) (g : Nat) : Option Owner := (w.heap[g]?).map .row
def Mem.inner (M : Mem) (ps : List Nat) (w : World) : Mem where
  imm := M.imm
  own := fun g => match M.own g with
    | some (.box b) => if b ∈ ps then some (.box (ps.idxOf b)) else rowOf w g
    | some (.tok _) => rowOf w g
    | some (.row o) => some (.row o)
    | none => none
  box := fun i => (ps[i]?).bind M.box
  tokv := fun _ _ => none
  toke := fun _ => none

section
variable {P : Program} {w w' : World} {M M' : Mem} {bs xs ys : List Box} {tau : List Nat} {ps : List Nat}

theorem idxOf_of_get (hn : ps.Nodup) {i b : Nat} (h : ps[i]? = some b) : ps.idxOf b = i := by
  obtain ⟨hi, rfl⟩ := List.getElem?_eq_some_iff.1 h
  exact List.Nodup.idxOf_getElem hn i hi

theorem inner_row {g : Nat} {o : Obj} (hw : WR M bs tau w) (h : (M.inner ps w).own g = some (.row o)) : w.heap[g]? = some o := by
  simp only [Mem.inner] at h
  split at h
  · split at h
    · cases h
    · unfold rowOf at h; cases hg : w.heap[g]? with
      | none => simp [hg] at h
      | some o' => simp [hg] at h; rw [h]
  · unfold rowOf at h; cases hg : w.heap[g]? with
    | none => simp [hg] at h
    | some o' => simp [hg] at h; rw [h]
  · cases h; rename_i h'; exact hw.row _ _ h'
  · cases h

theorem inner_box {g i : Nat} (h : (M.inner ps w).own g = some (.box i)) : ∃ b, b ∈ ps ∧ M.own g = some (.box b) ∧ ps.idxOf b = i := by
  simp only [Mem.inner] at h
  split at h
  · rename_i b hb
    split at h
    · rename_i hm
      injection h with h
      injection h with h
      exact ⟨b, hm, hb, h⟩
    · unfold rowOf at h; cases hg : w.heap[g]? <;> simp [hg] at h
  · unfold rowOf at h; cases hg : w.heap[g]? <;> simp [hg] at h
  · cases h
  · cases h

theorem WR.inner (hw : WR M bs tau w) (hn : ps.Nodup) (hx : boxesOut bs ps = some xs) : WR (M.inner ps w) xs [] w := by
  obtain ⟨h1, h2⟩ := boxesOut_spec hx
  have hbox : ∀ (i b : Nat) g, ps[i]? = some b → M.own g = some (.box b) → (M.inner ps w).own g = some (.box i) := by
    intro i b g hi hg
    simp only [Mem.inner, hg]
    rw [if_pos (List.mem_iff_getElem?.2 ⟨i, hi⟩), idxOf_of_get hn hi]
  exact {
    imm := hw.imm
    immb := fun a v b e k => by
      obtain ⟨c, _, hc, _⟩ := inner_box k
      exact hw.immb a v c e hc
    box := fun i x e => by
      obtain ⟨b, y, e1, e2, e3⟩ := h2 i x e
      have hb := hw.box b y e2
      cases y with
      | cells cs =>
        simp only [boxOut] at e3
        split at e3
        · rename_i ds hds
          cases e3
          obtain ⟨g, vs, ty, k1, k2, k3, k4⟩ := hb
          exact ⟨g, vs, ty, by simp [Mem.inner, e1, k1], hbox i b g e1 k2, k3, CR.of_DRs (k4.dvs hds)⟩
        · cases e3
      | bld l =>
        cases e3
        obtain ⟨g, va, vb, k1, k2, k3, k4⟩ := hb
        refine ⟨g, va, vb, by simp [Mem.inner, e1, k1], hbox i b g e1 k2, k3, k4.imp id ?_⟩
        rintro ⟨q1, q2, q3⟩
        exact ⟨q1, q2, fun r hr => ⟨hbox i b r e1 (q3 r hr).1, (q3 r hr).2⟩⟩
    boxd := fun i g e => by
      simp only [Mem.inner] at e
      rw [h1]
      rcases Nat.lt_or_ge i ps.length with h | h
      · exact h
      · rw [List.getElem?_eq_none h] at e; cases e
    tok := fun t n e => by simp at e
    tokd := fun t n v e => by simp [Mem.inner] at e
    toked := fun t x e => by simp [Mem.inner] at e
    row := fun g o e => inner_row hw e
    lt := fun g o e => by
      simp only [Mem.inner] at e
      split at e
      · rename_i h; exact hw.lt _ _ h
      · rename_i h; exact hw.lt _ _ h
      · rename_i h; exact hw.lt _ _ h
      · cases e
    ownb := fun g i e => by
      obtain ⟨b, hb, _, rfl⟩ := inner_box e
      rw [h1]
      exact List.idxOf_lt_length_of_mem hb
    glob := hw.glob
    ownt := fun g t e => by
      simp only [Mem.inner] at e
      split at e
      · split at e
        · cases e
        · unfold rowOf at e; cases hg : w.heap[g]? <;> simp [hg] at e
      · unfold rowOf at e; cases hg : w.heap[g]? <;> simp [hg] at e
      · cases e
      · cases e }

/-- What was put aside is a row for the callee. -/
theorem inner_aside (hw : WR M bs tau w) {g : Nat} {o : Owner} (h : M.own g = some o) (ho : ∀ b, o = .box b → b ∉ ps) : ∃ ob, w.heap[g]? = some ob ∧ (M.inner ps w).own g = some (.row ob) := by
  have hlt := hw.lt g o h
  have hg := Array.getElem?_eq_getElem hlt
  refine ⟨w.heap[g], hg, ?_⟩
  simp only [Mem.inner, h]
  cases o with
  | box b => simp only; rw [if_neg (ho b rfl)]; simp [rowOf, hg]
  | tok t => simp [rowOf, hg]
  | row ob =>
    have := hw.row g ob h
    rw [hg] at this
    cases this
    rfl

/-- The caller's memory behind the call. -/
def Mem.outer (M M' : Mem) (ps : List Nat) : Mem where
  imm := M'.imm
  own := fun g => match M.own g with
    | some (.tok t) => some (.tok t)
    | some (.row o) => some (.row o)
    | some (.box b) => if b ∈ ps then (match M'.own g with | some (.box i) => (ps[i]?).map .box | _ => none) else some (.box b)
    | none => match M'.own g with | some (.box i) => (ps[i]?).map .box | _ => none
  box := M.box
  tokv := M.tokv
  toke := M.toke

theorem outer_own {g : Nat} {o : Owner} (h : (M.outer M' ps).own g = some o) : (M.own g = some o ∧ ∀ b, o = .box b → b ∉ ps) ∨ ∃ i b, o = .box b ∧ ps[i]? = some b ∧ M'.own g = some (.box i) := by
  have key : (match M'.own g with | some (.box i) => (ps[i]?).map Owner.box | _ => none) = some o → ∃ i b, o = .box b ∧ ps[i]? = some b ∧ M'.own g = some (.box i) := by
    intro h
    split at h
    · rename_i i hi
      simp only [Option.map_eq_some_iff] at h
      obtain ⟨b, hb, rfl⟩ := h
      exact ⟨i, b, rfl, hb, hi⟩
    · cases h
  simp only [Mem.outer] at h
  split at h
  · rename_i t ht; cases h; exact .inl ⟨ht, fun b e => by cases e⟩
  · rename_i t ht; cases h; exact .inl ⟨ht, fun b e => by cases e⟩
  · rename_i b hb
    split at h
    · exact .inr (key h)
    · rename_i hm
      cases h
      exact .inl ⟨hb, fun b' e => by cases e; exact hm⟩
  · exact .inr (key h)

theorem SR.outer (hs : SR (M.inner ps w) w M' w') : SR M w (M.outer M' ps) w' where
  le := ⟨hs.le.imm, fun _ _ h => h, fun _ _ _ h => h, fun _ _ h => h⟩
  row g o e := by simp only [Mem.outer, e]
  rowi a v o e f := hs.rowi a v o (by simp only [Mem.inner, e]) f
  ext := hs.ext

theorem CR_plain {A B : Mem} (h : B.imm = A.imm) {ds : List DV} : ∀ {vs : List Value}, CR A (ds.map .d) vs → CR B (ds.map .d) vs := by
  induction ds with
  | nil => exact fun h => h
  | cons d ds ih =>
    rintro vs ⟨v, r, h1, h2, h3, h4⟩
    refine ⟨v, r, h1, ?_, h3, ih h4⟩
    show DR B.imm d v
    rw [h]
    exact h2

theorem WR.outer (hw : WR M bs tau w) (hn : ps.Nodup) (hx : boxesOut bs ps = some xs) (hs : SR (M.inner ps w) w M' w') (hw' : WR M' ys [] w') (hl : ys.length = xs.length) (hp : ∀ y ∈ ys, y.plain) : WR (M.outer M' ps) (boxesIn bs ps ys) tau w' := by
  obtain ⟨h1, h2⟩ := boxesOut_spec hx
  have hpb : ∀ (i b : Nat), ps[i]? = some b → ∃ y, bs[b]? = some y ∧ b < bs.length := by
    intro i b hi
    have hi' : i < xs.length := by
      rw [h1]
      rcases Nat.lt_or_ge i ps.length with h | h
      · exact h
      · rw [List.getElem?_eq_none h] at hi; cases hi
    obtain ⟨b', y, e1, e2, _⟩ := h2 i _ (List.getElem?_eq_getElem hi')
    rw [hi] at e1
    cases e1
    refine ⟨y, e2, ?_⟩
    rcases Nat.lt_or_ge b bs.length with h | h
    · exact h
    · rw [List.getElem?_eq_none h] at e2; cases e2
  -- what was put aside stands
  have aside : ∀ (g : Nat) o ob, M.own g = some o → (∀ b, o = .box b → b ∉ ps) → w.heap[g]? = some ob → w'.heap[g]? = some ob := by
    intro g o ob ho hb hg
    obtain ⟨ob', e1, e2⟩ := inner_aside hw ho hb
    rw [hg] at e1
    cases e1
    exact hw'.row g ob (hs.row g ob e2)
  have immb : ∀ (a : Addr) v o, M.own a.block = some o → (∀ b, o = .box b → b ∉ ps) → M'.imm a = some v → M.imm a = some v := by
    intro a v o ho hb hi
    obtain ⟨ob, _, e2⟩ := inner_aside hw ho hb
    exact hs.rowi a v ob e2 hi
  have sr := SR.outer (M := M) (ps := ps) hs
  exact {
    imm := hw'.imm
    immb := fun a v b e k => by
      rcases outer_own k with ⟨h3, h4⟩ | ⟨i, b', _, _, h5⟩
      · exact hw.immb a v b (immb a v _ h3 h4 e) h3
      · exact hw'.immb a v i e h5
    box := fun b y e => by
      by_cases hb : b ∈ ps
      · obtain ⟨i, hi⟩ := List.mem_iff_getElem?.1 hb
        have hil : i < ys.length := by
          rw [hl, h1]
          rcases Nat.lt_or_ge i ps.length with h | h
          · exact h
          · rw [List.getElem?_eq_none h] at hi; cases hi
        have hyi := List.getElem?_eq_getElem hil
        obtain ⟨_, _, hlt⟩ := hpb i b hi
        rw [boxesIn_at ps ys bs i b _ hn hi hyi hlt] at e
        cases e
        have hbox := hw'.box i _ hyi
        have hpl := hp ys[i] (List.getElem_mem hil)
        have hown : ∀ g, M'.own g = some (.box i) → (M.outer M' ps).own g = some (.box b) := by
          intro g hg
          cases hm : M.own g with
          | none => simp [Mem.outer, hm, hg, hi]
          | some o =>
            by_cases ho : ∀ b, o = .box b → b ∉ ps
            · obtain ⟨ob, _, e2⟩ := inner_aside hw hm ho
              rw [hs.row g ob e2] at hg
              cases hg
            · simp only [Classical.not_forall] at ho
              obtain ⟨c, rfl, hc⟩ := ho
              have hc : c ∈ ps := Classical.not_not.1 hc
              simp [Mem.outer, hm, hg, hi, hc]
        have hbx : ∀ g, M'.box i = some g → M.box b = some g := by
          intro g hg
          have hil' : i < xs.length := by rw [← hl]; exact hil
          obtain ⟨b', y', q1, q2, _⟩ := h2 i _ (List.getElem?_eq_getElem hil')
          rw [hi] at q1
          cases q1
          have : ∃ g0, M.box b = some g0 := by
            have := hw.box b y' q2
            cases y' with
            | cells cs => obtain ⟨g0, _, _, k1, _⟩ := this; exact ⟨g0, k1⟩
            | bld l => obtain ⟨g0, _, _, k1, _⟩ := this; exact ⟨g0, k1⟩
          obtain ⟨g0, k1⟩ := this
          have k2 := hs.le.box i g0 (by simp [Mem.inner, hi, k1])
          rw [hg] at k2
          cases k2
          exact k1
        generalize ys[i] = y at hbox hpl
        cases y with
        | cells cs =>
          obtain ⟨ds, rfl⟩ := hpl
          obtain ⟨g, vs, ty, k1, k2, k3, k4⟩ := hbox
          exact ⟨g, vs, ty, hbx g k1, hown g k2, k3, CR_plain (A := M') (B := M.outer M' ps) rfl k4⟩
        | bld l =>
          obtain ⟨g, va, vb, k1, k2, k3, k4⟩ := hbox
          refine ⟨g, va, vb, hbx g k1, hown g k2, k3, k4.imp id ?_⟩
          rintro ⟨q1, q2, q3⟩
          exact ⟨q1, q2, fun r hr => ⟨hown r (q3 r hr).1, (q3 r hr).2⟩⟩
      · rw [boxesIn_other ps ys bs b hb] at e
        have hbox := (hw.box b y e).other (w' := w') (fun k o ho hk => aside k _ o hk (fun b' e => by cases e; exact hb) ho)
        exact hbox.same (HeapSame.refl _) sr.le (fun g hg => by simp [Mem.outer, hg, hb])
    boxd := fun b g e => by
      rw [boxesIn_length]
      exact hw.boxd b g e
    tok := fun t n e => by
      obtain ⟨v, e', sz, us, k1, k2, k3, k4, k5, k6⟩ := hw.tok t n e
      refine ⟨v, e', sz, us, k1, k2, k3, ?_, fun g hg => by simp only [Mem.outer, k5 g hg], fun g off hg ho => ?_⟩
      · obtain ⟨e4, e5⟩ := k4
        refine ⟨e4, e5.imp id ?_⟩
        rintro ⟨r, cap, cur, f1, f2, f3, f4⟩
        exact ⟨r, cap, cur, f1, f2, aside r _ _ (k5 r (by rw [f1]; rfl)) (fun b e => by cases e) f3, f4⟩
      · cases hm : (M.outer M' ps).imm ⟨g, off, none⟩ with
        | none => rfl
        | some u =>
          have := immb ⟨g, off, none⟩ u _ (k5 g hg) (fun b e => by cases e) hm
          rw [k6 g off hg ho] at this
          cases this
    tokd := hw.tokd
    toked := hw.toked
    row := fun g o e => by
      rcases outer_own e with ⟨h3, h4⟩ | ⟨_, _, h5, _⟩
      · exact aside g _ o h3 h4 (hw.row g o h3)
      · cases h5
    lt := fun g o e => by
      rcases outer_own e with ⟨h3, h4⟩ | ⟨i, b, _, _, h5⟩
      · exact Nat.lt_of_lt_of_le (hw.lt g o h3) hs.ext.size
      · exact hw'.lt g _ h5
    ownb := fun g b e => by
      rw [boxesIn_length]
      rcases outer_own e with ⟨h3, h4⟩ | ⟨i, b', h5, h6, _⟩
      · exact hw.ownb g b h3
      · cases h5
        obtain ⟨_, _, h⟩ := hpb i _ h6
        exact h
    glob := hw'.glob
    ownt := fun g t e => by
      rcases outer_own e with ⟨h3, h4⟩ | ⟨_, _, h5, _⟩
      · exact hw.ownt g t h3
      · cases h5 }

theorem args_inner : ∀ {l l' : List AV} {vs : List Value}, All2 (ArgR ps) l l' → ARs M l vs → ARs (M.inner ps w) l' vs
  | [], l', vs, h, hv => by
    simp only [All2] at h
    subst h
    exact hv
  | x :: l, l', vs, h, hv => by
    obtain ⟨y, r, rfl, h1, h2⟩ := h
    obtain ⟨v, r', rfl, h3, h4⟩ := hv
    refine ⟨v, r', rfl, ?_, args_inner h2 h4⟩
    cases x <;> simp only [ArgR] at h1
    · subst h1; exact DR_canon2 (show DR M.imm _ v from h3)
    · subst h1; exact DR_canon1 (show DR M.imm _ v from h3.1)
    · subst h1; exact h3
    · obtain ⟨i, h5, rfl⟩ := h1
      obtain ⟨g, h6, h7⟩ := h3
      exact ⟨g, by simp [Mem.inner, h5, h6], h7⟩
    · obtain ⟨rfl, rfl⟩ := h1
      obtain ⟨cv, h6, h7⟩ := h3
      exact ⟨cv, h6, h7⟩

theorem evCall_sound {O : Orc} (hO : OrcOK P O) {pu : Bool} {f : FuncId} {args : List AV} {v : AV} {bs' : List Box} {tau' : List Nat} {vals : List Value} (hev : evCall O pu f args bs tau = some (v, bs', tau')) (hw : WR M bs tau w) (ha : ARs M args vals) :
    Enters P f ∧ tau' = tau ∧ Calls P f vals.toArray w fun e w' => ∃ val M', e = .returned val ∧ SR M w M' w' ∧ WR M' bs' tau' w' ∧ AR M' v val := by
  have key : ∀ (vs : List AV) (ps : List Nat) (xs ys : List Box) (r : DV), argVs [] args = some (vs, ps) → boxesOut bs ps = some xs → O f vs xs = some (r, ys) → v = .d r → bs' = boxesIn bs ps ys → tau' = tau →
      Enters P f ∧ tau' = tau ∧ Calls P f vals.toArray w fun e w' => ∃ val M', e = .returned val ∧ SR M w M' w' ∧ WR M' bs' tau' w' ∧ AR M' v val := by
    rintro vs ps xs ys r h1 h2 h3 rfl rfl rfl
    obtain ⟨_, hn, h4⟩ := argVs_spec h1 List.nodup_nil
    obtain ⟨h5, h6⟩ := boxesOut_spec h2
    have hpl : ∀ x ∈ xs, x.plain := by
      intro x hx
      obtain ⟨i, hi⟩ := List.mem_iff_getElem?.1 hx
      obtain ⟨b, y, _, _, h⟩ := h6 i x hi
      exact boxOut_plain h
    obtain ⟨k1, k2, k3, k4⟩ := hO f vs xs r ys h3 hpl
    refine ⟨k1, rfl, (k4 _ w vals (hw.inner hn h2) (args_inner h4 ha)).mono ?_⟩
    rintro e w' ⟨val, M', rfl, q1, q2, q3⟩
    exact ⟨val, M.outer M' ps, rfl, SR.outer q1, hw.outer hn h2 q1 q2 k2 k3, q3⟩
  unfold evCall at hev
  split at hev
  · rename_i vs h1
    split at hev
    · rename_i r ys h3
      simp only [Option.some.injEq, Prod.mk.injEq] at hev
      obtain ⟨rfl, rfl, rfl⟩ := hev
      exact key vs [] [] ys r h1 rfl h3 rfl (by simp [boxesIn]) rfl
    · cases hev
  · rename_i vs ps h1 h2
    split at hev
    · cases hev
    · split at hev
      · rename_i xs hx
        split at hev
        · rename_i r ys h3
          simp only [Option.some.injEq, Prod.mk.injEq] at hev
          obtain ⟨rfl, rfl, rfl⟩ := hev
          exact key vs ps xs ys r h2 hx h3 rfl rfl rfl
        · cases hev
      · cases hev
  · cases hev
end

/- THE OPERATION -/
section
variable {P : Program} {o : Oper} {a : Act} {w : World} {M : Mem} {bs bs' : List Box} {tau tau' : List Nat} {e : Env} {O : Orc}

theorem evL_spec (he : EnvR M e a.tmps) : ∀ {xs : List Operand} {xs' : List Opd}, xs.mapM cOpd = some xs' → ARs M (evL e xs') (xs.map a.eval)
  | [], xs', h => by simp at h; subst h; rfl
  | x :: xs, xs', h => by
    simp only [List.mapM_cons, Option.bind_eq_bind, Option.pure_def] at h
    cases hx : cOpd x with
    | none => simp [hx] at h
    | some x' =>
      simp only [hx, Option.bind_some] at h
      cases hxs : xs.mapM cOpd with
      | none => simp [hxs] at h
      | some ys =>
        simp only [hxs, Option.bind_some, Option.some.injEq] at h
        subst h
        exact ⟨a.eval x, xs.map a.eval, rfl, opd_sound he hx, evL_spec he hxs⟩
theorem ARs.append {M : Mem} : ∀ {l k : List AV} {vs us : List Value}, ARs M l vs → ARs M k us → ARs M (l ++ k) (vs ++ us)
  | [], k, vs, us, h, hk => by simp only [ARs] at h; subst h; exact hk
  | x :: l, k, vs, us, h, hk => by
    obtain ⟨v, r, rfl, h1, h2⟩ := h
    exact ⟨v, r ++ us, rfl, h1, ARs.append h2 hk⟩
theorem capAVs_ARs {M : Mem} : ∀ {caps : List (Nat × Nat)} {vs : List Value}, CapsR M caps vs → ARs M (capAVs caps) vs
  | [], vs, h => h
  | (b, k) :: l, vs, h => by
    obtain ⟨g, r, rfl, h1, h2⟩ := h
    exact ⟨_, r, rfl, ⟨g, h1, rfl⟩, capAVs_ARs h2⟩

theorem run_enter {f : FuncId} {fn : Func} {b : Code} (h1 : P.funcs[f]? = some fn) (h2 : (fn.name == "runtime.NumGoroutine") = false) (h3 : fn.body = some b) (args : Array Value) (w : World) : (callFunc f args).run P w = .ok (.enter f args) w := by
  have h2' : ¬ fn.name = "runtime.NumGoroutine" := by simpa using h2
  simp [callFunc, program, Sem.run, h1, h2', h3]

/-- An operation, its guard aside. -/
theorem op_sound (hO : OrcOK P O) {own : List Nat} {pu : Bool} {r : Rhs} {v : AV} (hc : cOp P own pu o = some r) (he : EnvR M e a.tmps) (hw : WR M bs tau w) (hev : evR O e bs tau r = some (v, bs', tau'))
    {K : Act → World → Prop} {Q : Exit → Act → World → Prop} (hK : ∀ val w' M', SR M w M' w' → WR M' bs' tau' w' → AR M' v val → K (a.put o.dst val) w') : o.wp P a w K Q := by
  by_cases hcall : IsCall pu o r
  · have fin : ∀ (f : FuncId) (vals : List Value), (Enters P f → (execOp a.eval o).run P w = .ok (.enter f vals.toArray) w) →
        (Enters P f ∧ tau' = tau ∧ Calls P f vals.toArray w fun e w' => ∃ val M', e = .returned val ∧ SR M w M' w' ∧ WR M' bs' tau' w' ∧ AR M' v val) → o.wp P a w K Q := by
      rintro f vals h1 ⟨h2, _, h3⟩
      unfold Oper.wp
      rw [h1 h2]
      simp only [Oper.upon]
      refine h3.mono ?_
      rintro e w' ⟨val, M', rfl, q1, q2, q3⟩
      exact hK val w' M' q1 q2 q3
    rcases hcall with ⟨f, args, ts, l, hop, hl, rfl⟩ | ⟨t, args, ts, l, hop, hl, rfl⟩
    · simp only [evR] at hev
      refine fin f (args.toList.map a.eval) ?_ (evCall_sound hO hev hw (evL_spec he hl))
      rintro ⟨fn, e1, e2, e3⟩
      obtain ⟨body, e3⟩ := Option.isSome_iff_exists.1 e3
      have : (args.toList.map a.eval).toArray = args.map a.eval := Array.ext' (by simp)
      rw [this]
      simp only [execOp, hop, resolve, Act.eval, Deferred.ofValue, Sem.run_bind, Sem.run_pure, Result.andThen_ok, invoke, Array.append_empty, Array.empty_append]
      exact run_enter e1 e2 e3 _ _
    · simp only [evR] at hev
      split at hev
      · rename_i f caps hf
        have hax := he.2 t
        rw [show getE e t = .fn f caps from hf] at hax
        obtain ⟨cv, h1, h2⟩ := hax
        refine fin f (args.toList.map a.eval ++ cv.toList) ?_ (evCall_sound hO hev hw ((evL_spec he hl).append (capAVs_ARs h2)))
        rintro ⟨fn, e1, e2, e3⟩
        obtain ⟨body, e3⟩ := Option.isSome_iff_exists.1 e3
        have : (args.toList.map a.eval ++ cv.toList).toArray = args.map a.eval ++ cv := Array.ext' (by simp)
        rw [this]
        have hv : a.eval (.tmp t) = .func (.func f) #[] cv := h1
        simp only [execOp, hop, resolve, hv, Deferred.ofValue, Sem.run_bind, Sem.run_pure, Result.andThen_ok, invoke, Array.empty_append]
        exact run_enter e1 e2 e3 _ _
      · cases hev
  · obtain ⟨nx, w', M', val, h1, h2, h3, h4, h5⟩ := evR_ok hc he hw hcall hev
    unfold Oper.wp
    rw [h1]
    rcases h2 with rfl | ⟨rfl, rfl⟩
    · exact hK val w' M' h3 h4 h5
    · exact hK undef w' M' h3 h4 h5
end
end Go.Abs

/- Regions: in the text's order. -/
namespace Go.Abs
open Go

section
variable {P : Program} {O : Orc} {own : List Nat} {ops : Array Oper} {Q : Exit → Act → World → Prop}

/-- The frame of a run. -/
structure FR (M : Mem) (e : Env) (bs : List Box) (tau : List Nat) (a : Act) (w : World) : Prop where
  env : EnvR M e a.tmps
  wr : WR M bs tau w
  df : a.defers = []

theorem put_defers (a : Act) (d : Option Tmp) (v : Value) : (a.put d v).defers = a.defers := by cases d <;> rfl

/-- The guard is met just if the evaluator says so. -/
theorem guard_sound {M : Mem} {e : Env} {a : Act} {o : Oper} {g : Option (Nat × Bool)} (he : EnvR M e a.tmps) (hg : cGuard ops o.guard = some g) :
    (g = none ∧ Region.wanted o (yielded ops a.tmps) = true) ∨ (∃ d want, g = some (d, want) ∧ (∀ b, getE e d = .d (.bool b) → Region.wanted o (yielded ops a.tmps) = (b == want)) ∧ (getE e d = und → Region.wanted o (yielded ops a.tmps) = false)) := by
  unfold cGuard at hg
  unfold Region.wanted
  split at hg
  · rename_i h
    cases hg
    rw [h]
    exact .inl ⟨rfl, rfl⟩
  · rename_i j want h
    rw [h]
    split at hg
    · rename_i d hd
      cases hg
      refine .inr ⟨d, want, rfl, fun b hb => ?_, fun hb => ?_⟩
      rotate_left
      · have hx := he.2 d
        rw [hb] at hx
        obtain ⟨vs, hx, hvs⟩ : ∃ vs, a.tmps.getD d undef = .tuple vs ∧ DRt M.imm [] vs.toList := hx
        have hy : ∀ b, a.tmps[d]? ≠ some (.bool b) := by
          intro b hb'
          rw [Array.getD_eq_getD_getElem?, hb'] at hx
          simp at hx
        simp only [yielded, hd, Option.bind_some]
        rfl
      have hx := he.2 d
      rw [hb] at hx
      have hx : a.tmps.getD d undef = .bool b := hx
      have : a.tmps[d]? = some (.bool b) := by
        rw [Array.getD_eq_getD_getElem?] at hx
        cases h' : a.tmps[d]? with
        | none => rw [h'] at hx; simp [undef] at hx
        | some v => rw [h'] at hx; simp at hx; rw [hx]
      simp only [yielded, hd, Option.bind_some, this]
      simp
    · cases hg

theorem und_ok {M : Mem} : AR M und undef := ⟨#[], rfl, rfl⟩
/-- One operation. -/
theorem ins_sound (hO : OrcOK P O) {M : Mem} {e : Env} {bs bs' : List Box} {tau tau' : List Nat} {a : Act} {w : World} {o : Oper} {pu : Bool} {ins : Ins} {i : Nat} {v : AV} (hi : ops[i]? = some o) (hc : cIns P own ops pu o = some ins)
    (he : EnvR M e a.tmps) (hw : WR M bs tau w) (hev : evG O e bs tau ins.g ins.r = some (v, bs', tau'))
    {K : Act → World → Prop} (hK : ∀ val w' M', SR M w M' w' → WR M' bs' tau' w' → AR M' v val → K (a.put ins.dst val) w') : wpOp P ops Q i K a w := by
  unfold cIns at hc
  split at hc
  · rename_i g r hg hr
    cases hc
    simp only at hev hK
    unfold wpOp
    simp only [hi]
    rcases guard_sound he hg with ⟨rfl, h1⟩ | ⟨d, want, rfl, h1, h1u⟩
    · rw [if_pos h1]
      exact .inl (op_sound hO hr he hw hev hK)
    · simp only [evG] at hev
      split at hev
      · rename_i b hb
        rw [h1 b hb]
        split at hev
        · rename_i hbw
          rw [if_pos (by simpa using hbw)]
          exact .inl (op_sound hO hr he hw hev hK)
        · rename_i hbw
          rw [if_neg (by simpa using hbw)]
          simp only [Option.some.injEq, Prod.mk.injEq] at hev
          obtain ⟨rfl, rfl, rfl⟩ := hev
          exact hK undef w M (SR.refl M w) hw und_ok
      · rename_i hb
        rw [h1u hb, if_neg (by simp)]
        simp only [Option.some.injEq, Prod.mk.injEq] at hev
        obtain ⟨rfl, rfl, rfl⟩ := hev
        exact hK undef w M (SR.refl M w) hw und_ok
      · cases hev
  · cases hc

theorem cList_get : ∀ {k i : Nat} {rest : List Oper} {l : List Ins}, cList P own ops k i rest = some l → l.length = rest.length ∧ ∀ (j : Nat) (o : Oper), rest[j]? = some o → ∃ ins, l[j]? = some ins ∧ cIns P own ops (decide (i + j < k)) o = some ins
  | k, i, [], l, h => by simp [cList] at h; subst h; simp
  | k, i, o :: rest, l, h => by
    simp only [cList] at h
    split at h
    · rename_i x xs h1 h2
      cases h
      obtain ⟨h3, h4⟩ := cList_get h2
      refine ⟨by simp [h3], fun j o' hj => ?_⟩
      cases j with
      | zero => simp at hj; subst hj; exact ⟨x, rfl, h1⟩
      | succ j =>
        simp at hj
        obtain ⟨ins, h5, h6⟩ := h4 j o' hj
        exact ⟨ins, by simpa using h5, by rw [show i + (j + 1) = i + 1 + j from by omega]; exact h6⟩
    · cases h

/-- In the text's order. -/
theorem seq_sound (hO : OrcOK P O) {k : Nat} {l : List Ins} (hl : cList P own ops k 0 ops.toList = some l) : ∀ (n i : Nat) (M : Mem) (e e' : Env) (bs bs' : List Box) (tau tau' : List Nat) (a : Act) (w : World),
    i + n = ops.size → FR M e bs tau a w → evIs O (l.drop i) e bs tau = some (e', bs', tau') →
    (∀ M' a' w', SR M w M' w' → FR M' e' bs' tau' a' w' → Q .normal a' w') → wpOps P ops Q (List.range' i n) a w := by
  obtain ⟨hlen, hget⟩ := cList_get hl
  intro n
  induction n with
  | zero =>
    intro i M e e' bs bs' tau tau' a w hi hf hev hQ
    rw [List.drop_of_length_le (by rw [hlen]; simp; omega)] at hev
    simp only [evIs, Option.some.injEq, Prod.mk.injEq] at hev
    obtain ⟨rfl, rfl, rfl⟩ := hev
    exact hQ M a w (SR.refl M w) hf
  | succ n ih =>
    intro i M e e' bs bs' tau tau' a w hi hf hev hQ
    have hlt : i < ops.size := by omega
    have ho : ops[i]? = some ops[i] := Array.getElem?_eq_getElem hlt
    obtain ⟨ins, h1, h2⟩ := hget i ops[i] (by simp)
    have hd : l.drop i = ins :: l.drop (i + 1) := by
      obtain ⟨hil, he⟩ := List.getElem?_eq_some_iff.1 h1
      rw [List.drop_eq_getElem_cons hil, he]
    rw [hd] at hev
    simp only [evIs] at hev
    split at hev
    · rename_i v bs1 tau1 hv
      rw [List.range'_succ, wpOps_cons]
      refine ins_sound hO ho h2 hf.env hf.wr hv fun val w' M' hs hw' ha => ?_
      exact ih (i + 1) M' (putE e ins.dst v) e' bs1 bs' tau1 tau' (a.put ins.dst val) w' (by omega) ⟨(hf.env.mono hs.le).put ha ins.dst, hw', by rw [put_defers]; exact hf.df⟩ hev
        fun M'' a' w'' hs' hf' => hQ M'' a' w'' (hs.trans hs') hf'
    · cases hev

theorem region_seq (hO : OrcOK P O) {id : Nat} {l : List Ins} (hl : cRegion P own ops false = some l) {M : Mem} {e e' : Env} {bs bs' : List Box} {tau tau' : List Nat} {a : Act} {w : World} (hf : FR M e bs tau a w)
    (hev : evIs O l e bs tau = some (e', bs', tau')) (hQ : ∀ M' a' w', SR M w M' w' → FR M' e' bs' tau' a' w' → Q .normal a' w') : (Code.region id ops false).wp P Q a w := by
  simp only [cRegion, Bool.false_eq_true, if_false] at hl
  apply wp_region
  rw [List.range_eq_range']
  exact seq_sound hO hl ops.size 0 M e e' bs bs' tau tau' a w (by omega) hf hev hQ
end
end Go.Abs

/- Regions that draw their order: what the text's order gives, every order gives. The plain part. -/
namespace Go.Abs
open Go

/- WHAT 'before' SAYS -/
theorem bits_fold (acc : Array Nat) : ∀ (es : List Edge) (s j : Nat), (es.foldl (fun s e => if Region.binds .any e then s ||| 2 ^ e.on ||| acc.getD e.on 0 else s) s).testBit j = true →
    s.testBit j = true ∨ ∃ e ∈ es, Region.binds .any e = true ∧ (j = e.on ∨ (acc.getD e.on 0).testBit j = true)
  | [], s, j, h => .inl h
  | e :: es, s, j, h => by
    simp only [List.foldl_cons] at h
    rcases bits_fold acc es _ j h with h1 | ⟨e', h2, h3⟩
    · split at h1
      · rename_i hb
        simp only [Nat.testBit_or, Bool.or_eq_true, Nat.testBit_two_pow, decide_eq_true_eq] at h1
        rcases h1 with (h1 | h1) | h1
        · exact .inl h1
        · exact .inr ⟨e, by simp, hb, .inl h1.symm⟩
        · exact .inr ⟨e, by simp, hb, .inr h1⟩
      · exact .inl h1
    · exact .inr ⟨e', by simp [h2], h3⟩

theorem fold_push {α β : Type} (d : β) (f : Array β → α → β) : ∀ (l : List α) (acc : Array β),
    (l.foldl (fun acc o => acc.push (f acc o)) acc).size = acc.size + l.length ∧
    (∀ j, j < acc.size → (l.foldl (fun acc o => acc.push (f acc o)) acc).getD j d = acc.getD j d) ∧
    ∀ (i : Nat) o, l[i]? = some o → ∃ a, a.size = acc.size + i ∧ (∀ j, j < a.size → (l.foldl (fun acc o => acc.push (f acc o)) acc).getD j d = a.getD j d) ∧ (l.foldl (fun acc o => acc.push (f acc o)) acc).getD (acc.size + i) d = f a o
  | [], acc => ⟨by simp, fun _ _ => rfl, fun i o h => by simp at h⟩
  | x :: l, acc => by
    obtain ⟨h1, h2, h3⟩ := fold_push d f l (acc.push (f acc x))
    simp only [List.foldl_cons]
    have hold : ∀ j, j < acc.size → (l.foldl (fun acc o => acc.push (f acc o)) (acc.push (f acc x))).getD j d = acc.getD j d := by
      intro j hj
      rw [h2 j (by simp; omega)]
      simp only [Array.getD_eq_getD_getElem?, Array.getElem?_push]
      rw [if_neg (by omega)]
    refine ⟨by rw [h1]; simp; omega, hold, fun i o ho => ?_⟩
    cases i with
    | zero =>
      simp at ho
      subst ho
      refine ⟨acc, by simp, hold, ?_⟩
      rw [Nat.add_zero, h2 acc.size (by simp)]
      simp [Array.getD_eq_getD_getElem?]
    | succ i =>
      simp at ho
      obtain ⟨a, e1, e2, e3⟩ := h3 i o ho
      refine ⟨a, by rw [e1]; simp; omega, e2, ?_⟩
      rw [← e3]
      congr 1
      simp
      omega

variable {ops : Array Oper}
theorem before_spec (hok : edgesOk ops = true) {i : Nat} {o : Oper} (ho : ops[i]? = some o) {j : Nat} (hj : ((Region.before ops).getD i 0).testBit j = true) :
    ∃ e ∈ o.after, Region.binds .any e = true ∧ e.on < i ∧ (j = e.on ∨ ((Region.before ops).getD e.on 0).testBit j = true) := by
  have hed : ∀ e ∈ o.after, Region.binds .any e = true → e.on < i := by
    intro e he hb
    unfold edgesOk at hok
    rw [Array.all_eq_true_iff_forall_mem] at hok
    have hm : (o, i) ∈ ops.zipIdx := by
      rw [Array.mem_zipIdx_iff_getElem?]
      exact ho
    have := hok _ hm
    simp only at this
    rw [Array.all_eq_true_iff_forall_mem] at this
    have := this e he
    simp only [hb, Bool.not_true, Bool.false_or, decide_eq_true_eq] at this
    exact this
  unfold Region.before at hj ⊢
  rw [← Array.foldl_toList] at hj ⊢
  obtain ⟨_, _, h3⟩ := fold_push (α := Oper) 0 (fun acc o => o.after.foldl (fun s e => if Region.binds .any e then s ||| 2 ^ e.on ||| acc.getD e.on 0 else s) 0) ops.toList #[]
  obtain ⟨a, e1, e2, e3⟩ := h3 i o (by simpa using ho)
  simp only [List.size_toArray, List.length_nil, Nat.zero_add] at e1 e3
  rw [e3, ← Array.foldl_toList] at hj
  rcases bits_fold a o.after.toList 0 j hj with h | ⟨e, he, hb, h⟩
  · simp at h
  · have he' : e ∈ o.after := by simpa using he
    have hlt := hed e he' hb
    refine ⟨e, he', hb, hlt, h.imp id fun h => ?_⟩
    rw [e2 e.on (by omega)]
    exact h

/-- Closed under what must come before. -/
def Closed (ops : Array Oper) (L : Nat → Prop) : Prop := ∀ (i : Nat) o e, L i → ops[i]? = some o → e ∈ o.after → Region.binds .any e = true → L e.on
theorem before_closed (hok : edgesOk ops = true) {L : Nat → Prop} (hc : Closed ops L) : ∀ (i : Nat) o, ops[i]? = some o → (∀ e ∈ o.after, Region.binds .any e = true → L e.on) → ∀ j, ((Region.before ops).getD i 0).testBit j = true → L j := by
  intro i
  induction i using Nat.strongRecOn with
  | _ i ih =>
    intro o ho he j hj
    obtain ⟨e, h1, h2, h3, h4⟩ := before_spec hok ho hj
    rcases h4 with rfl | h4
    · exact he e h1 h2
    · have hi : i < ops.size := (Array.getElem?_eq_some_iff.1 ho).1
      have hoe : ops[e.on]? = some ops[e.on] := Array.getElem?_eq_getElem (by omega)
      exact ih e.on h3 ops[e.on] hoe (fun e' h5 h6 => hc e.on _ e' (he e h1 h2) hoe h5 h6) j h4

theorem full_spec {b : Array Nat} {j : Nat} (h : full b j = true) {i : Nat} (hi : i < j) : (b.getD j 0).testBit i = true := by
  unfold full at h
  have h' : b.getD j 0 % 2 ^ j = 2 ^ j - 1 := by simpa using h
  have := congrArg (fun x => x.testBit i) h'
  simp only [Nat.testBit_mod_two_pow, Nat.testBit_two_pow_sub_one, hi, decide_true, Bool.true_and] at this
  exact this
theorem splitK_spec (b : Array Nat) : ∀ n, splitK b n ≤ n ∧ ∀ j, splitK b n ≤ j → j < n → full b j = true
  | 0 => ⟨Nat.le_refl _, fun j _ h => by omega⟩
  | n + 1 => by
    obtain ⟨h1, h2⟩ := splitK_spec b n
    simp only [splitK]
    split
    · rename_i hf
      refine ⟨by omega, fun j hj hn => ?_⟩
      by_cases hjn : j = n
      · rw [hjn]; exact hf
      · exact h2 j hj (by omega)
    · exact ⟨Nat.le_refl _, fun j hj hn => by omega⟩

/- THE EVALUATOR LOOKS AT WHAT IT READS ALONE -/
section
variable {O : Orc} {e e' : Env} {bs bs1 bs2 : List Box} {tau tau1 tau2 : List Nat}
theorem Opd.ev_congr {x : Opd} (h : ∀ t ∈ x.reads, getE e t = getE e' t) : x.ev e = x.ev e' := by
  cases x with
  | t i => exact h i (by simp [Opd.reads])
  | d _ => rfl
  | fn _ => rfl
theorem evL_congr : ∀ {l : List Opd}, (∀ t ∈ l.flatMap Opd.reads, getE e t = getE e' t) → evL e l = evL e' l
  | [], _ => rfl
  | x :: l, h => by
    simp only [evL]
    rw [Opd.ev_congr (fun t ht => h t (by simp only [List.flatMap_cons, List.mem_append]; exact .inl ht)), evL_congr (fun t ht => h t (by simp only [List.flatMap_cons, List.mem_append]; exact .inr ht))]
theorem fillD_congr : ∀ {ps : List (Nat × Nat × Opd)} {cs : List DV}, (∀ t ∈ (ps.map (·.2.2)).flatMap Opd.reads, getE e t = getE e' t) → fillD e cs ps = fillD e' cs ps
  | [], _, _ => rfl
  | (off, n, x) :: ps, cs, h => by
    simp only [fillD]
    rw [Opd.ev_congr (x := x) (fun t ht => h t (by simp only [List.map_cons, List.flatMap_cons, List.mem_append]; exact .inl ht))]
    have : ∀ cs, fillD e cs ps = fillD e' cs ps := fun cs => fillD_congr (fun t ht => h t (by simp only [List.map_cons, List.flatMap_cons, List.mem_append]; exact .inr ht))
    simp only [this]
theorem fillE_congr {sz : Nat} : ∀ {ps : List (Nat × Opd)} {cs : List DV}, (∀ t ∈ (ps.map (·.2)).flatMap Opd.reads, getE e t = getE e' t) → fillE e sz cs ps = fillE e' sz cs ps
  | [], _, _ => rfl
  | (i, x) :: ps, cs, h => by
    simp only [fillE]
    rw [Opd.ev_congr (x := x) (fun t ht => h t (by simp only [List.map_cons, List.flatMap_cons, List.mem_append]; exact .inl ht))]
    have : ∀ cs, fillE e sz cs ps = fillE e' sz cs ps := fun cs => fillE_congr (fun t ht => h t (by simp only [List.map_cons, List.flatMap_cons, List.mem_append]; exact .inr ht))
    simp only [this]
theorem bound_congr {d : Nat} {x : Option Opd} (h : ∀ t ∈ (x.toList).flatMap Opd.reads, getE e t = getE e' t) : bound e d x = bound e' d x := by
  cases x with
  | none => rfl
  | some x => simp only [bound]; rw [Opd.ev_congr (fun t ht => h t (by simpa using ht))]

theorem evR_congr {r : Rhs} (h : ∀ t ∈ r.reads, getE e t = getE e' t) : evR O e bs tau r = evR O e' bs tau r := by
  unfold Rhs.reads at h
  have h1 : ∀ x ∈ r.opds, x.ev e = x.ev e' := fun x hx => Opd.ev_congr fun t ht => h t (List.mem_flatMap.2 ⟨x, hx, ht⟩)
  cases r <;> simp only [Rhs.opds, List.mem_cons, List.mem_nil_iff, or_false, forall_eq_or_imp, forall_eq] at h1 h <;> simp only [evR]
  case build z ps => rw [fillD_congr h]
  case mks own sz n z ps => rw [fillE_congr h]
  case sls x lo hi =>
    rw [h1.1, bound_congr (x := lo) fun t ht => h t (by simp only [List.flatMap_cons, List.flatMap_append, List.mem_append]; exact .inr (.inl ht))]
    have : ∀ n, bound e n hi = bound e' n hi := fun n => bound_congr fun t ht => h t (by simp only [List.flatMap_cons, List.flatMap_append, List.mem_append]; exact .inr (.inr ht))
    simp only [this]
  case slc sz x lo hi =>
    rw [h1.1, bound_congr (x := lo) fun t ht => h t (by simp only [List.flatMap_cons, List.flatMap_append, List.mem_append]; exact .inr (.inl ht))]
    have : ∀ n, bound e n hi = bound e' n hi := fun n => bound_congr fun t ht => h t (by simp only [List.flatMap_cons, List.flatMap_append, List.mem_append]; exact .inr (.inr ht))
    simp only [this]
  case call pu f l => rw [evL_congr h]
  case callv pu x l =>
    rw [h1.1, evL_congr fun t ht => h t (by simp only [List.flatMap_cons, List.mem_append]; exact .inr ht)]
  case mkf f l => rw [evL_congr h]
  all_goals first | rfl | simp only [h1]
theorem evG_congr {g : Option (Nat × Bool)} {r : Rhs} (h : ∀ t ∈ (Ins.mk none g r).reads, getE e t = getE e' t) : evG O e bs tau g r = evG O e' bs tau g r := by
  unfold Ins.reads at h
  have hr : evR O e bs tau r = evR O e' bs tau r := evR_congr fun t ht => h t (List.mem_append.2 (.inl ht))
  cases g with
  | none => exact hr
  | some p =>
    obtain ⟨j, want⟩ := p
    simp only [evG]
    rw [h j (by simp), hr]

/-- In the first part of a drawn region: the boxes and the tokens beside do not matter. -/
theorem evR_shift {r : Rhs} {v : AV} (hf : r.free = true) (hev : evR O e bs tau r = some (v, bs1, tau1)) (ha : r.isA = true → bs2 = bs) (ht : r.isT = true → tau2 = tau)
    (hb : ∀ x ∈ r.opds, ∀ b o y, x.ev e = .bp b o → bs[b]? = some y → bs2[b]? = some y) :
    evR O e bs2 tau2 r = some (v, if r.isA then bs1 else bs2, if r.isT then tau1 else tau2) ∧ (r.isA = false → bs1 = bs) ∧ (r.isT = false → tau1 = tau) := by
  cases r
  case st => cases hf
  case call pu f l =>
    simp only [Rhs.free] at hf
    subst hf
    simp only [evR, evCall] at hev ⊢
    split at hev
    · rename_i vs h1
      split at hev
      · rename_i r ys h2
        simp only [Option.some.injEq, Prod.mk.injEq] at hev
        obtain ⟨rfl, rfl, rfl⟩ := hev
        simp [Rhs.isA, Rhs.isT]
      · cases hev
    · simp at hev
    · cases hev
  case callv pu x l =>
    simp only [Rhs.free] at hf
    subst hf
    simp only [evR, evCall] at hev ⊢
    split at hev
    · split at hev
      · rename_i vs h1
        split at hev
        · rename_i r ys h2
          simp only [Option.some.injEq, Prod.mk.injEq] at hev
          obtain ⟨rfl, rfl, rfl⟩ := hev
          simp [Rhs.isA, Rhs.isT]
        · cases hev
      · simp at hev
      · cases hev
    · cases hev
  case ld g n x =>
    simp only [evR, optAV] at hev ⊢
    split at hev
    · rename_i u hu
      simp only [Option.some.injEq, Prod.mk.injEq] at hev
      obtain ⟨rfl, rfl, rfl⟩ := hev
      have : evLd g n bs2 (x.ev e) = some u := by
        unfold evLd at hu ⊢
        split at hu
        · exact hu
        · rename_i b o hxe
          split at hu
          · rename_i cs hcs
            rw [hb x (by simp [Rhs.opds]) b o _ hxe hcs]
            exact hu
          · cases hu
        · cases hu
      simp [this, Rhs.isA, Rhs.isT]
    · cases hev
  case alloc zs =>
    obtain rfl := ha rfl
    simp only [evR, Option.some.injEq, Prod.mk.injEq] at hev ⊢
    obtain ⟨rfl, rfl, rfl⟩ := hev
    simp [Rhs.isA, Rhs.isT]
  case allocB =>
    obtain rfl := ha rfl
    simp only [evR, Option.some.injEq, Prod.mk.injEq] at hev ⊢
    obtain ⟨rfl, rfl, rfl⟩ := hev
    simp [Rhs.isA, Rhs.isT]
  case box n x =>
    obtain rfl := ha rfl
    simp only [evR] at hev ⊢
    split at hev
    · rename_i cs hcs
      simp only [Option.some.injEq, Prod.mk.injEq] at hev
      obtain ⟨rfl, rfl, rfl⟩ := hev
      simp [Rhs.isA, Rhs.isT]
    · cases hev
  case app t sz x y =>
    obtain rfl := ht rfl
    simp only [evR] at hev ⊢
    split at hev
    · rename_i ys hys
      split at hev
      · rename_i u tau' hu
        simp only [Option.some.injEq, Prod.mk.injEq] at hev
        obtain ⟨rfl, rfl, rfl⟩ := hev
        simp [Rhs.isA, Rhs.isT]
      · cases hev
    · cases hev
  case mks own sz n z ps =>
    cases own with
    | none =>
      simp only [evR] at hev ⊢
      split at hev
      · rename_i es hes
        simp only [Option.some.injEq, Prod.mk.injEq] at hev
        obtain ⟨rfl, rfl, rfl⟩ := hev
        simp [Rhs.isA, Rhs.isT]
      · cases hev
    | some t =>
      obtain rfl := ht rfl
      simp only [evR] at hev ⊢
      split at hev
      · rename_i es hes
        simp only [Option.some.injEq, Prod.mk.injEq] at hev
        obtain ⟨rfl, rfl, rfl⟩ := hev
        simp [Rhs.isA, Rhs.isT]
      · cases hev
  all_goals
    simp only [evR, optDV] at hev ⊢
    (repeat' split at hev) <;> first
      | cases hev; done
      | (simp only [Option.some.injEq, Prod.mk.injEq] at hev
         obtain ⟨rfl, rfl, rfl⟩ := hev
         simp_all [Rhs.isA, Rhs.isT])
theorem evG_shift {g : Option (Nat × Bool)} {r : Rhs} {v : AV} (hf : r.free = true) (hev : evG O e bs tau g r = some (v, bs1, tau1)) (ha : r.isA = true → bs2 = bs) (ht : r.isT = true → tau2 = tau)
    (hb : ∀ x ∈ r.opds, ∀ b o y, x.ev e = .bp b o → bs[b]? = some y → bs2[b]? = some y) :
    evG O e bs2 tau2 g r = some (v, if r.isA then bs1 else bs2, if r.isT then tau1 else tau2) ∧ (r.isA = false → bs1 = bs) ∧ (r.isT = false → tau1 = tau) := by
  cases g with
  | none => exact evR_shift hf hev ha ht hb
  | some p =>
    obtain ⟨j, want⟩ := p
    simp only [evG] at hev ⊢
    split at hev
    · split at hev
      · rename_i h1
        rw [if_pos h1]
        exact evR_shift hf hev ha ht hb
      · rename_i h1
        rw [if_neg h1]
        simp only [Option.some.injEq, Prod.mk.injEq] at hev
        obtain ⟨rfl, rfl, rfl⟩ := hev
        refine ⟨?_, fun _ => rfl, fun _ => rfl⟩
        cases h2 : r.isA <;> cases h3 : r.isT
        · simp
        · simp [ht h3]
        · simp [ha h2]
        · simp [ha h2, ht h3]
    · simp only [Option.some.injEq, Prod.mk.injEq] at hev
      obtain ⟨rfl, rfl, rfl⟩ := hev
      refine ⟨?_, fun _ => rfl, fun _ => rfl⟩
      cases h2 : r.isA <;> cases h3 : r.isT
      · simp
      · simp [ht h3]
      · simp [ha h2]
      · simp [ha h2, ht h3]
    · cases hev
/-- The boxes grow alone. -/
theorem evR_ext {r : Rhs} {v : AV} (hf : r.free = true) (hev : evR O e bs tau r = some (v, bs1, tau1)) : ∃ x, bs1 = bs ++ x := by
  cases ha : r.isA with
  | false => exact ⟨[], by rw [(evR_shift (bs2 := bs) (tau2 := tau) hf hev (fun _ => rfl) (fun _ => rfl) (fun _ _ _ _ _ _ h => h)).2.1 ha]; simp⟩
  | true =>
    cases r <;> simp [Rhs.isA] at ha
    · simp only [evR, Option.some.injEq, Prod.mk.injEq] at hev; exact ⟨_, hev.2.1.symm⟩
    · simp only [evR, Option.some.injEq, Prod.mk.injEq] at hev; exact ⟨_, hev.2.1.symm⟩
    · simp only [evR] at hev
      split at hev
      · simp only [Option.some.injEq, Prod.mk.injEq] at hev; exact ⟨_, hev.2.1.symm⟩
      · cases hev
theorem evG_ext {g : Option (Nat × Bool)} {r : Rhs} {v : AV} (hf : r.free = true) (hev : evG O e bs tau g r = some (v, bs1, tau1)) : ∃ x, bs1 = bs ++ x := by
  cases g with
  | none => exact evR_ext hf hev
  | some p =>
    obtain ⟨j, want⟩ := p
    simp only [evG] at hev
    split at hev
    · split at hev
      · exact evR_ext hf hev
      · simp only [Option.some.injEq, Prod.mk.injEq] at hev; exact ⟨[], by rw [← hev.2.1]; simp⟩
    · simp only [Option.some.injEq, Prod.mk.injEq] at hev; exact ⟨[], by rw [← hev.2.1]; simp⟩
    · cases hev
end
end Go.Abs

/- Regions that draw their order: every order. -/
namespace Go.Abs
open Go

theorem evIs_append {O : Orc} : ∀ (l1 l2 : List Ins) (e : Env) (bs : List Box) (tau : List Nat), evIs O (l1 ++ l2) e bs tau = (evIs O l1 e bs tau).bind fun s => evIs O l2 s.1 s.2.1 s.2.2
  | [], l2, e, bs, tau => rfl
  | i :: l1, l2, e, bs, tau => by
    simp only [List.cons_append, evIs]
    split
    · rename_i v bs' tau' h
      exact evIs_append l1 l2 _ _ _
    · rfl

section
variable {O : Orc} {l : List Ins} {e0 : Env} {bs0 : List Box} {tau0 : List Nat}

/-- The state behind the first i instructions. -/
def stAt (O : Orc) (l : List Ins) (e0 : Env) (bs0 : List Box) (tau0 : List Nat) (i : Nat) : St := (evIs O (l.take i) e0 bs0 tau0).getD ([], [], [])
def valAt (O : Orc) (l : List Ins) (e0 : Env) (bs0 : List Box) (tau0 : List Nat) (i : Nat) : AV :=
  match l[i]? with
  | some x =>
    match evG O (stAt O l e0 bs0 tau0 i).1 (stAt O l e0 bs0 tau0 i).2.1 (stAt O l e0 bs0 tau0 i).2.2 x.g x.r with
    | some (v, _, _) => v
    | none => .junk
  | none => .junk

theorem stAt_some {s : St} (h : evIs O l e0 bs0 tau0 = some s) (i : Nat) : evIs O (l.take i) e0 bs0 tau0 = some (stAt O l e0 bs0 tau0 i) := by
  unfold stAt
  cases h' : evIs O (l.take i) e0 bs0 tau0 with
  | some t => rfl
  | none =>
    rw [← List.take_append_drop i l, evIs_append, h'] at h
    cases h
theorem stAt_zero : stAt O l e0 bs0 tau0 0 = (e0, bs0, tau0) := by simp [stAt, evIs]
theorem stAt_all {s : St} (h : evIs O l e0 bs0 tau0 = some s) : stAt O l e0 bs0 tau0 l.length = s := by simp [stAt, h]
theorem stAt_step {s : St} (h : evIs O l e0 bs0 tau0 = some s) {i : Nat} {x : Ins} (hx : l[i]? = some x) :
    evG O (stAt O l e0 bs0 tau0 i).1 (stAt O l e0 bs0 tau0 i).2.1 (stAt O l e0 bs0 tau0 i).2.2 x.g x.r = some (valAt O l e0 bs0 tau0 i, (stAt O l e0 bs0 tau0 (i + 1)).2.1, (stAt O l e0 bs0 tau0 (i + 1)).2.2) ∧
    (stAt O l e0 bs0 tau0 (i + 1)).1 = putE (stAt O l e0 bs0 tau0 i).1 x.dst (valAt O l e0 bs0 tau0 i) := by
  have h1 := stAt_some h (i + 1)
  have h0 := stAt_some h i
  rw [List.take_add_one, hx, Option.toList_some, evIs_append, h0] at h1
  simp only [Option.bind_some, evIs] at h1
  split at h1
  · rename_i v bs' tau' hv
    simp only [Option.some.injEq] at h1
    rw [← h1]
    simp only [valAt, hx, hv]
    exact ⟨trivial, trivial⟩
  · cases h1

/-- The frame when the instructions in L have been carried out. -/
def envL (l : List Ins) (V : Nat → AV) (e0 : Env) (L : Nat → Bool) : Nat → Env
  | 0 => e0
  | m + 1 => if L m then putE (envL l V e0 L m) ((l[m]?).bind (·.dst)) (V m) else envL l V e0 L m

theorem length_putE (e : Env) (d : Option Nat) (v : AV) : (putE e d v).length = e.length := by cases d <;> simp [putE, length_setE]
theorem envL_length (V : Nat → AV) (L : Nat → Bool) : ∀ m, (envL l V e0 L m).length = e0.length
  | 0 => rfl
  | m + 1 => by simp only [envL]; split <;> simp [length_putE, envL_length V L m]

theorem envL_none {V : Nat → AV} {L : Nat → Bool} {t : Nat} : ∀ m, (∀ j, j < m → L j = true → (l[j]?).bind (·.dst) ≠ some t) → getE (envL l V e0 L m) t = getE e0 t
  | 0, _ => rfl
  | m + 1, h => by
    simp only [envL]
    split
    · rename_i hL
      have := h m (by omega) hL
      cases hd : (l[m]?).bind (·.dst) with
      | none => exact envL_none m (fun j hj => h j (by omega))
      | some d =>
        rw [hd] at this
        simp only [putE]
        rw [getE_setE, if_neg (fun hc => this (by rw [hc.1]))]
        exact envL_none m (fun j hj => h j (by omega))
    · exact envL_none m (fun j hj => h j (by omega))
theorem envL_some {V : Nat → AV} {L : Nat → Bool} {t i : Nat} (hi : (l[i]?).bind (·.dst) = some t) (hL : L i = true) : ∀ m, i < m → (∀ j, j < m → j ≠ i → (l[j]?).bind (·.dst) ≠ some t) →
    getE (envL l V e0 L m) t = if t < e0.length then V i else getE e0 t
  | 0, h, _ => by omega
  | m + 1, h, hu => by
    simp only [envL]
    by_cases him : i = m
    · subst him
      rw [if_pos hL, hi]
      simp only [putE]
      rw [getE_setE, envL_length]
      by_cases ht : t < e0.length
      · simp [ht]
      · simp only [ht, and_false, if_false]
        exact envL_none i (fun j hj _ => hu j (by omega) (by omega))
    · have ih : getE (envL l V e0 L m) t = if t < e0.length then V i else getE e0 t := envL_some hi hL m (by omega) (fun j hj => hu j (by omega))
      split
      · have := hu m (by omega) (fun e => him e.symm)
        cases hd : (l[m]?).bind (·.dst) with
        | none => exact ih
        | some d =>
          rw [hd] at this
          simp only [putE]
          rw [getE_setE, if_neg (fun hc => this (by rw [hc.1]))]
          exact ih
      · exact ih

theorem stAt_env {s : St} (h : evIs O l e0 bs0 tau0 = some s) : ∀ i, i ≤ l.length → (stAt O l e0 bs0 tau0 i).1 = envL l (valAt O l e0 bs0 tau0) e0 (fun _ => true) i
  | 0, _ => by rw [stAt_zero]; rfl
  | i + 1, hi => by
    have hx : l[i]? = some l[i] := List.getElem?_eq_getElem (by omega)
    rw [(stAt_step h hx).2, stAt_env h i (by omega)]
    simp [envL, hx]
end

section
variable {P : Program} {O : Orc} {own : List Nat} {ops : Array Oper} {Q : Exit → Act → World → Prop} {l : List Ins} {e0 : Env} {bs0 : List Box} {tau0 : List Nat}

/-- What is asked of a drawn region, in words of its own. -/
structure DrawOK (ops : Array Oper) (l : List Ins) (k : Nat) : Prop where
  edges : edgesOk ops = true
  kn : k ≤ ops.size
  ln : l.length = ops.size
  full : ∀ j, k ≤ j → j < ops.size → ∀ i, i < j → ((Region.before ops).getD j 0).testBit i = true
  free : ∀ i x, i < k → l[i]? = some x → x.r.free = true
  uniq : ∀ i j x y d, i < k → j < k → l[i]? = some x → l[j]? = some y → x.dst = some d → y.dst = some d → i = j
  read : ∀ i j x y d, i < k → j < k → l[i]? = some x → l[j]? = some y → y.dst = some d → d ∈ x.reads → j < i ∧ ((Region.before ops).getD i 0).testBit j = true
  chA : ∀ i j x y, i < k → j < i → l[i]? = some x → l[j]? = some y → x.r.isA = true → y.r.isA = true → ((Region.before ops).getD i 0).testBit j = true
  chT : ∀ i j x y, i < k → j < i → l[i]? = some x → l[j]? = some y → x.r.isT = true → y.r.isT = true → ((Region.before ops).getD i 0).testBit j = true

theorem DrawOK.get {k : Nat} (hd : DrawOK ops l k) {i : Nat} (hi : i < k) : ∃ x, l[i]? = some x := ⟨_, List.getElem?_eq_getElem (show i < l.length by have := hd.ln; have := hd.kn; omega)⟩
theorem drawOk_spec (h : drawOk ops l = true) (hl : l.length = ops.size) : DrawOK ops l (splitK (Region.before ops) ops.size) := by
  unfold drawOk at h
  simp only [Bool.and_eq_true] at h
  obtain ⟨⟨⟨h1, h2⟩, h3⟩, h4⟩ := h
  obtain ⟨k1, k2⟩ := splitK_spec (Region.before ops) ops.size
  generalize splitK (Region.before ops) ops.size = k at *
  have hss : ∀ i j x y, i < k → j < k → l[i]? = some x → l[j]? = some y → x.r.free = true ∧ ∀ d, y.dst = some d → (i = j ∨ x.dst ≠ some d) ∧ (d ∈ x.reads → j < i ∧ ((Region.before ops).getD i 0).testBit j = true) := by
    intro i j x y hi hj hx hy
    unfold ssaOk at h2
    rw [List.all_eq_true] at h2
    have := h2 i (List.mem_range.2 hi)
    simp only [hx, Bool.and_eq_true, List.all_eq_true] at this
    refine ⟨this.1, fun d hd => ?_⟩
    have := this.2 j (List.mem_range.2 hj)
    simp only [hy, hd, Bool.and_eq_true, Bool.or_eq_true, beq_iff_eq, bne_iff_ne, Bool.not_eq_true', decide_eq_true_eq] at this
    refine ⟨this.1, fun hm => ?_⟩
    rcases this.2 with h | h
    · have : x.reads.contains d = true := by simpa using hm
      rw [this] at h
      cases h
    · exact h
  have hch : ∀ (p : Rhs → Bool), chainOk (Region.before ops) l k p = true → ∀ i j x y, i < k → j < i → l[i]? = some x → l[j]? = some y → p x.r = true → p y.r = true → ((Region.before ops).getD i 0).testBit j = true := by
    intro p hp i j x y hi hj hx hy px py
    unfold chainOk at hp
    rw [List.all_eq_true] at hp
    have := hp i (List.mem_range.2 hi)
    rw [List.all_eq_true] at this
    have := this j (List.mem_range.2 hj)
    simp only [hx, hy, px, py, Bool.and_self, Bool.not_true, Bool.false_or] at this
    exact this
  exact {
    edges := h1
    kn := k1
    ln := hl
    full := fun j hkj hj i hi => full_spec (k2 j hkj hj) hi
    free := fun i x hi hx => (hss i i x x hi hi hx hx).1
    uniq := fun i j x y d hi hj hx hy hdx hdy => by
      rcases ((hss i j x y hi hj hx hy).2 d hdy).1 with h | h
      · exact h
      · exact absurd hdx h
    read := fun i j x y d hi hj hx hy hdy hm => ((hss i j x y hi hj hx hy).2 d hdy).2 hm
    chA := hch _ h3
    chT := hch _ h4 }

def L (listed : Array Bool) (i : Nat) : Bool := listed.getD i false

/-- Between: the instructions listed, of the first part alone, have been carried out. -/
structure Inv1 (O : Orc) (ops : Array Oper) (l : List Ins) (k : Nat) (e0 : Env) (bs0 : List Box) (tau0 : List Nat) (M0 : Mem) (w0 : World) (listed : Array Bool) (a : Act) (w : World) : Prop where
  size : listed.size = ops.size
  closed : Closed ops (fun i => L listed i = true)
  late : ∀ j, k ≤ j → L listed j = false
  df : a.defers = []
  mem : ∃ M q qt, SR M0 w0 M w ∧ EnvR M (envL l (valAt O l e0 bs0 tau0) e0 (L listed) k) a.tmps ∧ WR M (stAt O l e0 bs0 tau0 q).2.1 (stAt O l e0 bs0 tau0 qt).2.2 w ∧ q ≤ k ∧ qt ≤ k ∧
    (∀ i x, i < k → l[i]? = some x → x.r.isA = true → (L listed i = true ↔ i < q)) ∧ (∀ i x, i < k → l[i]? = some x → x.r.isT = true → (L listed i = true ↔ i < qt))
/-- The first j instructions have been carried out, in order. -/
structure Inv2 (O : Orc) (ops : Array Oper) (l : List Ins) (k : Nat) (e0 : Env) (bs0 : List Box) (tau0 : List Nat) (M0 : Mem) (w0 : World) (j : Nat) (listed : Array Bool) (a : Act) (w : World) : Prop where
  size : listed.size = ops.size
  kj : k ≤ j
  jn : j ≤ ops.size
  lst : ∀ i, i < ops.size → (L listed i = true ↔ i < j)
  mem : ∃ M, SR M0 w0 M w ∧ FR M (stAt O l e0 bs0 tau0 j).1 (stAt O l e0 bs0 tau0 j).2.1 (stAt O l e0 bs0 tau0 j).2.2 a w

variable {k : Nat} {M0 : Mem} {w0 : World} {s : St}

/-- Nothing between q and i turns what p says. -/
theorem same_boxes (hd : DrawOK ops l k) (h : evIs O l e0 bs0 tau0 = some s) {q : Nat} : ∀ i, q ≤ i → i ≤ k → (∀ j x, q ≤ j → j < i → l[j]? = some x → x.r.isA = false) → (stAt O l e0 bs0 tau0 i).2.1 = (stAt O l e0 bs0 tau0 q).2.1 := by
  intro i
  induction i with
  | zero => intro hq _ _; rw [show q = 0 from by omega]
  | succ i ih =>
    intro hq hik hno
    by_cases hqi : q = i + 1
    · rw [hqi]
    · obtain ⟨x, hx⟩ := hd.get (i := i) (by omega)
      rw [(evG_shift (bs2 := _) (tau2 := _) (hd.free i _ (by omega) hx) (stAt_step h hx).1 (fun _ => rfl) (fun _ => rfl) (fun _ _ _ _ _ _ h => h)).2.1 (hno i _ (by omega) (by omega) hx)]
      exact ih (by omega) (by omega) (fun j x h1 h2 => hno j x h1 (by omega))
theorem same_toks (hd : DrawOK ops l k) (h : evIs O l e0 bs0 tau0 = some s) {q : Nat} : ∀ i, q ≤ i → i ≤ k → (∀ j x, q ≤ j → j < i → l[j]? = some x → x.r.isT = false) → (stAt O l e0 bs0 tau0 i).2.2 = (stAt O l e0 bs0 tau0 q).2.2 := by
  intro i
  induction i with
  | zero => intro hq _ _; rw [show q = 0 from by omega]
  | succ i ih =>
    intro hq hik hno
    by_cases hqi : q = i + 1
    · rw [hqi]
    · obtain ⟨x, hx⟩ := hd.get (i := i) (by omega)
      rw [(evG_shift (bs2 := _) (tau2 := _) (hd.free i _ (by omega) hx) (stAt_step h hx).1 (fun _ => rfl) (fun _ => rfl) (fun _ _ _ _ _ _ h => h)).2.2 (hno i _ (by omega) (by omega) hx)]
      exact ih (by omega) (by omega) (fun j x h1 h2 => hno j x h1 (by omega))
theorem boxes_ext (hd : DrawOK ops l k) (h : evIs O l e0 bs0 tau0 = some s) {q : Nat} : ∀ i, q ≤ i → i ≤ k → ∃ x, (stAt O l e0 bs0 tau0 i).2.1 = (stAt O l e0 bs0 tau0 q).2.1 ++ x := by
  intro i
  induction i with
  | zero => intro hq _; exact ⟨[], by rw [show q = 0 from by omega]; simp⟩
  | succ i ih =>
    intro hq hik
    by_cases hqi : q = i + 1
    · exact ⟨[], by rw [hqi]; simp⟩
    · obtain ⟨x, hx⟩ := hd.get (i := i) (by omega)
      obtain ⟨y, hy⟩ := ih (by omega) (by omega)
      obtain ⟨z, hz⟩ := evG_ext (hd.free i _ (by omega) hx) (stAt_step h hx).1
      exact ⟨y ++ z, by rw [hz, hy, List.append_assoc]⟩

theorem L_set (listed : Array Bool) (i : Nat) (hi : i < listed.size) (j : Nat) : L (listed.setIfInBounds i true) j = if j = i then true else L listed j := by
  unfold L
  simp only [Array.getD_eq_getD_getElem?, Array.getElem?_setIfInBounds]
  by_cases h : i = j
  · subst h; simp [hi]
  · rw [if_neg h, if_neg (fun e => h e.symm)]
theorem L_ready {listed : Array Bool} {i : Nat} (hs : listed.size = ops.size) (h : i ∈ Region.ready .any ops listed) :
    i < ops.size ∧ L listed i = false ∧ ∀ o, ops[i]? = some o → ∀ e ∈ o.after, Region.binds .any e = true → L listed e.on = true := by
  rw [mem_ready] at h
  obtain ⟨h1, o, ho, h2⟩ := h
  have hi := (Array.getElem?_eq_some_iff.1 ho).1
  refine ⟨hi, ?_, fun o' ho' => ?_⟩
  · unfold L
    rw [Array.getD_eq_getD_getElem?, Array.getElem?_eq_getElem (by omega)] at h1 ⊢
    exact h1
  · rw [ho] at ho'
    cases ho'
    exact h2
theorem ready_nil {listed : Array Bool} (hs : listed.size = ops.size) (hok : edgesOk ops = true) (h : Region.ready .any ops listed = []) : ∀ i, i < ops.size → L listed i = true := by
  intro i
  induction i using Nat.strongRecOn with
  | _ i ih =>
    intro hi
    cases hL : L listed i with
    | true => rfl
    | false =>
      exfalso
      have ho : ops[i]? = some ops[i] := Array.getElem?_eq_getElem hi
      have hm : i ∈ Region.ready .any ops listed := by
        rw [mem_ready]
        refine ⟨?_, _, ho, fun e he hb => ?_⟩
        · unfold L at hL
          rw [Array.getD_eq_getD_getElem?, Array.getElem?_eq_getElem (by omega)] at hL ⊢
          exact hL
        · have hlt : e.on < i := by
            unfold edgesOk at hok
            rw [Array.all_eq_true_iff_forall_mem] at hok
            have := hok (ops[i], i) (by rw [Array.mem_zipIdx_iff_getElem?]; exact ho)
            simp only at this
            rw [Array.all_eq_true_iff_forall_mem] at this
            have := this e he
            simpa [hb] using this
          exact ih e.on hlt (by omega)
      rw [h] at hm
      cases hm

/-- One instruction of the first part. -/
theorem inv1_step (hO : OrcOK P O) (hl : cList P own ops k 0 ops.toList = some l) (hd : DrawOK ops l k) (h : evIs O l e0 bs0 tau0 = some s) {listed : Array Bool} {a : Act} {w : World} (hi1 : Inv1 O ops l k e0 bs0 tau0 M0 w0 listed a w)
    {i : Nat} (hr : i ∈ Region.ready .any ops listed) (hik : i < k) {K : Act → World → Prop} (hK : ∀ a' w', Inv1 O ops l k e0 bs0 tau0 M0 w0 (listed.setIfInBounds i true) a' w' → K a' w') : wpOp P ops Q i K a w := by
  obtain ⟨hin, hun, hedge⟩ := L_ready hi1.size hr
  obtain ⟨M, q, qt, hs, henv, hwr, hq, hqt, hA, hT⟩ := hi1.mem
  have ho : ops[i]? = some ops[i] := Array.getElem?_eq_getElem hin
  obtain ⟨hlen, hget⟩ := cList_get hl
  obtain ⟨x, hx, hcx⟩ := hget i ops[i] (by simp)
  simp only [Nat.zero_add, hik, decide_true] at hcx
  have hbef : ∀ j, ((Region.before ops).getD i 0).testBit j = true → L listed j = true := before_closed hd.edges hi1.closed i ops[i] ho (hedge _ ho)
  have hstep := stAt_step h hx
  -- the operands are those of the text's order
  have hreads : ∀ t ∈ x.reads, getE (envL l (valAt O l e0 bs0 tau0) e0 (L listed) k) t = getE (stAt O l e0 bs0 tau0 i).1 t := by
    intro t ht
    rw [stAt_env h i (by rw [hlen]; simp; omega)]
    by_cases hex : ∃ j, j < k ∧ (l[j]?).bind (·.dst) = some t
    · obtain ⟨j, hjk, hj⟩ := hex
      obtain ⟨y, hy⟩ := hd.get hjk
      have hyd : y.dst = some t := by simpa [hy] using hj
      obtain ⟨hji, hb⟩ := hd.read i j x y t hik hjk hx hy hyd ht
      have hun' : ∀ m, m < k → m ≠ j → (l[m]?).bind (·.dst) ≠ some t := by
        intro m hm hne he
        obtain ⟨z, hz⟩ := hd.get hm
        exact hne (hd.uniq m j z y t hm hjk hz hy (by simpa [hz] using he) hyd)
      rw [envL_some hj (hbef j hb) k hjk hun', envL_some hj rfl i hji (fun m hm => hun' m (by omega))]
    · have hno : ∀ j, j < k → (l[j]?).bind (·.dst) ≠ some t := fun j hj e => hex ⟨j, hj, e⟩
      rw [envL_none k (fun j hj _ => hno j hj), envL_none i (fun j hj _ => hno j (by omega))]
  -- the boxes, the tokens
  have hbox : x.r.isA = true → (stAt O l e0 bs0 tau0 q).2.1 = (stAt O l e0 bs0 tau0 i).2.1 := by
    intro hxa
    have hqi : q ≤ i := by
      rcases Nat.lt_or_ge i q with h1 | h1
      · rw [(hA i x hik hx hxa).2 h1] at hun; cases hun
      · exact h1
    refine (same_boxes hd h i hqi (by omega) fun j y hqj hji hy => ?_).symm
    cases hya : y.r.isA with
    | false => rfl
    | true =>
      have := (hA j y (by omega) hy hya).1 (hbef j (hd.chA i j x y hik hji hx hy hxa hya))
      omega
  have htok : x.r.isT = true → (stAt O l e0 bs0 tau0 qt).2.2 = (stAt O l e0 bs0 tau0 i).2.2 := by
    intro hxa
    have hqi : qt ≤ i := by
      rcases Nat.lt_or_ge i qt with h1 | h1
      · rw [(hT i x hik hx hxa).2 h1] at hun; cases hun
      · exact h1
    refine (same_toks hd h i hqi (by omega) fun j y hqj hji hy => ?_).symm
    cases hya : y.r.isT with
    | false => rfl
    | true =>
      have := (hT j y (by omega) hy hya).1 (hbef j (hd.chT i j x y hik hji hx hy hxa hya))
      omega
  have hlook : ∀ z ∈ x.r.opds, ∀ b off y, z.ev (stAt O l e0 bs0 tau0 i).1 = .bp b off → (stAt O l e0 bs0 tau0 i).2.1[b]? = some y → (stAt O l e0 bs0 tau0 q).2.1[b]? = some y := by
    intro z hz b off y hzb hy
    rcases Nat.le_total i q with hiq | hqi
    · obtain ⟨ext, he⟩ := boxes_ext hd h q hiq hq
      rw [he, List.getElem?_append_left (by
        rcases Nat.lt_or_ge b (stAt O l e0 bs0 tau0 i).2.1.length with h1 | h1
        · exact h1
        · rw [List.getElem?_eq_none h1] at hy; cases hy)]
      exact hy
    · obtain ⟨ext, he⟩ := boxes_ext hd h i hqi (by omega)
      have hlt : b < (stAt O l e0 bs0 tau0 q).2.1.length := by
        cases z with
        | t t =>
          have hrt : t ∈ x.reads := by
            unfold Ins.reads Rhs.reads
            exact List.mem_append.2 (.inl (List.mem_flatMap.2 ⟨_, hz, by simp [Opd.reads]⟩))
          have h1 := henv.2 t
          rw [hreads t hrt, show getE (stAt O l e0 bs0 tau0 i).1 t = .bp b off from hzb] at h1
          obtain ⟨g, hg, _⟩ := h1
          exact hwr.boxd b g hg
        | d _ => cases hzb
        | fn _ => cases hzb
      rw [he, List.getElem?_append_left hlt] at hy
      exact hy
  obtain ⟨hev, hnA, hnT⟩ := evG_shift (hd.free i x hik hx) hstep.1 hbox htok hlook
  rw [← evG_congr (e := envL l (valAt O l e0 bs0 tau0) e0 (L listed) k) (by
    intro t ht
    refine hreads t ?_
    simpa [Ins.reads] using ht)] at hev
  refine ins_sound hO ho hcx henv hwr hev fun val w' M' hs' hwr' hval => hK _ _ ?_
  have hsz : i < listed.size := by rw [hi1.size]; exact hin
  have hLs := L_set listed i hsz
  exact {
    size := by rw [Array.size_setIfInBounds]; exact hi1.size
    closed := fun j o e hj hoj he hb => by
      simp only [hLs] at hj ⊢
      split
      · rfl
      · split at hj
        · rename_i hji
          subst hji
          exact hedge o hoj e he hb
        · exact hi1.closed j o e hj hoj he hb
    late := fun j hj => by
      rw [hLs, if_neg (by omega)]
      exact hi1.late j hj
    df := by rw [put_defers]; exact hi1.df
    mem := by
      refine ⟨M', if x.r.isA then i + 1 else q, if x.r.isT then i + 1 else qt, hs.trans hs', ?_, ?_, by split <;> omega, by split <;> omega, fun j y hjk hy hya => ?_, fun j y hjk hy hya => ?_⟩
      · have hput := (henv.mono hs'.le).put hval x.dst
        refine ⟨by rw [envL_length]; rw [← hput.1, length_putE, envL_length], fun t => ?_⟩
        have h1 := hput.2 t
        have : getE (envL l (valAt O l e0 bs0 tau0) e0 (L (listed.setIfInBounds i true)) k) t = getE (putE (envL l (valAt O l e0 bs0 tau0) e0 (L listed) k) x.dst (valAt O l e0 bs0 tau0 i)) t := by
          by_cases hdt : x.dst = some t
          · have hjd : (l[i]?).bind (·.dst) = some t := by simp [hx, hdt]
            rw [envL_some hjd (by rw [hLs]; simp) k hik (fun m hm hne he => by
              obtain ⟨z, hz⟩ := hd.get hm
              exact hne (hd.uniq m i z x t hm hik hz hx (by simpa [hz] using he) hdt))]
            rw [hdt]
            simp only [putE]
            rw [getE_setE, envL_length]
            by_cases ht : t < e0.length
            · simp [ht]
            · simp only [ht, and_false, if_false]
              rw [envL_none k fun m hm hLm he => ?_]
              obtain ⟨z, hz⟩ := hd.get hm
              have := hd.uniq m i z x t hm hik hz hx (by simpa [hz] using he) hdt
              subst this
              rw [hun] at hLm
              cases hLm
          · have h2 : getE (putE (envL l (valAt O l e0 bs0 tau0) e0 (L listed) k) x.dst (valAt O l e0 bs0 tau0 i)) t = getE (envL l (valAt O l e0 bs0 tau0) e0 (L listed) k) t := by
              cases hxd : x.dst with
              | none => rfl
              | some d => simp only [putE]; rw [getE_setE, if_neg (fun hc => hdt (by rw [hxd, hc.1]))]
            rw [h2]
            by_cases hex : ∃ j, j < k ∧ L listed j = true ∧ (l[j]?).bind (·.dst) = some t
            · obtain ⟨j, hjk, hLj, hj⟩ := hex
              obtain ⟨y, hy⟩ := hd.get hjk
              have hyd : y.dst = some t := by simpa [hy] using hj
              have hun' : ∀ m, m < k → m ≠ j → (l[m]?).bind (·.dst) ≠ some t := by
                intro m hm hne he
                obtain ⟨z, hz⟩ := hd.get hm
                exact hne (hd.uniq m j z y t hm hjk hz hy (by simpa [hz] using he) hyd)
              rw [envL_some hj hLj k hjk hun', envL_some hj (by rw [hLs]; split <;> simp [hLj]) k hjk hun']
            · rw [envL_none k (fun j hj hLj e => hex ⟨j, hj, hLj, e⟩), envL_none k (fun j hj hLj e => ?_)]
              rw [hLs] at hLj
              split at hLj
              · rename_i hji
                subst hji
                rw [hx] at e
                exact hdt (by simpa using e)
              · exact hex ⟨j, hj, hLj, e⟩
        rw [this]
        exact h1
      · cases h1 : x.r.isA <;> cases h2 : x.r.isT <;> simpa [h1, h2] using hwr'
      · rw [hLs]
        by_cases hji : j = i
        · subst hji
          rw [hx] at hy
          cases hy
          simp [hya]
        · rw [if_neg hji]
          cases h1 : x.r.isA with
          | false => simpa using hA j y hjk hy hya
          | true =>
            simp only [if_true]
            constructor
            · intro hLj
              rcases Nat.lt_trichotomy j i with h3 | h3 | h3
              · omega
              · omega
              · exfalso
                have hjn : j < ops.size := Nat.lt_of_lt_of_le hjk hd.kn
                have hoj : ops[j]? = some ops[j] := Array.getElem?_eq_getElem hjn
                have hb := before_closed hd.edges hi1.closed j _ hoj (fun e he hb => hi1.closed j _ e hLj hoj he hb) i (hd.chA j i y x hjk h3 hy hx hya h1)
                rw [hun] at hb
                cases hb
            · intro h3
              exact hbef j (hd.chA i j x y hik (by omega) hx hy h1 hya)
      · rw [hLs]
        by_cases hji : j = i
        · subst hji
          rw [hx] at hy
          cases hy
          simp [hya]
        · rw [if_neg hji]
          cases h1 : x.r.isT with
          | false => simpa using hT j y hjk hy hya
          | true =>
            simp only [if_true]
            constructor
            · intro hLj
              rcases Nat.lt_trichotomy j i with h3 | h3 | h3
              · omega
              · omega
              · exfalso
                have hjn : j < ops.size := Nat.lt_of_lt_of_le hjk hd.kn
                have hoj : ops[j]? = some ops[j] := Array.getElem?_eq_getElem hjn
                have hb := before_closed hd.edges hi1.closed j _ hoj (fun e he hb => hi1.closed j _ e hLj hoj he hb) i (hd.chT j i y x hjk h3 hy hx hya h1)
                rw [hun] at hb
                cases hb
            · intro h3
              exact hbef j (hd.chT i j x y hik (by omega) hx hy h1 hya) }

theorem inv1_done (hd : DrawOK ops l k) (h : evIs O l e0 bs0 tau0 = some s) {listed : Array Bool} {a : Act} {w : World} (hi : Inv1 O ops l k e0 bs0 tau0 M0 w0 listed a w) (hall : ∀ i, i < k → L listed i = true) :
    Inv2 O ops l k e0 bs0 tau0 M0 w0 k listed a w := by
  obtain ⟨M, q, qt, hs, henv, hwr, hq, hqt, hA, hT⟩ := hi.mem
  refine ⟨hi.size, Nat.le_refl _, hd.kn, fun i _ => ⟨fun hL => ?_, fun hik => hall i hik⟩, M, hs, ⟨?_, ?_, hi.df⟩⟩
  · rcases Nat.lt_or_ge i k with h1 | h1
    · exact h1
    · rw [hi.late i h1] at hL; cases hL
  · rw [stAt_env h k (by have := hd.ln; have := hd.kn; omega)]
    refine ⟨by rw [envL_length, ← henv.1, envL_length], fun t => ?_⟩
    have h1 := henv.2 t
    have : ∀ m, m ≤ k → envL l (valAt O l e0 bs0 tau0) e0 (fun _ => true) m = envL l (valAt O l e0 bs0 tau0) e0 (L listed) m := by
      intro m
      induction m with
      | zero => intro _; rfl
      | succ m ih => intro hm; simp only [envL, hall m (by omega), if_true, ih (by omega)]
    rw [this k (Nat.le_refl _)]
    exact h1
  · rw [same_boxes hd h k hq (Nat.le_refl _) (fun j y hqj hjk hy => by
        cases hya : y.r.isA with
        | false => rfl
        | true => have := (hA j y hjk hy hya).1 (hall j hjk); omega),
      same_toks hd h k hqt (Nat.le_refl _) (fun j y hqj hjk hy => by
        cases hya : y.r.isT with
        | false => rfl
        | true => have := (hT j y hjk hy hya).1 (hall j hjk); omega)]
    exact hwr

/-- How many are left. -/
def leftOf (n : Nat) (listed : Array Bool) : Nat := ((List.range n).filter fun i => !L listed i).length
theorem leftOf_set {n : Nat} {listed : Array Bool} {i : Nat} (hi : i < n) (hs : listed.size = n) (hL : L listed i = false) : leftOf n (listed.setIfInBounds i true) + 1 ≤ leftOf n listed := by
  unfold leftOf
  have hset := L_set listed i (by omega)
  have key : ∀ (l : List Nat), l.Nodup → i ∈ l → (l.filter fun j => !L (listed.setIfInBounds i true) j).length + 1 ≤ (l.filter fun j => !L listed j).length := by
    intro l
    induction l with
    | nil => intro _ h; cases h
    | cons x l ih =>
      intro hn hm
      rw [List.nodup_cons] at hn
      by_cases hx : x = i
      · subst hx
        simp only [List.filter_cons, hset, hL, if_true, Bool.not_true, Bool.not_false, Bool.false_eq_true, if_false, List.length_cons]
        have : (l.filter fun j => !L (listed.setIfInBounds x true) j) = l.filter fun j => !L listed j := by
          apply List.filter_congr
          intro j hj
          rw [hset, if_neg (fun e => by subst e; exact hn.1 hj)]
        simp only [hset] at this
        rw [this]
        exact Nat.le_refl _
      · have ih' := ih hn.2 ((List.mem_cons.1 hm).resolve_left (fun e => hx e.symm))
        simp only [List.filter_cons]
        rw [show L (listed.setIfInBounds i true) x = L listed x from by rw [hset, if_neg hx]]
        split <;> simp <;> omega
  exact key _ List.nodup_range (List.mem_range.2 hi)
theorem leftOf_zero {n : Nat} {listed : Array Bool} (h : leftOf n listed = 0) : ∀ i, i < n → L listed i = true := by
  intro i hi
  unfold leftOf at h
  have := List.eq_nil_of_length_eq_zero h
  rw [List.filter_eq_nil_iff] at this
  have := this i (List.mem_range.2 hi)
  simpa using this

theorem inv2_step (hO : OrcOK P O) (hl : cList P own ops k 0 ops.toList = some l) (hd : DrawOK ops l k) (h : evIs O l e0 bs0 tau0 = some s) {listed : Array Bool} {a : Act} {w : World} {j : Nat} (hi2 : Inv2 O ops l k e0 bs0 tau0 M0 w0 j listed a w)
    {i : Nat} (hr : i ∈ Region.ready .any ops listed) {K : Act → World → Prop} (hK : ∀ a' w', Inv2 O ops l k e0 bs0 tau0 M0 w0 (j + 1) (listed.setIfInBounds i true) a' w' → K a' w') : wpOp P ops Q i K a w := by
  obtain ⟨hin, hun, hedge⟩ := L_ready hi2.size hr
  have hij : j ≤ i := by
    rcases Nat.lt_or_ge i j with h1 | h1
    · rw [(hi2.lst i hin).2 h1] at hun; cases hun
    · exact h1
  have ho : ops[i]? = some ops[i] := Array.getElem?_eq_getElem hin
  -- what comes before the i-th is listed
  have hbef : ∀ m, m < i → L listed m = true := by
    intro m hm
    have hfull := hd.full i (by have := hi2.kj; omega) hin m hm
    obtain ⟨e, he, hb, hlt, hcase⟩ := before_spec hd.edges ho hfull
    have hej : e.on < j := (hi2.lst e.on (by omega)).1 (hedge _ ho e he hb)
    have hml : m < j := by
      rcases Nat.lt_or_ge m j with h1 | h1
      · exact h1
      · exfalso
        have mono : ∀ n, n < j → ∀ t, ((Region.before ops).getD n 0).testBit t = true → t < j := by
          intro n
          induction n using Nat.strongRecOn with
          | _ n ih =>
            intro hn t ht
            have hon : ops[n]? = some ops[n] := Array.getElem?_eq_getElem (by have := hi2.jn; omega)
            obtain ⟨e', _, _, hlt', hc'⟩ := before_spec hd.edges hon ht
            rcases hc' with rfl | hc'
            · omega
            · exact ih e'.on hlt' (by omega) t hc'
        rcases hcase with rfl | hcase
        · omega
        · have := mono e.on hej m hcase; omega
    exact (hi2.lst m (by omega)).2 hml
  have hji : i = j := by
    rcases Nat.lt_or_ge j i with h1 | h1
    · have := (hi2.lst j (by omega)).1 (hbef j h1); omega
    · omega
  subst hji
  obtain ⟨M, hs, hf⟩ := hi2.mem
  obtain ⟨hlen, hget⟩ := cList_get hl
  obtain ⟨x, hx, hcx⟩ := hget i ops[i] (by simp)
  have hstep := stAt_step h hx
  refine ins_sound hO ho hcx hf.env hf.wr hstep.1 fun val w' M' hs' hwr' hval => hK _ _ ?_
  have hLs := L_set listed i (by rw [hi2.size]; exact hin)
  refine ⟨by rw [Array.size_setIfInBounds]; exact hi2.size, by have := hi2.kj; omega, by omega, fun m hm => ?_, M', hs.trans hs', ?_⟩
  · rw [hLs]
    by_cases hmi : m = i
    · simp [hmi]
    · rw [if_neg hmi, hi2.lst m hm]; omega
  · refine ⟨?_, hwr', by rw [put_defers]; exact hf.df⟩
    rw [hstep.2]
    exact (hf.env.mono hs'.le).put hval x.dst

theorem draw_any (hO : OrcOK P O) (hl : cList P own ops k 0 ops.toList = some l) (hd : DrawOK ops l k) (h : evIs O l e0 bs0 tau0 = some s)
    (hQ : ∀ M' a' w', SR M0 w0 M' w' → FR M' s.1 s.2.1 s.2.2 a' w' → Q .normal a' w') : ∀ (fuel : Nat) (listed : Array Bool) (a : Act) (w : World), leftOf ops.size listed ≤ fuel →
    (Inv1 O ops l k e0 bs0 tau0 M0 w0 listed a w ∨ ∃ j, Inv2 O ops l k e0 bs0 tau0 M0 w0 j listed a w) → wpAny P .any ops Q fuel listed a w := by
  -- the end
  have fin : ∀ (listed : Array Bool) (a : Act) (w : World), (∀ i, i < ops.size → L listed i = true) → (Inv1 O ops l k e0 bs0 tau0 M0 w0 listed a w ∨ ∃ j, Inv2 O ops l k e0 bs0 tau0 M0 w0 j listed a w) → Q .normal a w := by
    intro listed a w hall hi
    have h2 : ∃ j, Inv2 O ops l k e0 bs0 tau0 M0 w0 j listed a w := by
      rcases hi with hi | hi
      · exact ⟨k, inv1_done hd h hi (fun i hik => hall i (by have := hd.kn; omega))⟩
      · exact hi
    obtain ⟨j, hi2⟩ := h2
    have hj : j = ops.size := by
      rcases Nat.lt_or_ge j ops.size with h1 | h1
      · have := (hi2.lst j h1).1 (hall j h1); omega
      · have := hi2.jn; omega
    subst hj
    obtain ⟨M, hs, hf⟩ := hi2.mem
    rw [← hd.ln, stAt_all h] at hf
    exact hQ M a w hs hf
  intro fuel
  induction fuel with
  | zero =>
    intro listed a w hle hi
    have hall := leftOf_zero (Nat.le_zero.1 hle)
    refine ⟨?_, fin listed a w hall hi⟩
    have hsz : listed.size = ops.size := by
      rcases hi with hi | ⟨_, hi⟩
      · exact hi.size
      · exact hi.size
    cases hr : Region.ready .any ops listed with
    | nil => rfl
    | cons i r =>
      have := L_ready hsz (show i ∈ Region.ready .any ops listed by rw [hr]; simp)
      rw [hall i this.1] at this
      cases this.2.1
  | succ fuel ih =>
    intro listed a w hle hi
    have hsz : listed.size = ops.size := by
      rcases hi with hi | ⟨_, hi⟩
      · exact hi.size
      · exact hi.size
    refine ⟨fun hr => fin listed a w (ready_nil hsz hd.edges hr) hi, fun i hr => ?_⟩
    obtain ⟨hin, hun, hedge⟩ := L_ready hsz hr
    have hle' : leftOf ops.size (listed.setIfInBounds i true) ≤ fuel := by have := leftOf_set hin hsz hun; omega
    have go2 : ∀ j, Inv2 O ops l k e0 bs0 tau0 M0 w0 j listed a w → wpOp P ops Q i (wpAny P .any ops Q fuel (listed.setIfInBounds i true)) a w :=
      fun j hi2 => inv2_step hO hl hd h hi2 hr fun a' w' h' => ih _ a' w' hle' (.inr ⟨_, h'⟩)
    rcases hi with hi | ⟨j, hi⟩
    · rcases Nat.lt_or_ge i k with hik | hik
      · exact inv1_step hO hl hd h hi hr hik fun a' w' h' => ih _ a' w' hle' (.inl h')
      · refine go2 k (inv1_done hd h hi fun m hm => ?_)
        have ho : ops[i]? = some ops[i] := Array.getElem?_eq_getElem hin
        exact before_closed hd.edges hi.closed i _ ho (hedge _ ho) m (hd.full i hik hin m (by omega))
    · exact go2 j hi

theorem region_draw (hO : OrcOK P O) (hm : P.follows .mixedOrders = true) {id : Nat} (hl : cRegion P own ops true = some l) {e e' : Env} {bs bs' : List Box} {tau tau' : List Nat} {a : Act} {w : World} {M : Mem} (hf : FR M e bs tau a w)
    (hev : evIs O l e bs tau = some (e', bs', tau')) (hQ : ∀ M' a' w', SR M w M' w' → FR M' e' bs' tau' a' w' → Q .normal a' w') : (Code.region id ops true).wp P Q a w := by
  simp only [cRegion, if_true] at hl
  split at hl
  · rename_i l' hl'
    split at hl
    · rename_i hd
      cases hl
      have hlen : l.length = ops.size := by simpa using (cList_get hl').1
      have hD := drawOk_spec hd hlen
      apply wp_region_any hm
      have hw1 : WR M bs tau w.drew := hf.wr.same (HeapSame.refl _) (Nat.le_refl _)
      refine draw_any (M0 := M) (w0 := w) hO hl' hD hev (fun M' a' w' hs hf' => hQ M' a' w' hs hf') _ _ a _ ?_ (.inl ?_)
      · unfold leftOf
        exact Nat.le_trans (List.length_filter_le _ _) (by simp)
      · have hL : ∀ j, L (Array.replicate ops.size false) j = false := by
          intro j
          unfold L
          rw [Array.getD_eq_getD_getElem?, Array.getElem?_replicate]
          split <;> rfl
        have hnone : envL l (valAt O l e bs tau) e (L (Array.replicate ops.size false)) (splitK (Region.before ops) ops.size) = e := by
          generalize splitK (Region.before ops) ops.size = k
          induction k with
          | zero => rfl
          | succ k ih => simp only [envL, hL, Bool.false_eq_true, if_false, ih]
        refine ⟨by simp, fun i o e h => (by have h' : L (Array.replicate ops.size false) i = true := h; rw [hL] at h'; cases h'), fun j _ => hL j, hf.df, M, 0, 0, ⟨Mle.refl M, fun _ _ h => h, fun _ _ _ _ h => h, Ext.drew w⟩, ?_, ?_, Nat.zero_le _, Nat.zero_le _, fun i x _ _ _ => ?_, fun i x _ _ _ => ?_⟩
        · rw [hnone]; exact hf.env
        · rw [stAt_zero]; exact hw1
        · rw [hL]; simp
        · rw [hL]; simp
    · cases hl
  · cases hl
end
end Go.Abs

/- Code, and functions: what the evaluator gives, the call gives. -/
namespace Go.Abs
open Go

/- DROPPING BOXES -/
def Mem.cut (M : Mem) (n : Nat) : Mem :=
  { M with box := fun b => if b < n then M.box b else none
           own := fun g => match M.own g with | some (.box b) => if b < n then some (.box b) else none | o => o }
theorem cut_own {M : Mem} {n g : Nat} {o : Owner} (h : (M.cut n).own g = some o) : M.own g = some o := by
  simp only [Mem.cut] at h
  split at h
  · rename_i b hb
    split at h
    · cases h; exact hb
    · cases h
  · exact h
theorem cut_own' {M : Mem} {n g : Nat} {o : Owner} (h : M.own g = some o) (ho : ∀ b, o = .box b → b < n) : (M.cut n).own g = some o := by
  simp only [Mem.cut, h]
  cases o with
  | box b => simp only; rw [if_pos (ho b rfl)]
  | _ => rfl
def AV.fits (n : Nat) : AV → Prop
  | .bp b _ => b < n
  | .fn _ caps => ∀ p ∈ caps, p.1 < n
  | _ => True
theorem AR.cut {M : Mem} {n : Nat} {x : AV} {v : Value} (h : AR M x v) (hf : x.fits n) : AR (M.cut n) x v := by
  cases x with
  | bp b off =>
    obtain ⟨g, h1, h2⟩ := h
    have : b < n := hf
    exact ⟨g, by simp [Mem.cut, this, h1], h2⟩
  | fn f caps =>
    obtain ⟨cv, h1, h2⟩ := h
    refine ⟨cv, h1, ?_⟩
    have hf' : ∀ p ∈ caps, p.1 < n := hf
    clear hf h1
    generalize cv.toList = vs at h2
    induction caps generalizing vs with
    | nil => exact h2
    | cons p l ih =>
      obtain ⟨b, o⟩ := p
      obtain ⟨g, r, h3, h4, h5⟩ := h2
      have : b < n := hf' (b, o) (by simp)
      exact ⟨g, r, h3, by simp [Mem.cut, this, h4], ih (fun p hp => hf' p (by simp [hp])) r h5⟩
  | d x => exact h
  | sl t e sz es => exact h
  | ep cs => exact h
  | junk => trivial
theorem AR.clr {M : Mem} {n : Nat} {x : AV} {v : Value} (h : AR M x v) : AR (M.cut n) (clr n x) v := by
  cases x with
  | bp b off =>
    simp only [Go.Abs.clr]
    split
    · trivial
    · exact h.cut (show b < n by omega)
  | fn f caps =>
    simp only [Go.Abs.clr]
    split
    · rename_i hc
      refine h.cut ?_
      intro p hp
      rw [List.all_eq_true] at hc
      simpa using hc p hp
    · trivial
  | d x => exact h.cut trivial
  | sl t e sz es => exact h.cut trivial
  | ep cs => exact h.cut trivial
  | junk => trivial
theorem clrE_length (n : Nat) : ∀ e : Env, (clrE n e).length = e.length
  | [] => rfl
  | x :: l => by simp [clrE, clrE_length n l]
theorem clrE_get (n : Nat) : ∀ (e : Env) (i : Nat), getE (clrE n e) i = clr n (getE e i)
  | [], i => by simp [clrE, getE_nil, clr]
  | x :: l, 0 => rfl
  | x :: l, i + 1 => by simp [clrE, getE, clrE_get n l i]

/-- The cells of boxes point to nothing. -/
def Box.noRef : Box → Prop
  | .cells cs => ∀ x ∈ cs, ∀ n, x.fits n
  | .bld _ => True

theorem CR.cut {M : Mem} {n : Nat} : ∀ {cs : List AV} {vs : List Value}, CR M cs vs → (∀ x ∈ cs, x.fits n) → CR (M.cut n) cs vs
  | [], vs, h, _ => h
  | c :: cs, vs, h, hf => by
    obtain ⟨v, r, h1, h2, h3, h4⟩ := h
    exact ⟨v, r, h1, h2.cut (hf c (by simp)), h3, CR.cut h4 fun x hx => hf x (by simp [hx])⟩

theorem WR.cut {M : Mem} {bs : List Box} {tau : List Nat} {w : World} (h : WR M bs tau w) (n : Nat) (hn : ∀ x ∈ bs.take n, x.noRef) : WR (M.cut n) (bs.take n) tau w where
  imm := h.imm
  immb a v b e k := h.immb a v b e (cut_own k)
  box b x e := by
    rw [List.getElem?_take] at e
    split at e
    · rename_i hb
      have hx := h.box b x e
      have hnr : x.noRef := hn x (List.mem_iff_getElem?.2 ⟨b, by rw [List.getElem?_take, if_pos hb]; exact e⟩)
      have ho : ∀ g, M.own g = some (.box b) → (M.cut n).own g = some (.box b) := fun g hg => cut_own' hg (fun b' e => by cases e; exact hb)
      cases x with
      | cells cs =>
        obtain ⟨g, vs, ty, h1, h2, h3, h4⟩ := hx
        exact ⟨g, vs, ty, by simp [Mem.cut, hb, h1], ho g h2, h3, h4.cut (fun x hx => hnr x hx n)⟩
      | bld l =>
        obtain ⟨g, va, vb, h1, h2, h3, h4⟩ := hx
        refine ⟨g, va, vb, by simp [Mem.cut, hb, h1], ho g h2, h3, h4.imp id ?_⟩
        rintro ⟨q1, q2, q3⟩
        exact ⟨q1, q2, fun r hr => ⟨ho r (q3 r hr).1, (q3 r hr).2⟩⟩
    · cases e
  boxd b g e := by
    simp only [Mem.cut] at e
    split at e
    · have := h.boxd b g e; simp; omega
    · cases e
  tok t k e := by
    obtain ⟨v, e', sz, xs, h1, h2, h3, h4, h5, h6⟩ := h.tok t k e
    exact ⟨v, e', sz, xs, h1, h2, h3, h4, fun g hg => cut_own' (h5 g hg) (fun b e => by cases e), h6⟩
  tokd := h.tokd
  toked := h.toked
  row g o e := h.row g o (cut_own e)
  lt g o e := h.lt g o (cut_own e)
  ownb g b e := by
    have h1 := h.ownb g b (cut_own e)
    simp only [Mem.cut] at e
    split at e
    · split at e
      · cases e; simp; omega
      · cases e
    · rename_i hno; exact absurd e (hno b)
  glob := h.glob
  ownt g t e := h.ownt g t (cut_own e)
theorem SR.cut {M0 M : Mem} {bs0 : List Box} {tau0 : List Nat} {w0 w : World} (h : SR M0 w0 M w) (h0 : WR M0 bs0 tau0 w0) : SR M0 w0 (M.cut bs0.length) w where
  le := ⟨h.le.imm, fun b g e => by simp [Mem.cut, h0.boxd b g e, h.le.box b g e], h.le.tokv, h.le.toke⟩
  row g o e := cut_own' (h.row g o e) (fun b e => by cases e)
  rowi := h.rowi
  ext := h.ext

/- THE BOXES POINT TO NOTHING -/
def NR (bs : List Box) : Prop := ∀ x ∈ bs, x.noRef
theorem plain_noRef {x : Box} (h : x.plain) : x.noRef := by
  cases x with
  | cells cs =>
    obtain ⟨ds, rfl⟩ := h
    intro x hx n
    obtain ⟨d, _, rfl⟩ := List.mem_map.1 hx
    trivial
  | bld l => trivial
theorem stCells_noRef {n : Nat} {x : AV} {cs : List AV} (h : stCells n x = some cs) : ∀ y ∈ cs, ∀ m, y.fits m := by
  unfold stCells at h
  split at h
  · cases h
  · split at h
    · cases h
      intro y hy m
      obtain ⟨d, _, rfl⟩ := List.mem_map.1 hy
      trivial
    · cases h
  · split at h
    · cases h
      intro y hy m
      simp at hy
      subst hy
      trivial
    · cases h
  · cases h
theorem mem_set' {α : Type} {l : List α} {i : Nat} {x y : α} (h : y ∈ l.set i x) : y ∈ l ∨ y = x := List.mem_or_eq_of_mem_set h
theorem setAVs_noRef : ∀ {xs cs : List AV} {o : Nat}, (∀ y ∈ xs, ∀ m, y.fits m) → (∀ y ∈ cs, ∀ m, y.fits m) → ∀ y ∈ setAVs cs o xs, ∀ m, y.fits m
  | [], cs, o, _, hc => hc
  | x :: xs, cs, o, hx, hc => by
    simp only [setAVs]
    refine setAVs_noRef (fun y hy => hx y (by simp [hy])) fun y hy m => ?_
    rcases mem_set' hy with h | h
    · exact hc y h m
    · subst h; exact hx y (by simp) m
theorem NR.set {bs : List Box} (h : NR bs) {x : Box} (hx : x.noRef) (b : Nat) : NR (bs.set b x) := by
  intro y hy
  rcases mem_set' hy with h' | h'
  · exact h y h'
  · subst h'; exact hx
theorem NR.add {bs : List Box} (h : NR bs) {x : Box} (hx : x.noRef) : NR (bs ++ [x]) := by
  intro y hy
  rcases List.mem_append.1 hy with h' | h'
  · exact h y h'
  · simp at h'; subst h'; exact hx
theorem NR.boxesIn : ∀ (ps : List Nat) (ys : List Box) {bs : List Box}, NR bs → (∀ y ∈ ys, y.plain) → NR (boxesIn bs ps ys)
  | [], ys, bs, h, _ => by simpa [Go.Abs.boxesIn] using h
  | b :: ps, [], bs, h, _ => by simpa [Go.Abs.boxesIn] using h
  | b :: ps, y :: ys, bs, h, hy => by
    simp only [Go.Abs.boxesIn]
    exact NR.boxesIn ps ys (h.set (plain_noRef (hy y (by simp))) b) fun z hz => hy z (by simp [hz])

section
variable {P : Program} {O : Orc} {e : Env} {bs bs' : List Box} {tau tau' : List Nat} {v : AV}
theorem evCall_NR (hO : OrcOK P O) {pu : Bool} {f : FuncId} {args : List AV} (h : NR bs) (hev : evCall O pu f args bs tau = some (v, bs', tau')) : NR bs' := by
  unfold evCall at hev
  split at hev
  · split at hev
    · simp only [Option.some.injEq, Prod.mk.injEq] at hev
      rw [← hev.2.1]
      exact h
    · cases hev
  · split at hev
    · cases hev
    · split at hev
      · rename_i xs hx
        split at hev
        · rename_i r ys h3
          simp only [Option.some.injEq, Prod.mk.injEq] at hev
          rw [← hev.2.1]
          refine h.boxesIn _ _ (hO _ _ _ _ _ h3 ?_).2.2.1
          intro x hxm
          obtain ⟨i, hi⟩ := List.mem_iff_getElem?.1 hxm
          obtain ⟨_, _, _, _, h6⟩ := (boxesOut_spec hx).2 i x hi
          exact boxOut_plain h6
        · cases hev
      · cases hev
  · cases hev
theorem evR_NR (hO : OrcOK P O) {r : Rhs} (h : NR bs) (hev : evR O e bs tau r = some (v, bs', tau')) : NR bs' := by
  cases r
  case alloc zs =>
    simp only [evR, Option.some.injEq, Prod.mk.injEq] at hev
    rw [← hev.2.1]
    exact h.add (plain_noRef ⟨zs, rfl⟩)
  case allocB =>
    simp only [evR, Option.some.injEq, Prod.mk.injEq] at hev
    rw [← hev.2.1]
    exact h.add trivial
  case box n x =>
    simp only [evR] at hev
    split at hev
    · rename_i cs hcs
      simp only [Option.some.injEq, Prod.mk.injEq] at hev
      rw [← hev.2.1]
      exact h.add (stCells_noRef hcs)
    · cases hev
  case st n x y =>
    simp only [evR] at hev
    split at hev
    · rename_i b1 hb1
      simp only [Option.some.injEq, Prod.mk.injEq] at hev
      rw [← hev.2.1]
      unfold evSt at hb1
      split at hb1
      · split at hb1
        · rename_i cs vs hcs hvs
          split at hb1
          · cases hb1
            refine h.set ?_ _
            exact setAVs_noRef (stCells_noRef hvs) (h _ (List.mem_of_getElem? hcs))
          · cases hb1
        · cases hb1
      · cases hb1
    · cases hev
  case call pu f l => exact evCall_NR hO h hev
  case callv pu x l =>
    simp only [evR] at hev
    split at hev
    · exact evCall_NR hO h hev
    · cases hev
  all_goals
    simp only [evR, optAV, optDV] at hev
    (repeat' split at hev) <;> first
      | cases hev; done
      | (simp only [Option.some.injEq, Prod.mk.injEq] at hev
         obtain ⟨_, rfl, _⟩ := hev
         exact h)
theorem evG_NR (hO : OrcOK P O) {g : Option (Nat × Bool)} {r : Rhs} (h : NR bs) (hev : evG O e bs tau g r = some (v, bs', tau')) : NR bs' := by
  unfold evG at hev
  split at hev
  · exact evR_NR hO h hev
  · split at hev
    · split at hev
      · exact evR_NR hO h hev
      · simp only [Option.some.injEq, Prod.mk.injEq] at hev
        rw [← hev.2.1]
        exact h
    · simp only [Option.some.injEq, Prod.mk.injEq] at hev
      rw [← hev.2.1]
      exact h
    · cases hev
end
theorem evIs_NR {P : Program} {O : Orc} (hO : OrcOK P O) : ∀ (l : List Ins) {e e' : Env} {bs bs' : List Box} {tau tau' : List Nat}, NR bs → evIs O l e bs tau = some (e', bs', tau') → NR bs'
  | [], e, e', bs, bs', tau, tau', h, hev => by
    simp only [evIs, Option.some.injEq, Prod.mk.injEq] at hev
    rw [← hev.2.1]
    exact h
  | i :: l, e, e', bs, bs', tau, tau', h, hev => by
    simp only [evIs] at hev
    split at hev
    · rename_i v b1 t1 hv
      exact evIs_NR hO l (evG_NR hO h hv) hev
    · cases hev

/- CODE -/
def Ex.go : Ex → Exit
  | .nrm => .normal
  | .ex id => .exit id
  | .rt => .ret

section
variable {P : Program} {O : Orc} {own : List Nat}

/-- What a piece of code does, if the evaluator comes to an end with it. -/
def CodeOK (P : Program) (c : Code) (f : Env → List Box → List Nat → Res) : Prop :=
  ∀ (Q : Exit → Act → World → Prop) (M : Mem) (a : Act) (w : World) (e e' : Env) (bs bs' : List Box) (tau tau' : List Nat) (x : Ex), f e bs tau = some (x, e', bs', tau') → FR M e bs tau a w → NR bs →
    (∀ M' a' w', SR M w M' w' → FR M' e' bs' tau' a' w' → NR bs' → Q x.go a' w') → c.wp P Q a w

theorem loopN_ne {f : Env → List Box → List Nat → Res} : ∀ (n : Nat) (e e' : Env) (bs bs' : List Box) (tau tau' : List Nat) (x : Ex), loopN f n e bs tau = some (x, e', bs', tau') → x ≠ .nrm
  | 0, e, e', bs, bs', tau, tau', x, h => by simp [loopN] at h
  | n + 1, e, e', bs, bs', tau, tau', x, h => by
    simp only [loopN] at h
    cases hf : f e bs tau with
    | none => simp [hf, bindN] at h
    | some r =>
      obtain ⟨x1, e1, bs1, tau1⟩ := r
      cases x1 with
      | nrm => simp only [hf, bindN] at h; exact loopN_ne n _ _ _ _ _ _ _ h
      | ex id => simp only [hf, bindN, Option.some.injEq, Prod.mk.injEq] at h; rw [← h.1]; intro e; cases e
      | rt => simp only [hf, bindN, Option.some.injEq, Prod.mk.injEq] at h; rw [← h.1]; intro e; cases e

theorem loop_rounds {c : Code} {f : Env → List Box → List Nat → Res} (h : CodeOK P c f) (Q : Exit → Act → World → Prop) : ∀ (n : Nat) (M : Mem) (a : Act) (w : World) (e e' : Env) (bs bs' : List Box) (tau tau' : List Nat) (x : Ex),
    loopN f n e bs tau = some (x, e', bs', tau') → FR M e bs tau a w → NR bs → (∀ M' a' w', SR M w M' w' → FR M' e' bs' tau' a' w' → NR bs' → Q x.go a' w') → Code.rounds P c Q n a w
  | 0, M, a, w, e, e', bs, bs', tau, tau', x, hev, _, _, _ => by simp [loopN] at hev
  | n + 1, M, a, w, e, e', bs, bs', tau, tau', x, hev, hf, hnr, hQ => by
    have hne := loopN_ne _ _ _ _ _ _ _ _ hev
    simp only [loopN] at hev
    rw [rounds_succ]
    cases hfr : f e bs tau with
    | none => simp [hfr, bindN] at hev
    | some r =>
      obtain ⟨x1, e1, bs1, tau1⟩ := r
      refine h _ M a w e _ bs _ tau _ _ hfr hf hnr fun M' a' w' hs hf' hnr1 => ?_
      cases x1 with
      | nrm =>
        simp only [hfr, bindN] at hev
        refine loop_rounds h Q n (M'.cut bs.length) a' w' _ _ _ _ _ _ _ hev ⟨⟨?_, fun i => ?_⟩, hf'.wr.cut bs.length (fun y hy => hnr1 y (List.mem_of_mem_take hy)), hf'.df⟩ (fun y hy => hnr1 y (List.mem_of_mem_take hy)) ?_
        · rw [clrE_length]; exact hf'.env.1
        · rw [clrE_get]; exact (hf'.env.2 i).clr
        · intro M'' a'' w'' hs' hf'' hnr''
          exact hQ M'' a'' w'' ((hs.cut hf.wr).trans hs') hf'' hnr''
      | ex id =>
        simp only [hfr, bindN, Option.some.injEq, Prod.mk.injEq] at hev
        obtain ⟨rfl, rfl, rfl, rfl⟩ := hev
        exact hQ M' a' w' hs hf' hnr1
      | rt =>
        simp only [hfr, bindN, Option.some.injEq, Prod.mk.injEq] at hev
        obtain ⟨rfl, rfl, rfl, rfl⟩ := hev
        exact hQ M' a' w' hs hf' hnr1

theorem code_sound (hO : OrcOK P O) (hm : P.follows .mixedOrders = true) (L : Nat) : ∀ (c : Code) (ac : AC), cCode P own c = some ac → CodeOK P c (den O L ac)
  | .skip, ac, hc => by
    cases hc
    intro Q M a w e e' bs bs' tau tau' x hev hf hnr hQ
    simp only [den, Option.some.injEq, Prod.mk.injEq] at hev
    obtain ⟨rfl, rfl, rfl, rfl⟩ := hev
    exact wp_skip (hQ M a w (SR.refl M w) hf hnr)
  | .region id ops draw, ac, hc => by
    simp only [cCode, Option.map_eq_some_iff] at hc
    obtain ⟨l, hl, rfl⟩ := hc
    intro Q M a w e e' bs bs' tau tau' x hev hf hnr hQ
    simp only [den] at hev
    split at hev
    · rename_i e1 bs1 tau1 h1
      simp only [Option.some.injEq, Prod.mk.injEq] at hev
      obtain ⟨rfl, rfl, rfl, rfl⟩ := hev
      have hnr' := evIs_NR hO l hnr h1
      cases draw with
      | true => exact region_draw hO hm hl hf h1 fun M' a' w' hs hf' => hQ M' a' w' hs hf' hnr'
      | false => exact region_seq hO hl hf h1 fun M' a' w' hs hf' => hQ M' a' w' hs hf' hnr'
    · cases hev
  | .seq c d, ac, hc => by
    simp only [cCode, Option.bind_eq_bind, Option.pure_def, Option.bind_eq_some_iff, Option.some.injEq] at hc
    obtain ⟨c', hc', d', hd', rfl⟩ := hc
    intro Q M a w e e' bs bs' tau tau' x hev hf hnr hQ
    simp only [den] at hev
    apply wp_seq
    cases hfr : den O L c' e bs tau with
    | none => simp [hfr, bindN] at hev
    | some r =>
      obtain ⟨x1, e1, bs1, tau1⟩ := r
      refine code_sound hO hm L c c' hc' _ M a w e _ bs _ tau _ _ hfr hf hnr fun M' a' w' hs hf' hnr1 => ?_
      cases x1 with
      | nrm =>
        simp only [hfr, bindN] at hev
        exact code_sound hO hm L d d' hd' Q M' a' w' _ _ _ _ _ _ _ hev hf' hnr1 fun M'' a'' w'' hs' hf'' hnr'' => hQ M'' a'' w'' (hs.trans hs') hf'' hnr''
      | ex id =>
        simp only [hfr, bindN, Option.some.injEq, Prod.mk.injEq] at hev
        obtain ⟨rfl, rfl, rfl, rfl⟩ := hev
        exact hQ M' a' w' hs hf' hnr1
      | rt =>
        simp only [hfr, bindN, Option.some.injEq, Prod.mk.injEq] at hev
        obtain ⟨rfl, rfl, rfl, rfl⟩ := hev
        exact hQ M' a' w' hs hf' hnr1
  | .cond y c d, ac, hc => by
    simp only [cCode, Option.bind_eq_bind, Option.pure_def, Option.bind_eq_some_iff, Option.some.injEq] at hc
    obtain ⟨y', hy', c', hc', d', hd', rfl⟩ := hc
    intro Q M a w e e' bs bs' tau tau' x hev hf hnr hQ
    simp only [den] at hev
    split at hev
    · rename_i b hb
      have h1 := opd_sound hf.env hy'
      rw [hb] at h1
      have h1 : a.eval y = .bool b := h1
      apply wp_cond h1
      cases b with
      | true =>
        simp only [if_true] at hev
        exact code_sound hO hm L c c' hc' Q M a w _ _ _ _ _ _ _ hev hf hnr hQ
      | false =>
        simp only [Bool.false_eq_true, if_false] at hev
        exact code_sound hO hm L d d' hd' Q M a w _ _ _ _ _ _ _ hev hf hnr hQ
    · cases hev
  | .block id c, ac, hc => by
    simp only [cCode, Option.bind_eq_bind, Option.pure_def, Option.bind_eq_some_iff, Option.some.injEq] at hc
    obtain ⟨c', hc', rfl⟩ := hc
    intro Q M a w e e' bs bs' tau tau' x hev hf hnr hQ
    simp only [den] at hev
    apply wp_block
    cases hfr : den O L c' e bs tau with
    | none => simp [hfr, outBlock] at hev
    | some r =>
      obtain ⟨x1, e1, bs1, tau1⟩ := r
      refine code_sound hO hm L c c' hc' _ M a w e _ bs _ tau _ _ hfr hf hnr fun M' a' w' hs hf' hnr1 => ?_
      cases x1 with
      | nrm =>
        simp only [hfr, outBlock, Option.some.injEq, Prod.mk.injEq] at hev
        obtain ⟨rfl, rfl, rfl, rfl⟩ := hev
        exact hQ M' a' w' hs hf' hnr1
      | ex id' =>
        simp only [hfr, outBlock] at hev
        simp only [Ex.go, Exit.inBlock]
        split at hev
        · rename_i hid
          simp only [Option.some.injEq, Prod.mk.injEq] at hev
          obtain ⟨rfl, rfl, rfl, rfl⟩ := hev
          rw [if_pos hid]
          exact hQ M' a' w' hs hf' hnr1
        · rename_i hid
          simp only [Option.some.injEq, Prod.mk.injEq] at hev
          obtain ⟨rfl, rfl, rfl, rfl⟩ := hev
          rw [if_neg hid]
          exact hQ M' a' w' hs hf' hnr1
      | rt =>
        simp only [hfr, outBlock, Option.some.injEq, Prod.mk.injEq] at hev
        obtain ⟨rfl, rfl, rfl, rfl⟩ := hev
        exact hQ M' a' w' hs hf' hnr1
  | .loop c, ac, hc => by
    simp only [cCode, Option.bind_eq_bind, Option.pure_def, Option.bind_eq_some_iff, Option.some.injEq] at hc
    obtain ⟨c', hc', rfl⟩ := hc
    intro Q M a w e e' bs bs' tau tau' x hev hf hnr hQ
    simp only [den] at hev
    exact wp_loop_rounds L (loop_rounds (code_sound hO hm L c c' hc') Q L M a w _ _ _ _ _ _ _ hev hf hnr hQ)
  | .exit id, ac, hc => by
    cases hc
    intro Q M a w e e' bs bs' tau tau' x hev hf hnr hQ
    simp only [den, Option.some.injEq, Prod.mk.injEq] at hev
    obtain ⟨rfl, rfl, rfl, rfl⟩ := hev
    exact wp_exit (hQ M a w (SR.refl M w) hf hnr)
  | .ret, ac, hc => by
    cases hc
    intro Q M a w e e' bs bs' tau tau' x hev hf hnr hQ
    simp only [den, Option.some.injEq, Prod.mk.injEq] at hev
    obtain ⟨rfl, rfl, rfl, rfl⟩ := hev
    exact wp_ret (hQ M a w (SR.refl M w) hf hnr)
  | .rangeFunc .., ac, hc => by cases hc
  | .scope _, ac, hc => by cases hc
  | .label _, ac, hc => by cases hc
  | .goto _, ac, hc => by cases hc
  | .refuse _, ac, hc => by cases hc
end
end Go.Abs

/- Functions: what the evaluator gives, the call gives. -/
namespace Go.Abs
open Go

section
variable {P : Program} {M : Mem} {e : Env} {bs xs : List Box} {tau : List Nat} {a : Act} {w : World}

def resSem (tmps : Array Value) : ResultVar → Sem Value
  | .tmp t => pure (tmps.getD t undef)
  | .cell i t => do loadVar t (← asAddr (tmps.getD i undef))

/-- A result. -/
theorem res_one (hf : FR M e bs tau a w) {rv : ResultVar} {r : RV} {d : DV} (hc : cRes P rv = some r) (hr : resV e bs r = some d) :
    ∃ u, (resSem a.tmps rv).run P w = .ok u w ∧ DR M.imm d u := by
  cases rv with
  | tmp t =>
    cases hc
    simp only [resV] at hr
    exact ⟨a.tmps.getD t undef, by simp [resSem], (hf.env.2 t).dv hr⟩
  | cell i t =>
    simp only [cRes] at hc
    split at hc
    · rename_i hcond
      simp only [Bool.and_eq_true, Bool.or_eq_true, beq_iff_eq] at hcond
      cases hc
      simp only [resV] at hr
      split at hr
      · rename_i av hav
        obtain ⟨ad, u, h1, h2, h3⟩ := load_sound hf.wr hcond.1 (hf.env.2 i) hav (fun h => hcond.2.resolve_left (by rw [h]; simp))
        exact ⟨u, by simp [resSem, h1, asAddr, h2], h3.dv hr⟩
      · cases hr
    · cases hc
theorem res_all (hf : FR M e bs tau a w) : ∀ {rvs : List ResultVar} {rs : List RV} {ds : List DV}, rvs.mapM (cRes P) = some rs → resVs e bs rs = some ds →
    ∃ us : List Value, (rvs.mapM (resSem a.tmps)).run P w = .ok us w ∧ DRt M.imm ds us
  | [], rs, ds, h, hr => by
    simp at h
    subst h
    simp [resVs] at hr
    subst hr
    exact ⟨[], by simp, by simp [DRt]⟩
  | rv :: rvs, rs, ds, h, hr => by
    simp only [List.mapM_cons, Option.bind_eq_bind, Option.pure_def, Option.bind_eq_some_iff, Option.some.injEq] at h
    obtain ⟨r, h1, rs', h2, rfl⟩ := h
    simp only [resVs] at hr
    split at hr
    · rename_i d ds' h3 h4
      cases hr
      obtain ⟨u, h5, h6⟩ := res_one hf h1 h3
      obtain ⟨us, h7, h8⟩ := res_all hf h2 h4
      refine ⟨u :: us, ?_, by simp only [DRt]; exact ⟨u, us, rfl, h6, h8⟩⟩
      rw [List.mapM_cons, Sem.run_bind, h5]
      simp only [Result.andThen_ok, Sem.run_bind, h7, Sem.run_pure]
    · cases hr

theorem results_sound (hf : FR M e bs tau a w) {fn : Func} {rs : List RV} {ds : List DV} (hc : fn.results.toList.mapM (cRes P) = some rs) (hr : resVs e bs rs = some ds) :
    ∃ v, (results fn a.tmps).run P w = .ok v w ∧ DR M.imm (resOne ds) v := by
  obtain ⟨us, h1, h2⟩ := res_all hf hc hr
  have hl : us.length = ds.length := by
    clear h1 hr hc
    induction ds generalizing us with
    | nil => simp only [DRt] at h2; simp [h2]
    | cons d ds ih =>
      simp only [DRt] at h2
      obtain ⟨v, r, rfl, _, h3⟩ := h2
      simp [ih r h3]
  have hrun : (fn.results.mapM (resSem a.tmps)).run P w = .ok us.toArray w := by
    rw [Array.mapM_eq_mapM_toList, map_eq_pure_bind, Sem.run_bind, h1]
    rfl
  refine ⟨if h : us.toArray.size = 1 then us.toArray[0] else .tuple us.toArray, ?_, ?_⟩
  · unfold results
    rw [Sem.run_bind]
    refine Eq.trans (congrArg (fun r => Result.andThen r _) hrun) ?_
    rfl
  · match ds, us, hl, h2 with
    | [d], [u], _, h2 =>
      simp only [DRt] at h2
      obtain ⟨v, r, h3, h4, _⟩ := h2
      injection h3 with h3
      subst h3
      exact DR_canon h4
    | [], [], _, h2 =>
      refine DR_canon (x := .tup []) ?_
      simp only [DR]
      exact ⟨#[], rfl, by simp [DRt]⟩
    | d1 :: d2 :: ds, u1 :: u2 :: us, _, h2 =>
      refine DR_canon (x := .tup (d1 :: d2 :: ds)) ?_
      simp only [DR]
      exact ⟨(u1 :: u2 :: us).toArray, by simp, h2⟩

/-- The memory that a call leaves. -/
theorem ret_sr {M0 : Mem} {bs0 : List Box} {w0 : World} (h0 : WR M0 bs0 [] w0) (hs : SR M0 w0 M w) : SR M0 w0 (M.inner (List.range bs0.length) w) w where
  le := ⟨hs.le.imm, fun b g e => by
      have hb := h0.boxd b g e
      simp [Mem.inner, List.getElem?_range hb, hs.le.box b g e],
    fun t n v e => by obtain ⟨k, hk, _⟩ := h0.tokd t n v e; simp at hk,
    fun t x e => by have := h0.toked t x e; simp at this⟩
  row g o e := by simp only [Mem.inner, hs.row g o e]
  rowi := hs.rowi
  ext := hs.ext

theorem entry_env {args : List AV} {vals : List Value} (h : ARs M args vals) (nt : Nat) : EnvR M (entry nt args) (vals.toArray ++ Array.replicate (nt - vals.toArray.size) undef) := by
  have hlen : ∀ {l : List AV} {vs : List Value}, ARs M l vs → l.length = vs.length := by
    intro l
    induction l with
    | nil => intro vs h; simp only [ARs] at h; simp [h]
    | cons x l ih => rintro vs ⟨v, r, rfl, _, h⟩; simp [ih h]
  have hl := hlen h
  refine ⟨by simp [entry, hl], fun i => ?_⟩
  have key : ∀ {l : List AV} {vs : List Value} (i : Nat) (k : Nat), ARs M l vs → AR M (getE (l ++ List.replicate k .junk) i) ((vs ++ List.replicate k undef)[i]?.getD undef) := by
    intro l
    induction l with
    | nil =>
      intro vs i k h
      simp only [ARs] at h
      subst h
      rw [List.nil_append, getE_eq, List.getD_eq_getElem?_getD, List.getElem?_replicate]
      split <;> trivial
    | cons x l ih =>
      rintro vs i k ⟨v, r, rfl, h1, h2⟩
      cases i with
      | zero => simpa [getE] using h1
      | succ i => simpa [getE] using ih i k h2
  have := key i (nt - args.length) h
  rw [Array.getD_eq_getD_getElem?]
  unfold entry
  rw [show (vals.toArray ++ Array.replicate (nt - vals.toArray.size) undef)[i]? = (vals ++ List.replicate (nt - args.length) undef)[i]? from by
    rw [← Array.getElem?_toList]
    simp [hl]]
  exact this
end

/-- What a table says of a program. -/
structure TabOK (P : Program) (T : Tab) : Prop where
  mixed : P.follows .mixedOrders = true
  prims : ∀ f p args bs r bs', T.prim f = some p → p args bs = some (r, bs') → (∀ x ∈ bs, x.plain) → Enters P f ∧ Sound P f args bs r bs'
  fns : ∀ f fn, T.prim f = none → T.fns f = some fn → ∃ g, P.funcs[f]? = some g ∧ (g.name == "runtime.NumGoroutine") = false ∧ cFun P g = some fn

theorem run_sound {P : Program} {T : Tab} (hT : TabOK P T) : ∀ n, OrcOK P (runN T n)
  | 0 => fun f args bs r bs' h _ => by simp [runN] at h
  | n + 1 => by
    intro f args bs r bs' h hpl
    have ih := run_sound hT n
    simp only [runN] at h
    split at h
    · rename_i p hp
      exact hT.prims f p args bs r bs' hp h hpl
    · rename_i hnp
      split at h
      · rename_i fn hfn
        obtain ⟨g, hg, hname, hcf⟩ := hT.fns f fn hnp hfn
        unfold cFun at hcf
        split at hcf
        · cases hcf
        · rename_i c hbody
          simp only [Option.bind_eq_bind, Option.pure_def, Option.bind_eq_some_iff, Option.some.injEq] at hcf
          obtain ⟨body, hcc, res, hres, rfl⟩ := hcf
          simp only at h
          have hnr : NR bs := fun x hx => plain_noRef (hpl x hx)
          -- the end of the body
          have hfin : ∃ x e' bs1 tau', den (runN T n) n body (entry g.ntmps args) bs [] = some (x, e', bs1, tau') ∧ (x = .nrm ∨ x = .rt) ∧ ∃ ds, resVs e' bs1 res = some ds ∧ boxesOut bs1 (List.range bs.length) = some bs' ∧ r = resOne ds := by
            unfold finish at h
            split at h
            · cases h
            · rename_i x e' bs1 tau' hne hd
              split at h
              · rename_i ds ys h1 h2
                simp only [Option.some.injEq, Prod.mk.injEq] at h
                obtain ⟨rfl, rfl⟩ := h
                refine ⟨x, e', bs1, tau', hd, ?_, ds, h1, h2, rfl⟩
                cases x with
                | nrm => exact .inl rfl
                | rt => exact .inr rfl
                | ex id => exact absurd rfl (hne id)
              · cases h
            · cases h
          obtain ⟨x, e', bs1, tau', hd, hx, ds, hrv, hbo, rfl⟩ := hfin
          obtain ⟨hl1, hl2⟩ := boxesOut_spec hbo
          refine ⟨⟨g, hg, hname, by rw [hbody]; rfl⟩, by simpa using hl1, ?_, ?_⟩
          · intro y hy
            obtain ⟨i, hi⟩ := List.mem_iff_getElem?.1 hy
            obtain ⟨_, _, _, _, h6⟩ := hl2 i y hi
            exact boxOut_plain h6
          · intro M w vals hw ha
            refine calls_of_wp hg hbody ?_
            refine code_sound ih hT.mixed n c body hcc _ M _ w _ _ _ _ _ _ _ hd ⟨entry_env ha g.ntmps, hw, rfl⟩ hnr fun M' a' w' hs hf _ => ?_
            obtain ⟨v, h1, h2⟩ := results_sound hf hres hrv
            have : bodyPost P g (fun e w' => ∃ v M', e = .returned v ∧ SR M w M' w' ∧ WR M' bs' [] w' ∧ DR M'.imm (resOne ds) v) .normal a' w' :=
              ⟨hf.df, v, h1, v, M'.inner (List.range bs.length) w', rfl, ret_sr hw hs, hf.wr.inner List.nodup_range hbo, h2⟩
            rcases hx with rfl | rfl
            · exact this
            · exact this
      · cases h
end Go.Abs

/- The evaluator without fuel: its limit, and the equations that a proof rewrites with. -/
namespace Go.Abs
open Go

/- MORE FUEL, THE SAME RESULT -/
def Ole (O O' : Orc) : Prop := ∀ f args bs r, O f args bs = some r → O' f args bs = some r

section
variable {O O' : Orc}
theorem evCall_mono (h : Ole O O') {pu : Bool} {f : FuncId} {args : List AV} {bs : List Box} {tau : List Nat} {r : AV × List Box × List Nat} (he : evCall O pu f args bs tau = some r) : evCall O' pu f args bs tau = some r := by
  unfold evCall at he ⊢
  split at he
  · rename_i vs h1
    split at he
    · rename_i x y h2; rw [h _ _ _ _ h2]; exact he
    · cases he
  · rename_i vs ps h1 h2
    split at he
    · cases he
    · rename_i hp
      rw [if_neg hp]
      split at he
      · rename_i xs hx
        split at he
        · rename_i x y h3; rw [h _ _ _ _ h3]; exact he
        · cases he
      · cases he
  · cases he
theorem evR_mono (h : Ole O O') {e : Env} {bs : List Box} {tau : List Nat} {r : Rhs} {x : AV × List Box × List Nat} (he : evR O e bs tau r = some x) : evR O' e bs tau r = some x := by
  cases r <;> try exact he
  case call pu f l => exact evCall_mono h he
  case callv pu y l =>
    simp only [evR] at he ⊢
    split at he
    · exact evCall_mono h he
    · cases he
theorem evG_mono (h : Ole O O') {e : Env} {bs : List Box} {tau : List Nat} {g : Option (Nat × Bool)} {r : Rhs} {x : AV × List Box × List Nat} (he : evG O e bs tau g r = some x) : evG O' e bs tau g r = some x := by
  unfold evG at he ⊢
  split at he
  · exact evR_mono h he
  · split at he
    · split at he
      · rename_i hc; rw [if_pos hc]; exact evR_mono h he
      · rename_i hc; rw [if_neg hc]; exact he
    · exact he
    · cases he
theorem evIs_mono (h : Ole O O') : ∀ {l : List Ins} {e : Env} {bs : List Box} {tau : List Nat} {x : St}, evIs O l e bs tau = some x → evIs O' l e bs tau = some x
  | [], _, _, _, _, he => he
  | i :: l, e, bs, tau, x, he => by
    simp only [evIs] at he ⊢
    split at he
    · rename_i v b t hv
      rw [evG_mono h hv]
      exact evIs_mono h he
    · cases he
theorem bindN_some {r : Res} {k : Env → List Box → List Nat → Res} {x : Ex × Env × List Box × List Nat} (h : bindN r k = some x) : ∃ y, r = some y ∧ bindN (some y) k = some x := by
  cases r with
  | none => cases h
  | some y => exact ⟨y, rfl, h⟩
theorem loopN_mono {f f' : Env → List Box → List Nat → Res} (h : ∀ e bs tau x, f e bs tau = some x → f' e bs tau = some x) : ∀ {n m : Nat}, n ≤ m → ∀ {e : Env} {bs : List Box} {tau : List Nat} {x : Ex × Env × List Box × List Nat}, loopN f n e bs tau = some x → loopN f' m e bs tau = some x
  | 0, m, _, e, bs, tau, x, he => by cases he
  | n + 1, 0, hnm, _, _, _, _, _ => by omega
  | n + 1, m + 1, hnm, e, bs, tau, x, he => by
    simp only [loopN] at he ⊢
    obtain ⟨y, h1, h2⟩ := bindN_some he
    rw [h _ _ _ _ h1]
    obtain ⟨y1, y2, y3, y4⟩ := y
    cases y1 <;> simp only [bindN] at h2 ⊢
    · exact loopN_mono h (by omega) h2
    · exact h2
    · exact h2
theorem den_mono (h : Ole O O') {L L' : Nat} (hL : L ≤ L') : ∀ (c : AC) {e : Env} {bs : List Box} {tau : List Nat} {x : Ex × Env × List Box × List Nat}, den O L c e bs tau = some x → den O' L' c e bs tau = some x
  | .skip, _, _, _, _, he => he
  | .seq a b, e, bs, tau, x, he => by
    simp only [den] at he ⊢
    obtain ⟨y, h1, h2⟩ := bindN_some he
    rw [den_mono h hL a h1]
    obtain ⟨y1, y2, y3, y4⟩ := y
    cases y1 <;> simp only [bindN] at h2 ⊢
    · exact den_mono h hL b h2
    · exact h2
    · exact h2
  | .reg l, e, bs, tau, x, he => by
    simp only [den] at he ⊢
    split at he
    · rename_i e' bs' tau' h1
      rw [evIs_mono h h1]
      exact he
    · cases he
  | .cond c a b, e, bs, tau, x, he => by
    simp only [den] at he ⊢
    split at he
    · split at he
      · rename_i hv; rw [if_pos hv]; exact den_mono h hL a he
      · rename_i hv; rw [if_neg hv]; exact den_mono h hL b he
    · cases he
  | .block id b, e, bs, tau, x, he => by
    simp only [den] at he ⊢
    cases hr : den O L b e bs tau with
    | none => simp [hr, outBlock] at he
    | some y => rw [den_mono h hL b hr]; rw [hr] at he; exact he
  | .loop b, e, bs, tau, x, he => by
    simp only [den] at he ⊢
    exact loopN_mono (fun e bs tau x => den_mono h hL b) hL he
  | .exit _, _, _, _, _, he => he
  | .ret, _, _, _, _, he => he
theorem finish_mono {res : List RV} {n : Nat} {r r' : Res} (h : ∀ x, r = some x → r' = some x) {y : DV × List Box} (he : finish res n r = some y) : finish res n r' = some y := by
  cases r with
  | none => simp [finish] at he
  | some x => rw [h x rfl]; exact he
end
theorem runN_step (T : Tab) : ∀ n, Ole (runN T n) (runN T (n + 1))
  | 0 => fun f args bs r h => by simp [runN] at h
  | n + 1 => fun f args bs r h => by
    have ih := runN_step T n
    simp only [runN] at h ⊢
    cases hp : T.prim f with
    | some p => simp only [hp] at h ⊢; exact h
    | none =>
      simp only [hp] at h ⊢
      cases hf : T.fns f with
      | none => simp [hf] at h
      | some fn =>
        simp only [hf] at h ⊢
        exact finish_mono (fun x => den_mono ih (Nat.le_succ n) fn.body) h
theorem runN_mono (T : Tab) {n m : Nat} (h : n ≤ m) : Ole (runN T n) (runN T m) := by
  induction h with
  | refl => exact fun _ _ _ _ h => h
  | step _ ih => exact fun f args bs r h => runN_step T _ _ _ _ _ (ih _ _ _ _ h)

/- LIMITS -/
open Classical in
noncomputable def Lim {α : Type} (F : Nat → Option α) : Option α := if h : ∃ n r, F n = some r then F (Classical.choose h) else none
theorem Lim_some {α : Type} {F : Nat → Option α} {r : α} (h : Lim F = some r) : ∃ n, F n = some r := by
  unfold Lim at h
  split at h
  · exact ⟨_, h⟩
  · cases h
theorem Lim_of {α : Type} {F : Nat → Option α} (hm : ∀ n m r, n ≤ m → F n = some r → F m = some r) {n : Nat} {r : α} (h : F n = some r) : Lim F = some r := by
  unfold Lim
  have hex : ∃ n r, F n = some r := ⟨n, r, h⟩
  rw [dif_pos hex]
  obtain ⟨r', hr'⟩ := Classical.choose_spec hex
  have h1 := hm _ (max n (Classical.choose hex)) r (Nat.le_max_left _ _) h
  have h2 := hm _ (max n (Classical.choose hex)) r' (Nat.le_max_right _ _) hr'
  rw [h1] at h2
  cases h2
  exact hr'
theorem Lim_ext {α : Type} {F G : Nat → Option α} (hF : ∀ n m r, n ≤ m → F n = some r → F m = some r) (hG : ∀ n m r, n ≤ m → G n = some r → G m = some r) (h : ∀ r, (∃ n, F n = some r) ↔ (∃ n, G n = some r)) : Lim F = Lim G := by
  cases hf : Lim F with
  | some r =>
    obtain ⟨n, hn⟩ := (h r).1 (Lim_some hf)
    exact (Lim_of hG hn).symm
  | none =>
    cases hg : Lim G with
    | none => rfl
    | some r =>
      obtain ⟨n, hn⟩ := (h r).2 (Lim_some hg)
      rw [Lim_of hF hn] at hf
      cases hf

noncomputable def Run (T : Tab) : Orc := fun f args bs => Lim fun n => runN T n f args bs
theorem Run_some {T : Tab} {f : FuncId} {args : List AV} {bs : List Box} {r : DV × List Box} (h : Run T f args bs = some r) : ∃ n, runN T n f args bs = some r := Lim_some h
theorem Run_of {T : Tab} {f : FuncId} {args : List AV} {bs : List Box} {r : DV × List Box} {n : Nat} (h : runN T n f args bs = some r) : Run T f args bs = some r :=
  Lim_of (fun _ _ _ hnm h => runN_mono T hnm _ _ _ _ h) h

/-- The code's meaning: no fuel. -/
noncomputable def Dn (O : Orc) (c : AC) (e : Env) (bs : List Box) (tau : List Nat) : Res := Lim fun L => den O L c e bs tau
theorem den_up {O : Orc} {c : AC} {e : Env} {bs : List Box} {tau : List Nat} : ∀ (n m : Nat) (r : Ex × Env × List Box × List Nat), n ≤ m → den O n c e bs tau = some r → den O m c e bs tau = some r :=
  fun _ _ _ h he => den_mono (fun _ _ _ _ h => h) h c he

/- THE ORACLE IS ASKED A FINITE NUMBER OF TIMES -/
section
variable {T : Tab}
theorem evCall_cont {pu : Bool} {f : FuncId} {args : List AV} {bs : List Box} {tau : List Nat} {r : AV × List Box × List Nat} (he : evCall (Run T) pu f args bs tau = some r) : ∃ n, evCall (runN T n) pu f args bs tau = some r := by
  unfold evCall at he
  split at he
  · rename_i vs h1
    split at he
    · rename_i x y h2
      obtain ⟨n, hn⟩ := Run_some h2
      exact ⟨n, by unfold evCall; rw [h1]; simp only [hn]; exact he⟩
    · cases he
  · rename_i vs ps h1 h2
    split at he
    · cases he
    · rename_i hp
      split at he
      · rename_i xs hx
        split at he
        · rename_i x y h3
          obtain ⟨n, hn⟩ := Run_some h3
          refine ⟨n, ?_⟩
          have : evCall (runN T n) pu f args bs tau = (match boxesOut bs ps with
              | some xs => (match runN T n f vs xs with | some (r, ys) => some (.d r, boxesIn bs ps ys, tau) | none => none)
              | none => none) := by
            unfold evCall
            rw [h2]
            cases ps with
            | nil => exact (h1 rfl).elim
            | cons p ps => simp only [if_neg hp]; rfl
          rw [this, hx]
          simp only [hn]
          exact he
        · cases he
      · cases he
  · cases he
theorem evR_cont {e : Env} {bs : List Box} {tau : List Nat} {r : Rhs} {x : AV × List Box × List Nat} (he : evR (Run T) e bs tau r = some x) : ∃ n, evR (runN T n) e bs tau r = some x := by
  cases r <;> try exact ⟨0, he⟩
  case call pu f l => exact evCall_cont he
  case callv pu y l =>
    simp only [evR] at he ⊢
    split at he
    · exact evCall_cont he
    · cases he
theorem evG_cont {e : Env} {bs : List Box} {tau : List Nat} {g : Option (Nat × Bool)} {r : Rhs} {x : AV × List Box × List Nat} (he : evG (Run T) e bs tau g r = some x) : ∃ n, evG (runN T n) e bs tau g r = some x := by
  unfold evG at he
  split at he
  · obtain ⟨n, hn⟩ := evR_cont he; exact ⟨n, hn⟩
  · rename_i j want
    split at he
    · rename_i b hb
      split at he
      · rename_i hc
        obtain ⟨n, hn⟩ := evR_cont he
        exact ⟨n, by simp only [evG, hb]; rw [if_pos hc]; exact hn⟩
      · rename_i hc
        exact ⟨0, by simp only [evG, hb]; rw [if_neg hc]; exact he⟩
    · rename_i hb
      exact ⟨0, by simp only [evG, hb]; exact he⟩
    · cases he
theorem evIs_cont : ∀ {l : List Ins} {e : Env} {bs : List Box} {tau : List Nat} {x : St}, evIs (Run T) l e bs tau = some x → ∃ n, evIs (runN T n) l e bs tau = some x
  | [], _, _, _, _, he => ⟨0, he⟩
  | i :: l, e, bs, tau, x, he => by
    simp only [evIs] at he
    split at he
    · rename_i v b t hv
      obtain ⟨n, hn⟩ := evG_cont hv
      obtain ⟨m, hm⟩ := evIs_cont he
      refine ⟨max n m, ?_⟩
      simp only [evIs, evG_mono (runN_mono T (Nat.le_max_left n m)) hn]
      exact evIs_mono (runN_mono T (Nat.le_max_right n m)) hm
    · cases he
theorem loopN_cont {f : Env → List Box → List Nat → Res} {F : Nat → Env → List Box → List Nat → Res} (hmono : ∀ n m e bs tau x, n ≤ m → F n e bs tau = some x → F m e bs tau = some x) (h : ∀ e bs tau x, f e bs tau = some x → ∃ n, F n e bs tau = some x) :
    ∀ {L : Nat} {e : Env} {bs : List Box} {tau : List Nat} {x : Ex × Env × List Box × List Nat}, loopN f L e bs tau = some x → ∃ n, loopN (F n) L e bs tau = some x
  | 0, _, _, _, _, he => by cases he
  | L + 1, e, bs, tau, x, he => by
    simp only [loopN] at he
    obtain ⟨y, h1, h2⟩ := bindN_some he
    obtain ⟨n, hn⟩ := h _ _ _ _ h1
    obtain ⟨y1, y2, y3, y4⟩ := y
    cases y1 with
    | nrm =>
      simp only [bindN] at h2
      obtain ⟨m, hm⟩ := loopN_cont hmono h h2
      refine ⟨max n m, ?_⟩
      simp only [loopN, hmono n (max n m) _ _ _ _ (Nat.le_max_left n m) hn, bindN]
      exact loopN_mono (fun e bs tau x => hmono m (max n m) e bs tau x (Nat.le_max_right n m)) (Nat.le_refl _) hm
    | ex id => exact ⟨n, by simp only [loopN, hn]; exact h2⟩
    | rt => exact ⟨n, by simp only [loopN, hn]; exact h2⟩
theorem den_cont {L : Nat} : ∀ (c : AC) {e : Env} {bs : List Box} {tau : List Nat} {x : Ex × Env × List Box × List Nat}, den (Run T) L c e bs tau = some x → ∃ n, den (runN T n) L c e bs tau = some x
  | .skip, _, _, _, _, he => ⟨0, he⟩
  | .seq a b, e, bs, tau, x, he => by
    simp only [den] at he
    obtain ⟨y, h1, h2⟩ := bindN_some he
    obtain ⟨n, hn⟩ := den_cont a h1
    obtain ⟨y1, y2, y3, y4⟩ := y
    cases y1 with
    | nrm =>
      simp only [bindN] at h2
      obtain ⟨m, hm⟩ := den_cont b h2
      refine ⟨max n m, ?_⟩
      simp only [den, den_mono (runN_mono T (Nat.le_max_left n m)) (Nat.le_refl L) a hn, bindN]
      exact den_mono (runN_mono T (Nat.le_max_right n m)) (Nat.le_refl L) b hm
    | ex id => exact ⟨n, by simp only [den, hn]; exact h2⟩
    | rt => exact ⟨n, by simp only [den, hn]; exact h2⟩
  | .reg l, e, bs, tau, x, he => by
    simp only [den] at he
    split at he
    · rename_i e' bs' tau' h1
      obtain ⟨n, hn⟩ := evIs_cont h1
      exact ⟨n, by simp only [den, hn]; exact he⟩
    · cases he
  | .cond c a b, e, bs, tau, x, he => by
    simp only [den] at he
    split at he
    · rename_i v hv
      split at he
      · rename_i hc
        obtain ⟨n, hn⟩ := den_cont a he
        exact ⟨n, by simp only [den, hv]; rw [if_pos hc]; exact hn⟩
      · rename_i hc
        obtain ⟨n, hn⟩ := den_cont b he
        exact ⟨n, by simp only [den, hv]; rw [if_neg hc]; exact hn⟩
    · cases he
  | .block id b, e, bs, tau, x, he => by
    simp only [den] at he
    cases hr : den (Run T) L b e bs tau with
    | none => simp [hr, outBlock] at he
    | some y =>
      obtain ⟨n, hn⟩ := den_cont b hr
      exact ⟨n, by simp only [den, hn]; rw [hr] at he; exact he⟩
  | .loop b, e, bs, tau, x, he => by
    simp only [den] at he
    obtain ⟨n, hn⟩ := loopN_cont (F := fun n => den (runN T n) L b) (fun n m e bs tau x h => den_mono (runN_mono T h) (Nat.le_refl L) b) (fun e bs tau x => den_cont b) he
    exact ⟨n, hn⟩
  | .exit _, _, _, _, _, he => ⟨0, he⟩
  | .ret, _, _, _, _, he => ⟨0, he⟩

theorem Run_fn {f : FuncId} {fn : AFun} (hp : T.prim f = none) (hf : T.fns f = some fn) {args : List AV} {bs : List Box} {r : DV × List Box} (h : finish fn.res bs.length (Dn (Run T) fn.body (entry fn.nt args) bs []) = some r) : Run T f args bs = some r := by
  cases hd : Dn (Run T) fn.body (entry fn.nt args) bs [] with
  | none => rw [hd] at h; simp [finish] at h
  | some x =>
    rw [hd] at h
    obtain ⟨L, hL⟩ := Lim_some hd
    obtain ⟨n, hn⟩ := den_cont fn.body hL
    refine Run_of (n := max n L + 1) ?_
    rw [runN]
    simp only [hp, hf]
    rw [den_mono (runN_mono T (Nat.le_max_left n L)) (Nat.le_max_right n L) fn.body hn]
    exact h
theorem Run_prim {f : FuncId} {p : List AV → List Box → Option (DV × List Box)} (hp : T.prim f = some p) {args : List AV} {bs : List Box} {r : DV × List Box} (h : p args bs = some r) : Run T f args bs = some r :=
  Run_of (n := 1) (by rw [runN]; simp only [hp]; exact h)
end

/- THE EQUATIONS -/
section
variable {O : Orc} {e : Env} {bs : List Box} {tau : List Nat}
@[congr] theorem bindN_congr {r r' : Res} {k : Env → List Box → List Nat → Res} (h : r = r') : bindN r k = bindN r' k := by rw [h]
theorem bindN_nrm {k : Env → List Box → List Nat → Res} : bindN (some (.nrm, e, bs, tau)) k = k e bs tau := rfl
theorem bindN_ex {id : Nat} {k : Env → List Box → List Nat → Res} : bindN (some (.ex id, e, bs, tau)) k = some (.ex id, e, bs, tau) := rfl
theorem bindN_rt {k : Env → List Box → List Nat → Res} : bindN (some (.rt, e, bs, tau)) k = some (.rt, e, bs, tau) := rfl

theorem Dn_skip : Dn O .skip e bs tau = some (.nrm, e, bs, tau) := Lim_of den_up (n := 0) rfl
theorem Dn_exit {id : Nat} : Dn O (.exit id) e bs tau = some (.ex id, e, bs, tau) := Lim_of den_up (n := 0) rfl
theorem Dn_ret : Dn O .ret e bs tau = some (.rt, e, bs, tau) := Lim_of den_up (n := 0) rfl
theorem Dn_seq {a b : AC} : Dn O (.seq a b) e bs tau = bindN (Dn O a e bs tau) fun e bs tau => Dn O b e bs tau := by
  have key : ∀ r, (∃ n, den O n (.seq a b) e bs tau = some r) ↔ bindN (Dn O a e bs tau) (fun e bs tau => Dn O b e bs tau) = some r := by
    intro r
    constructor
    · rintro ⟨n, hn⟩
      simp only [den] at hn
      obtain ⟨y, h1, h2⟩ := bindN_some hn
      rw [show Dn O a e bs tau = some y from Lim_of den_up h1]
      obtain ⟨y1, y2, y3, y4⟩ := y
      cases y1 <;> simp only [bindN] at h2 ⊢
      · exact Lim_of den_up h2
      · exact h2
      · exact h2
    · intro h
      obtain ⟨y, h1, h2⟩ := bindN_some h
      obtain ⟨n, hn⟩ := Lim_some h1
      obtain ⟨y1, y2, y3, y4⟩ := y
      cases y1 with
      | nrm =>
        simp only [bindN] at h2
        obtain ⟨m, hm⟩ := Lim_some h2
        refine ⟨max n m, ?_⟩
        simp only [den, den_up n (max n m) _ (Nat.le_max_left n m) hn, bindN]
        exact den_up m (max n m) _ (Nat.le_max_right n m) hm
      | ex id => exact ⟨n, by simp only [den, hn]; exact h2⟩
      | rt => exact ⟨n, by simp only [den, hn]; exact h2⟩
  cases h : bindN (Dn O a e bs tau) (fun e bs tau => Dn O b e bs tau) with
  | some r =>
    obtain ⟨n, hn⟩ := (key r).2 h
    exact Lim_of den_up hn
  | none =>
    cases h' : Dn O (.seq a b) e bs tau with
    | none => rfl
    | some r => rw [(key r).1 (Lim_some h')] at h; cases h
theorem Dn_const {c : AC} {r : Res} (h : ∀ n, den O n c e bs tau = r) : Dn O c e bs tau = r := by
  cases hr : r with
  | some x => exact Lim_of den_up (n := 0) ((h 0).trans hr)
  | none =>
    cases h' : Dn O c e bs tau with
    | none => rfl
    | some x =>
      obtain ⟨n, hn⟩ := Lim_some h'
      rw [h n, hr] at hn
      cases hn

/-- What a region leaves. -/
def regK (s : Option St) : Res := match s with | some (e, bs, tau) => some (.nrm, e, bs, tau) | none => none
theorem regK_some : regK (some (e, bs, tau)) = some (.nrm, e, bs, tau) := rfl
theorem Dn_reg {l : List Ins} : Dn O (.reg l) e bs tau = regK (evIs O l e bs tau) := Dn_const fun n => by
  simp only [den]
  rfl

def condK (x : AV) (a b : Res) : Res := match x with | .d (.bool v) => if v then a else b | _ => none
@[congr] theorem condK_congr {x x' : AV} {a b : Res} (h : x = x') : condK x a b = condK x' a b := by rw [h]
theorem condK_true {a b : Res} : condK (.d (.bool true)) a b = a := rfl
theorem condK_false {a b : Res} : condK (.d (.bool false)) a b = b := rfl
theorem Dn_cond {c : Opd} {a b : AC} : Dn O (.cond c a b) e bs tau = condK (c.ev e) (Dn O a e bs tau) (Dn O b e bs tau) := by
  unfold condK
  split
  · rename_i v hv
    cases v with
    | true =>
      simp only [if_true]
      exact Lim_ext den_up den_up fun r => by simp only [den, hv, if_true]
    | false =>
      simp only [Bool.false_eq_true, if_false]
      exact Lim_ext den_up den_up fun r => by simp only [den, hv, Bool.false_eq_true, if_false]
  · rename_i hne
    exact Dn_const fun n => by
      simp only [den]
theorem Dn_block {id : Nat} {b : AC} : Dn O (.block id b) e bs tau = outBlock id (Dn O b e bs tau) := by
  have key : ∀ r, (∃ n, den O n (.block id b) e bs tau = some r) ↔ outBlock id (Dn O b e bs tau) = some r := by
    intro r
    constructor
    · rintro ⟨n, hn⟩
      simp only [den] at hn
      cases hr : den O n b e bs tau with
      | none => simp [hr, outBlock] at hn
      | some y => rw [show Dn O b e bs tau = some y from Lim_of den_up hr]; rw [hr] at hn; exact hn
    · intro h
      cases hr : Dn O b e bs tau with
      | none => simp [hr, outBlock] at h
      | some y =>
        obtain ⟨n, hn⟩ := Lim_some hr
        exact ⟨n, by simp only [den, hn]; rw [hr] at h; exact h⟩
  cases h : outBlock id (Dn O b e bs tau) with
  | some r =>
    obtain ⟨n, hn⟩ := (key r).2 h
    exact Lim_of den_up hn
  | none =>
    cases h' : Dn O (.block id b) e bs tau with
    | none => rfl
    | some r => rw [(key r).1 (Lim_some h')] at h; cases h
theorem outBlock_nrm {id : Nat} : outBlock id (some (.nrm, e, bs, tau)) = some (.nrm, e, bs, tau) := rfl
theorem outBlock_rt {id : Nat} : outBlock id (some (.rt, e, bs, tau)) = some (.rt, e, bs, tau) := rfl
theorem outBlock_ex {id id' : Nat} : outBlock id (some (.ex id', e, bs, tau)) = if id' = id then some (.nrm, e, bs, tau) else some (.ex id', e, bs, tau) := rfl
theorem Dn_loop {b : AC} : Dn O (.loop b) e bs tau = bindN (Dn O b e bs tau) fun e' bs' tau' => Dn O (.loop b) (clrE bs.length e') (bs'.take bs.length) tau' := by
  have up : ∀ n m, n ≤ m → ∀ e bs tau x, den O n b e bs tau = some x → den O m b e bs tau = some x := fun n m h e bs tau x => den_up n m x h
  have key : ∀ r, (∃ n, den O n (.loop b) e bs tau = some r) ↔ bindN (Dn O b e bs tau) (fun e' bs' tau' => Dn O (.loop b) (clrE bs.length e') (bs'.take bs.length) tau') = some r := by
    intro r
    constructor
    · rintro ⟨n, hn⟩
      simp only [den] at hn
      cases n with
      | zero => cases hn
      | succ n =>
        simp only [loopN] at hn
        obtain ⟨y, h1, h2⟩ := bindN_some hn
        rw [show Dn O b e bs tau = some y from Lim_of den_up h1]
        obtain ⟨y1, y2, y3, y4⟩ := y
        cases y1 <;> simp only [bindN] at h2 ⊢
        · refine Lim_of den_up (n := n + 1) ?_
          simp only [den]
          exact loopN_mono (fun _ _ _ _ h => h) (Nat.le_succ n) h2
        · exact h2
        · exact h2
    · intro h
      obtain ⟨y, h1, h2⟩ := bindN_some h
      obtain ⟨n, hn⟩ := Lim_some h1
      obtain ⟨y1, y2, y3, y4⟩ := y
      cases y1 with
      | nrm =>
        simp only [bindN] at h2
        obtain ⟨m, hm⟩ := Lim_some h2
        refine ⟨max n m + 1, ?_⟩
        simp only [den] at hm ⊢
        simp only [loopN, den_up n (max n m + 1) _ (by omega) hn, bindN]
        exact loopN_mono (up m (max n m + 1) (by omega)) (Nat.le_max_right n m) hm
      | ex id => exact ⟨n + 1, by simp only [den, loopN, den_up n (n + 1) _ (by omega) hn]; exact h2⟩
      | rt => exact ⟨n + 1, by simp only [den, loopN, den_up n (n + 1) _ (by omega) hn]; exact h2⟩
  cases h : bindN (Dn O b e bs tau) (fun e' bs' tau' => Dn O (.loop b) (clrE bs.length e') (bs'.take bs.length) tau') with
  | some r =>
    obtain ⟨n, hn⟩ := (key r).2 h
    exact Lim_of den_up hn
  | none =>
    cases h' : Dn O (.loop b) e bs tau with
    | none => rfl
    | some r => rw [(key r).1 (Lim_some h')] at h; cases h

/-- One instruction, then the rest. -/
def insK (r : Option (AV × List Box × List Nat)) (k : AV → List Box → List Nat → Option St) : Option St := match r with | some (v, bs, tau) => k v bs tau | none => none
@[congr] theorem insK_congr {r r' : Option (AV × List Box × List Nat)} {k : AV → List Box → List Nat → Option St} (h : r = r') : insK r k = insK r' k := by rw [h]
theorem insK_some {v : AV} {k : AV → List Box → List Nat → Option St} : insK (some (v, bs, tau)) k = k v bs tau := rfl
theorem evIs_nil : evIs O [] e bs tau = some (e, bs, tau) := rfl
theorem evIs_ins {d : Option Nat} {g : Option (Nat × Bool)} {r : Rhs} {l : List Ins} : evIs O (⟨d, g, r⟩ :: l) e bs tau = insK (evG O e bs tau g r) fun v bs tau => evIs O l (putE e d v) bs tau := by
  simp only [evIs]
  rfl
theorem evG_none {r : Rhs} : evG O e bs tau none r = evR O e bs tau r := rfl
end
end Go.Abs
