/- Part PkC of the proof: AbsR AbsS AbsT AbsU AbsV AbsW AbsX. -/
import Derived.Test.YtinebfdbacaahaaGreatDoorPkB
import Derived.Test.YtinebfdbacaahaaGreatDoorPkA
import Derived.Lib.Bytealg
import Derived.Lib.Strings
import Derived.Lib.IndexMore
import Derived.Lib.Join
import Derived.IntWalk
set_option linter.unusedSimpArgs false
set_option linter.unusedVariables false
set_option linter.unusedSectionVars false
set_option linter.unnecessarySimpa false

/- A second form of the code: values are pushed, moves are gone, at each join only what lives is kept. Its translation is proved sound. -/
namespace Go.Abs
open Go

structure BIns where
  g : Option (Nat × Bool)
  r : Rhs
  deriving Repr, Inhabited

inductive BC where
  | skip
  | seq (a b : BC)
  | ins (l : List BIns)
  | cond (c : Opd) (a b : BC)
  | block (id : Nat) (b : BC)
  | loop (b : BC)
  | exit (id : Nat) (l : List Opd)
  | ret (l : List Opd)
  | foc (l : List Opd)
  deriving Repr, Inhabited

structure BFun where
  res : List RV
  body : BC
  deriving Repr, Inhabited

def evB (O : Orc) : List BIns → Env → List Box → List Nat → Option St
  | [], e, bs, tau => some (e, bs, tau)
  | i :: l, e, bs, tau =>
    match evG O e bs tau i.g i.r with
    | some (v, bs, tau) => evB O l (e ++ [v]) bs tau
    | none => none

def denB (O : Orc) (L : Nat) : BC → Env → List Box → List Nat → Res
  | .skip, e, bs, tau => some (.nrm, e, bs, tau)
  | .seq a b, e, bs, tau => bindN (denB O L a e bs tau) fun e bs tau => denB O L b e bs tau
  | .ins l, e, bs, tau => match evB O l e bs tau with | some (e, bs, tau) => some (.nrm, e, bs, tau) | none => none
  | .cond c a b, e, bs, tau => match c.ev e with | .d (.bool v) => if v then denB O L a e bs tau else denB O L b e bs tau | _ => none
  | .block id b, e, bs, tau => outBlock id (denB O L b e bs tau)
  | .loop b, e, bs, tau => loopN (denB O L b) L e bs tau
  | .exit id l, e, bs, tau => some (.ex id, evL e l, bs, tau)
  | .ret l, e, bs, tau => some (.rt, evL e l, bs, tau)
  | .foc l, e, bs, tau => some (.nrm, evL e l, bs, tau)

/- THE TRANSLATION -/
abbrev Sig := List (Nat × Opd)
def look {α : Type} : List (Nat × α) → Nat → Option α
  | [], _ => none
  | (j, x) :: l, i => if j = i then some x else look l i

def mapO (s : Sig) : Opd → Option Opd
  | .t i => look s i
  | x => some x
def mapD (s : Sig) (x : Opd) : Opd := (mapO s x).getD x

def Rhs.map (f : Opd → Opd) : Rhs → Rhs
  | .mv x => .mv (f x)
  | .pick c a b => .pick (f c) (f a) (f b)
  | .alloc zs => .alloc zs
  | .allocB => .allocB
  | .box n x => .box n (f x)
  | .build z ps => .build z (ps.map fun p => (p.1, p.2.1, f p.2.2))
  | .mks own sz n z ps => .mks own sz n z (ps.map fun p => (p.1, f p.2))
  | .ld g n a => .ld g n (f a)
  | .st n a x => .st n (f a) (f x)
  | .nck x => .nck (f x)
  | .bin op x y => .bin op (f x) (f y)
  | .binb op x y => .binb op (f x) (f y)
  | .not x => .not (f x)
  | .neg x => .neg (f x)
  | .conv c x => .conv c (f x)
  | .sls x lo hi => .sls (f x) (lo.map f) (hi.map f)
  | .slc sz x lo hi => .slc sz (f x) (lo.map f) (hi.map f)
  | .fad x o => .fad (f x) o
  | .fld g o n x => .fld g o n (f x)
  | .iad sz x i => .iad sz (f x) (f i)
  | .iaa n sz x i => .iaa n sz (f x) (f i)
  | .ixs x i => .ixs (f x) (f i)
  | .len x => .len (f x)
  | .lenS x => .lenS (f x)
  | .app e sz x y => .app e sz (f x) (f y)
  | .mn x y => .mn (f x) (f y)
  | .mx x y => .mx (f x) (f y)
  | .call p g l => .call p g (l.map f)
  | .callv p x l => .callv p (f x) (l.map f)
  | .mkf g l => .mkf g (l.map f)
  | .ext x i => .ext (f x) i
  | .u1 g x => .u1 g (f x)
  | .u2 g x y => .u2 g (f x) (f y)
  | .mif t x => .mif t (f x)

def mapG (s : Sig) : Option (Nat × Bool) → Option (Option (Nat × Bool))
  | none => some none
  | some (j, w) => match look s j with | some (.t k) => some (some (k, w)) | _ => none

def dstOk (nt : Nat) : Option Nat → Bool
  | some d => decide (d < nt)
  | none => true
def push (d : Option Nat) (y : Opd) (s : Sig) : Sig :=
  match d with
  | some d => (d, y) :: s
  | none => s

/-- A move without a guard: what is moved. -/
def isMv : Ins → Option Opd
  | ⟨_, none, .mv x⟩ => some x
  | _ => none

def trIns (nt : Nat) : List Ins → Sig → Nat → Option (List BIns × Sig × Nat)
  | [], s, n => some ([], s, n)
  | i :: l, s, n =>
    if dstOk nt i.dst then
      match isMv i with
      | some x => (match mapO s x with | some y => trIns nt l (push i.dst y s) n | none => none)
      | none =>
        if i.r.opds.all (fun x => (mapO s x).isSome) then
          match mapG s i.g, trIns nt l (push i.dst (.t n) s) (n + 1) with
          | some g, some (l', s', n') => some (⟨g, i.r.map (mapD s)⟩ :: l', s', n')
          | _, _ => none
        else none
    else none

/- What lives. -/
def addR (s : Nat) : List Nat → Nat
  | [] => s
  | i :: l => addR (s ||| 2 ^ i) l
def lvIns : List Ins → Nat → Nat
  | [], o => o
  | i :: l, o => let o := lvIns l o; addR (match i.dst with | some d => if o.testBit d then o - 2 ^ d else o | none => o) i.reads
def lv (rs : Nat) : List (Nat × Nat) → AC → Nat → Nat
  | _, .skip, o => o
  | ex, .seq a b, o => lv rs ex a (lv rs ex b o)
  | _, .reg l, o => lvIns l o
  | ex, .cond c a b, o => addR (lv rs ex a o ||| lv rs ex b o) c.reads
  | ex, .block id b, o => lv rs ((id, o) :: ex) b o
  | ex, .loop b, _ => lv rs ex b 0
  | ex, .exit id, _ => (look ex id).getD 0
  | _, .ret, _ => rs
def bits (nt : Nat) (s : Nat) : List Nat := (List.range nt).filter fun i => s.testBit i

def canS : Nat → List Nat → Sig
  | _, [] => []
  | k, i :: l => (i, .t k) :: canS (k + 1) l
def mapL (s : Sig) : List Nat → Option (List Opd)
  | [] => some []
  | i :: l => match look s i, mapL s l with | some x, some xs => some (x :: xs) | _, _ => none

abbrev SN := Option (Sig × Nat)
/-- Behind a piece of code: only what lives is kept. -/
def focB (l : List Nat) (c : BC) : SN → Option BC
  | none => some c
  | some (s, _) => match mapL s l with | some x => some (.seq c (.foc x)) | none => none

structure TrC where
  nt : Nat
  rs : List Nat

def tr (C : TrC) (ex : List (Nat × Nat)) (out : Nat) : AC → Sig → Nat → Option (BC × SN)
  | .skip, s, n => some (.skip, some (s, n))
  | .seq a b, s, n =>
    match tr C ex (lv (addR 0 C.rs) ex b out) a s n with
    | some (a', some (s, n)) => (match tr C ex out b s n with | some (b', r) => some (.seq a' b', r) | none => none)
    | some (a', none) => some (a', none)
    | none => none
  | .reg l, s, n => (match trIns C.nt l s n with | some (l', s, n) => some (.ins l', some (s, n)) | none => none)
  | .cond c a b, s, n =>
    match mapO s c, tr C ex out a s n, tr C ex out b s n with
    | some c', some (a', some x), some (b', some y) =>
      (match focB (bits C.nt out) a' (some x), focB (bits C.nt out) b' (some y) with
       | some a', some b' => some (.cond c' a' b', some (canS 0 (bits C.nt out), (bits C.nt out).length))
       | _, _ => none)
    | some c', some (a', none), some (b', y) => some (.cond c' a' b', y)
    | some c', some (a', some x), some (b', none) => some (.cond c' a' b', some x)
    | _, _, _ => none
  | .block id b, s, n =>
    match tr C ((id, out) :: ex) out b s n with
    | some (b', x) =>
      (match focB (bits C.nt out) b' x with
       | some b' => some (.block id b', some (canS 0 (bits C.nt out), (bits C.nt out).length))
       | none => none)
    | none => none
  | .loop b, s, _ =>
    let h := lv (addR 0 C.rs) ex b 0
    match mapL s (bits C.nt h), tr C ex h b (canS 0 (bits C.nt h)) (bits C.nt h).length with
    | some l, some (b', x) => (match focB (bits C.nt h) b' x with | some b' => some (.seq (.foc l) (.loop b'), none) | none => none)
    | _, _ => none
  | .exit id, s, _ =>
    match look ex id with
    | some o => (match mapL s (bits C.nt o) with | some l => some (.exit id l, none) | none => none)
    | none => none
  | .ret, s, _ => (match mapL s C.rs with | some l => some (.ret l, none) | none => none)

def resAt : Nat → List RV → List RV
  | _, [] => []
  | k, .t _ :: l => .t k :: resAt (k + 1) l
  | k, .cell _ a n :: l => .cell k a n :: resAt (k + 1) l
def RV.temp : RV → Nat
  | .t i => i
  | .cell i _ _ => i

def trFun (np : Nat) (fn : AFun) : Option BFun :=
  let C : TrC := ⟨fn.nt, fn.res.map RV.temp⟩
  if np ≤ fn.nt then
    match tr C [] (addR 0 C.rs) fn.body (canS 0 (List.range np)) np with
    | some (b, some (s, _)) => (match mapL s C.rs with | some l => some ⟨resAt 0 fn.res, .seq b (.ret l)⟩ | none => none)
    | some (b, none) => some ⟨resAt 0 fn.res, b⟩
    | none => none
  else none

/- ITS SOUNDNESS -/
def Opd.bnd (n : Nat) : Opd → Prop
  | .t k => k < n
  | _ => True
structure RelS (nt : Nat) (s : Sig) (n : Nat) (e e' : Env) : Prop where
  len : e.length = nt
  len' : e'.length = n
  val : ∀ i x, look s i = some x → x.bnd n ∧ getE e i = x.ev e'

theorem getE_app_lt {v : AV} : ∀ {e : Env} {k : Nat}, k < e.length → getE (e ++ [v]) k = getE e k
  | [], k, h => by simp at h
  | x :: l, 0, _ => rfl
  | x :: l, k + 1, h => by
    simp only [List.length_cons, Nat.add_lt_add_iff_right] at h
    simp only [List.cons_append, getE]
    exact getE_app_lt h
theorem getE_app_eq {v : AV} : ∀ {e : Env}, getE (e ++ [v]) e.length = v
  | [] => rfl
  | x :: l => by
    simp only [List.cons_append, List.length_cons, getE]
    exact getE_app_eq
theorem setE_len {v : AV} : ∀ {e : Env} {k : Nat}, (setE e k v).length = e.length
  | [], k => by cases k <;> rfl
  | x :: l, 0 => rfl
  | x :: l, k + 1 => by simp only [setE, List.length_cons, setE_len]
theorem getE_set_eq {v : AV} : ∀ {e : Env} {k : Nat}, k < e.length → getE (setE e k v) k = v
  | [], k, h => by simp at h
  | x :: l, 0, _ => rfl
  | x :: l, k + 1, h => by
    simp only [List.length_cons, Nat.add_lt_add_iff_right] at h
    simp only [setE, getE]
    exact getE_set_eq h
theorem getE_set_ne {v : AV} : ∀ {e : Env} {k j : Nat}, k ≠ j → getE (setE e k v) j = getE e j
  | [], k, j, _ => by cases k <;> rfl
  | x :: l, 0, 0, h => (h rfl).elim
  | x :: l, 0, j + 1, _ => rfl
  | x :: l, k + 1, 0, _ => rfl
  | x :: l, k + 1, j + 1, h => by
    simp only [setE, getE]
    exact getE_set_ne (by omega)
theorem ev_app {v : AV} {e : Env} {x : Opd} (h : x.bnd e.length) : x.ev (e ++ [v]) = x.ev e := by
  cases x with
  | t k => exact getE_app_lt h
  | d => rfl
  | fn => rfl

section
variable {nt n : Nat} {s : Sig} {e e' : Env} {bs : List Box} {tau : List Nat} {O : Orc}

theorem mapO_ev (h : RelS nt s n e e') {x y : Opd} (hm : mapO s x = some y) : y.bnd n ∧ x.ev e = y.ev e' := by
  cases x with
  | t i => exact h.val _ _ hm
  | d v => cases hm; exact ⟨trivial, rfl⟩
  | fn f => cases hm; exact ⟨trivial, rfl⟩
theorem mapD_ev (h : RelS nt s n e e') {x : Opd} (hm : (mapO s x).isSome = true) : x.ev e = (mapD s x).ev e' := by
  obtain ⟨y, hy⟩ := Option.isSome_iff_exists.1 hm
  rw [mapD, hy]
  exact (mapO_ev h hy).2

theorem RelS.alias (h : RelS nt s n e e') {d : Option Nat} {y : Opd} {v : AV} (hd : dstOk nt d = true) (hy : y.bnd n) (hv : v = y.ev e') : RelS nt (push d y s) n (putE e d v) e' := by
  cases d with
  | none => exact h
  | some d =>
    simp only [dstOk, decide_eq_true_eq] at hd
    refine ⟨by simp only [putE, setE_len, h.len], h.len', fun i x hx => ?_⟩
    simp only [push, look] at hx
    split at hx
    · rename_i hdi
      cases hx
      subst hdi
      exact ⟨hy, by simp only [putE]; rw [getE_set_eq (by rw [h.len]; exact hd), hv]⟩
    · rename_i hdi
      simp only [putE]
      rw [getE_set_ne hdi]
      exact h.val i x hx
theorem RelS.grow (h : RelS nt s n e e') {v : AV} : RelS nt s (n + 1) e (e' ++ [v]) := by
  refine ⟨h.len, by simp [h.len'], fun i x hx => ?_⟩
  obtain ⟨h1, h2⟩ := h.val i x hx
  refine ⟨?_, ?_⟩
  · cases x with
    | t k => exact Nat.lt_succ_of_lt h1
    | d => trivial
    | fn => trivial
  · rw [ev_app (by rw [h.len']; exact h1)]
    exact h2

theorem evL_map {f : Opd → Opd} : ∀ {l : List Opd}, (∀ x ∈ l, x.ev e = (f x).ev e') → evL e' (l.map f) = evL e l
  | [], _ => rfl
  | x :: l, h => by
    simp only [List.map_cons, evL]
    rw [h x (by simp), evL_map fun y hy => h y (by simp [hy])]
theorem fillD_map {f : Opd → Opd} : ∀ {ps : List (Nat × Nat × Opd)} {cs : List DV}, (∀ x ∈ ps.map (·.2.2), x.ev e = (f x).ev e') → fillD e' cs (ps.map fun p => (p.1, p.2.1, f p.2.2)) = fillD e cs ps
  | [], _, _ => rfl
  | (o, k, x) :: ps, cs, h => by
    simp only [List.map_cons, fillD]
    rw [h x (by simp)]
    split
    · split
      · exact fillD_map fun y hy => h y (by simp only [List.map_cons, List.mem_cons]; exact Or.inr hy)
      · rfl
    · rfl
theorem fillE_map {f : Opd → Opd} {sz : Nat} : ∀ {ps : List (Nat × Opd)} {cs : List DV}, (∀ x ∈ ps.map (·.2), x.ev e = (f x).ev e') → fillE e' sz cs (ps.map fun p => (p.1, f p.2)) = fillE e sz cs ps
  | [], _, _ => rfl
  | (o, x) :: ps, cs, h => by
    simp only [List.map_cons, fillE]
    rw [h x (by simp)]
    split
    · split
      · exact fillE_map fun y hy => h y (by simp only [List.map_cons, List.mem_cons]; exact Or.inr hy)
      · rfl
    · rfl
theorem bound_map {f : Opd → Opd} {k : Nat} {o : Option Opd} (h : ∀ x ∈ o.toList, x.ev e = (f x).ev e') : bound e' k (o.map f) = bound e k o := by
  cases o with
  | none => rfl
  | some x => simp only [Option.map_some, bound]; rw [h x (by simp)]

theorem evR_map {f : Opd → Opd} {r : Rhs} (h : ∀ x ∈ r.opds, x.ev e = (f x).ev e') : evR O e' bs tau (r.map f) = evR O e bs tau r := by
  cases r <;> simp only [Rhs.map, evR, Rhs.opds, List.mem_cons, List.not_mem_nil, or_false, forall_eq_or_imp, forall_eq, List.mem_append] at h ⊢
  case build z ps => rw [fillD_map h]
  case mks own sz n z ps => rw [fillE_map h]
  case sls x lo hi => 
    rw [← h.1]
    rw [bound_map (fun x hx => h.2 x (Or.inl hx))]
    split
    · rw [bound_map (fun x hx => h.2 x (Or.inr hx))]
    · rfl
  case slc sz x lo hi =>
    rw [← h.1]
    rw [bound_map (fun x hx => h.2 x (Or.inl hx))]
    split
    · rw [bound_map (fun x hx => h.2 x (Or.inr hx))]
    · rfl
  case call p g l => rw [evL_map h]
  case callv p x l => rw [← h.1, evL_map h.2]
  case mkf g l => rw [evL_map h]
  all_goals first | rfl | rw [← h] | rw [← h.1, ← h.2] | rw [← h.1, ← h.2.1, ← h.2.2]

theorem mapG_ev (h : RelS nt s n e e') {g g' : Option (Nat × Bool)} (hg : mapG s g = some g') {r r' : Rhs} (hr : evR O e' bs tau r' = evR O e bs tau r) : evG O e' bs tau g' r' = evG O e bs tau g r := by
  cases g with
  | none => cases hg; exact hr
  | some p =>
    obtain ⟨j, w⟩ := p
    simp only [mapG] at hg
    split at hg
    · rename_i k hk
      cases hg
      have := (h.val j _ hk).2
      simp only [Opd.ev] at this
      simp only [evG, this, hr]
    · cases hg

theorem isMv_eq {i : Ins} {x : Opd} (h : isMv i = some x) : i.g = none ∧ i.r = .mv x := by
  unfold isMv at h
  split at h
  · cases h; exact ⟨rfl, rfl⟩
  · cases h

theorem trIns_sound : ∀ {l : List Ins} {s : Sig} {n : Nat} {l' : List BIns} {s' : Sig} {n' : Nat} {e e' : Env} {bs : List Box} {tau : List Nat} {e2' : Env} {bs2 : List Box} {tau2 : List Nat}, trIns nt l s n = some (l', s', n') → RelS nt s n e e' →
    evB O l' e' bs tau = some (e2', bs2, tau2) → ∃ e2, evIs O l e bs tau = some (e2, bs2, tau2) ∧ RelS nt s' n' e2 e2'
  | [], s, n, l', s', n', e, e', bs, tau, e2', bs2, tau2, ht, hr, he => by
    cases ht
    cases he
    exact ⟨e, rfl, hr⟩
  | i :: l, s, n, l', s', n', e, e', bs, tau, e2', bs2, tau2, ht, hr, he => by
    unfold trIns at ht
    split at ht
    · rename_i hd
      split at ht
      · rename_i x hx
        split at ht
        · rename_i y hy
          obtain ⟨h1, h2⟩ := isMv_eq hx
          obtain ⟨h3, h4⟩ := mapO_ev hr hy
          obtain ⟨e2, h5, h6⟩ := trIns_sound ht (hr.alias hd h3 h4) he
          refine ⟨e2, ?_, h6⟩
          simp only [evIs, h1, h2, evG, evR]
          exact h5
        · cases ht
      · split at ht
        · rename_i hall
          split at ht
          · rename_i g l1 s1 n1 hg hl
            cases ht
            simp only [evB] at he
            have hR : evR O e' bs tau (i.r.map (mapD s)) = evR O e bs tau i.r := evR_map fun x hx => mapD_ev hr (List.all_eq_true.1 hall x hx)
            rw [mapG_ev hr hg hR] at he
            split at he
            · rename_i v b t hv
              have hlen := hr.len'
              have hr2 : RelS nt (push i.dst (.t n) s) (n + 1) (putE e i.dst v) (e' ++ [v]) :=
                hr.grow.alias hd (Nat.lt_succ_self n) (by simp only [Opd.ev]; rw [← hlen, getE_app_eq])
              obtain ⟨e2, h5, h6⟩ := trIns_sound hl hr2 he
              refine ⟨e2, ?_, h6⟩
              simp only [evIs, hv]
              exact h5
            · cases he
          · cases ht
        · cases ht
    · cases ht

theorem canS_look : ∀ {l : List Nat} {k i : Nat} {x : Opd}, look (canS k l) i = some x → ∃ j, x = .t (k + j) ∧ l[j]? = some i
  | [], k, i, x, h => by cases h
  | a :: l, k, i, x, h => by
    simp only [canS, look] at h
    split at h
    · rename_i hai
      cases h
      exact ⟨0, rfl, by simp [hai]⟩
    · obtain ⟨j, h1, h2⟩ := canS_look h
      exact ⟨j + 1, by rw [h1]; congr 1; omega, by simpa using h2⟩
theorem getE_map {e : Env} : ∀ {l : List Nat} {j i : Nat}, l[j]? = some i → getE (l.map (getE e)) j = getE e i
  | [], j, i, h => by simp at h
  | a :: l, 0, i, h => by simp at h; subst h; rfl
  | a :: l, j + 1, i, h => by
    simp only [List.getElem?_cons_succ] at h
    simp only [List.map_cons, getE]
    exact getE_map h
theorem canS_rel {l : List Nat} (h : e.length = nt) : RelS nt (canS 0 l) l.length e (l.map (getE e)) := by
  refine ⟨h, by simp, fun i x hx => ?_⟩
  obtain ⟨j, rfl, h2⟩ := canS_look hx
  rw [Nat.zero_add]
  refine ⟨?_, ?_⟩
  · exact (List.getElem?_eq_some_iff.1 h2).1
  · simp only [Opd.ev]
    rw [getE_map h2]
theorem mapL_ev (h : RelS nt s n e e') : ∀ {l : List Nat} {x : List Opd}, mapL s l = some x → evL e' x = l.map (getE e)
  | [], x, hx => by cases hx; rfl
  | i :: l, x, hx => by
    simp only [mapL] at hx
    split at hx
    · rename_i y ys h1 h2
      cases hx
      simp only [evL, List.map_cons]
      rw [mapL_ev h h2, (h.val _ _ h1).2]
    · cases hx
theorem getE_clr {k : Nat} : ∀ {e : Env} {i : Nat}, getE (clrE k e) i = clr k (getE e i)
  | [], i => rfl
  | x :: l, 0 => rfl
  | x :: l, i + 1 => by simp only [clrE, getE]; exact getE_clr
theorem clrE_len {k : Nat} : ∀ {e : Env}, (clrE k e).length = e.length
  | [] => rfl
  | x :: l => by simp only [clrE, List.length_cons, clrE_len]
theorem clrE_map {k : Nat} {e : Env} : ∀ {l : List Nat}, clrE k (l.map (getE e)) = l.map (getE (clrE k e))
  | [] => rfl
  | i :: l => by simp only [List.map_cons, clrE, clrE_map, getE_clr]

/-- What a piece of code leaves. -/
def Post (C : TrC) (ex : List (Nat × Nat)) (r : SN) (e e' : Env) : Ex → Prop
  | .nrm => ∃ s n, r = some (s, n) ∧ RelS C.nt s n e e'
  | .ex id => ∃ o, look ex id = some o ∧ e.length = C.nt ∧ e' = (bits C.nt o).map (getE e)
  | .rt => e.length = C.nt ∧ e' = C.rs.map (getE e)

/-- The claim about a piece of code. -/
def TrOk (C : TrC) (O : Orc) (L : Nat) (ex : List (Nat × Nat)) (c : AC) (c' : BC) (s : Sig) (n : Nat) (r : SN) : Prop :=
  ∀ e e' bs tau x e2' bs2 tau2, RelS C.nt s n e e' → denB O L c' e' bs tau = some (x, e2', bs2, tau2) → ∃ e2, den O L c e bs tau = some (x, e2, bs2, tau2) ∧ Post C ex r e2 e2' x

def PostF (C : TrC) (ex : List (Nat × Nat)) (l : List Nat) (r : SN) (e e' : Env) : Ex → Prop
  | .nrm => e.length = C.nt ∧ e' = l.map (getE e)
  | .ex id => Post C ex r e e' (.ex id)
  | .rt => Post C ex r e e' .rt
theorem focB_ok {C : TrC} {L : Nat} {ex : List (Nat × Nat)} {c : AC} {c1 c2 : BC} {r : SN} {l : List Nat} (h : TrOk C O L ex c c1 s n r) (hf : focB l c1 r = some c2) :
    ∀ e e' bs tau x e2' bs2 tau2, RelS C.nt s n e e' → denB O L c2 e' bs tau = some (x, e2', bs2, tau2) → ∃ e2, den O L c e bs tau = some (x, e2, bs2, tau2) ∧ PostF C ex l r e2 e2' x := by
  intro e e' bs tau x e2' bs2 tau2 hr hd
  cases r with
  | none =>
    cases hf
    obtain ⟨e2, h1, h2⟩ := h e e' bs tau x e2' bs2 tau2 hr hd
    refine ⟨e2, h1, ?_⟩
    cases x with
    | nrm => obtain ⟨_, _, h3, _⟩ := h2; cases h3
    | ex id => exact h2
    | rt => exact h2
  | some p =>
    obtain ⟨s1, n1⟩ := p
    simp only [focB] at hf
    split at hf
    · rename_i xs hxs
      cases hf
      simp only [denB] at hd
      obtain ⟨y, h1, h2⟩ := bindN_some hd
      obtain ⟨y1, y2, y3, y4⟩ := y
      obtain ⟨e2, h3, h4⟩ := h e e' bs tau _ _ _ _ hr h1
      cases y1 with
      | nrm =>
        simp only [bindN] at h2
        cases h2
        obtain ⟨s2, n2, h5, h6⟩ := h4
        cases h5
        exact ⟨e2, h3, h6.len, mapL_ev h6 hxs⟩
      | ex id =>
        simp only [bindN] at h2
        cases h2
        exact ⟨e2, h3, h4⟩
      | rt =>
        simp only [bindN] at h2
        cases h2
        exact ⟨e2, h3, h4⟩
    · cases hf

theorem loop_ok {C : TrC} {L : Nat} {ex : List (Nat × Nat)} {b : AC} {b' : BC} {h : List Nat} {r : SN}
    (H : ∀ e e' bs tau x e2' bs2 tau2, RelS C.nt (canS 0 h) h.length e e' → denB O L b' e' bs tau = some (x, e2', bs2, tau2) → ∃ e2, den O L b e bs tau = some (x, e2, bs2, tau2) ∧ PostF C ex h r e2 e2' x) :
    ∀ k e bs tau x e2' bs2 tau2, e.length = C.nt → loopN (denB O L b') k (h.map (getE e)) bs tau = some (x, e2', bs2, tau2) → ∃ e2, loopN (den O L b) k e bs tau = some (x, e2, bs2, tau2) ∧ Post C ex none e2 e2' x
  | 0, e, bs, tau, x, e2', bs2, tau2, _, hd => by cases hd
  | k + 1, e, bs, tau, x, e2', bs2, tau2, hl, hd => by
    simp only [loopN] at hd
    obtain ⟨y, h1, h2⟩ := bindN_some hd
    obtain ⟨y1, y2, y3, y4⟩ := y
    obtain ⟨e2, h3, h4⟩ := H e _ bs tau _ _ _ _ (canS_rel hl) h1
    cases y1 with
    | nrm =>
      simp only [bindN] at h2
      obtain ⟨h5, h6⟩ := h4
      subst h6
      rw [clrE_map] at h2
      obtain ⟨e3, h7, h8⟩ := loop_ok H k _ _ _ _ _ _ _ (by rw [clrE_len]; exact h5) h2
      exact ⟨e3, by simp only [loopN, h3, bindN]; exact h7, h8⟩
    | ex id =>
      simp only [bindN] at h2
      cases h2
      exact ⟨e2, by simp only [loopN, h3, bindN], h4⟩
    | rt =>
      simp only [bindN] at h2
      cases h2
      exact ⟨e2, by simp only [loopN, h3, bindN], h4⟩

theorem tr_sound {C : TrC} {L : Nat} : ∀ (c : AC) {ex : List (Nat × Nat)} {out : Nat} {s : Sig} {n : Nat} {c' : BC} {r : SN}, tr C ex out c s n = some (c', r) → TrOk C O L ex c c' s n r
  | .skip, ex, out, s, n, c', r, ht => by
    cases ht
    intro e e' bs tau x e2' bs2 tau2 hr hd
    cases hd
    exact ⟨e, rfl, s, n, rfl, hr⟩
  | .seq a b, ex, out, s, n, c', r, ht => by
    simp only [tr] at ht
    split at ht
    · rename_i a' s1 n1 ha
      split at ht
      · rename_i b' r1 hb
        cases ht
        intro e e' bs tau x e2' bs2 tau2 hr hd
        simp only [denB] at hd
        obtain ⟨y, h1, h2⟩ := bindN_some hd
        obtain ⟨y1, y2, y3, y4⟩ := y
        obtain ⟨e2, h3, h4⟩ := tr_sound a ha e e' bs tau _ _ _ _ hr h1
        cases y1 with
        | nrm =>
          simp only [bindN] at h2
          obtain ⟨s2, n2, h5, h6⟩ := h4
          cases h5
          obtain ⟨e3, h7, h8⟩ := tr_sound b hb _ _ _ _ _ _ _ _ h6 h2
          exact ⟨e3, by simp only [den, h3, bindN]; exact h7, h8⟩
        | ex id =>
          simp only [bindN] at h2
          cases h2
          exact ⟨e2, by simp only [den, h3, bindN], h4⟩
        | rt =>
          simp only [bindN] at h2
          cases h2
          exact ⟨e2, by simp only [den, h3, bindN], h4⟩
      · cases ht
    · rename_i a' ha
      cases ht
      intro e e' bs tau x e2' bs2 tau2 hr hd
      obtain ⟨e2, h3, h4⟩ := tr_sound a ha e e' bs tau _ _ _ _ hr hd
      cases x with
      | nrm => obtain ⟨_, _, h5, _⟩ := h4; cases h5
      | ex id => exact ⟨e2, by simp only [den, h3, bindN], h4⟩
      | rt => exact ⟨e2, by simp only [den, h3, bindN], h4⟩
    · cases ht
  | .reg l, ex, out, s, n, c', r, ht => by
    simp only [tr] at ht
    split at ht
    · rename_i l' s1 n1 hl
      cases ht
      intro e e' bs tau x e2' bs2 tau2 hr hd
      simp only [denB] at hd
      split at hd
      · rename_i e1 bs1 tau1 h1
        cases hd
        obtain ⟨e2, h2, h3⟩ := trIns_sound hl hr h1
        exact ⟨e2, by simp only [den, h2], s1, n1, rfl, h3⟩
      · cases hd
    · cases ht
  | .cond c a b, ex, out, s, n, c', r, ht => by
    simp only [tr] at ht
    split at ht
    · rename_i c1 a' x1 b' y1 hc ha hb
      split at ht
      · rename_i a2 b2 ha2 hb2
        cases ht
        intro e e' bs tau x e2' bs2 tau2 hr hd
        simp only [denB] at hd
        have hcv := (mapO_ev hr hc).2
        simp only [den, hcv]
        split at hd
        · rename_i v hv
          rw [hv]
          have fin : ∀ e2, PostF C ex (bits C.nt out) (some x1) e2 e2' x ∨ PostF C ex (bits C.nt out) (some y1) e2 e2' x → Post C ex (some (canS 0 (bits C.nt out), (bits C.nt out).length)) e2 e2' x := by
            intro e2 h
            cases x with
            | nrm =>
              have h : e2.length = C.nt ∧ e2' = (bits C.nt out).map (getE e2) := by cases h <;> assumption
              exact ⟨_, _, rfl, by rw [h.2]; exact canS_rel h.1⟩
            | ex id => cases h <;> assumption
            | rt => cases h <;> assumption
          cases v with
          | true =>
            simp only [if_true] at hd ⊢
            obtain ⟨e2, h1, h2⟩ := focB_ok (tr_sound a ha) ha2 e e' bs tau x e2' bs2 tau2 hr hd
            exact ⟨e2, h1, fin e2 (Or.inl h2)⟩
          | false =>
            simp only [Bool.false_eq_true, if_false] at hd ⊢
            obtain ⟨e2, h1, h2⟩ := focB_ok (tr_sound b hb) hb2 e e' bs tau x e2' bs2 tau2 hr hd
            exact ⟨e2, h1, fin e2 (Or.inr h2)⟩
        · cases hd
      · cases ht
    · rename_i c1 a' b' y1 hc ha hb
      cases ht
      intro e e' bs tau x e2' bs2 tau2 hr hd
      simp only [denB] at hd
      have hcv := (mapO_ev hr hc).2
      simp only [den, hcv]
      split at hd
      · rename_i v hv
        rw [hv]
        cases v with
        | true =>
          simp only [if_true] at hd ⊢
          obtain ⟨e2, h1, h2⟩ := tr_sound a ha e e' bs tau _ _ _ _ hr hd
          refine ⟨e2, h1, ?_⟩
          cases x with
          | nrm => obtain ⟨_, _, h5, _⟩ := h2; cases h5
          | ex id => exact h2
          | rt => exact h2
        | false =>
          simp only [Bool.false_eq_true, if_false] at hd ⊢
          exact tr_sound b hb e e' bs tau _ _ _ _ hr hd
      · cases hd
    · rename_i c1 a' x1 b' hc ha hb
      cases ht
      intro e e' bs tau x e2' bs2 tau2 hr hd
      simp only [denB] at hd
      have hcv := (mapO_ev hr hc).2
      simp only [den, hcv]
      split at hd
      · rename_i v hv
        rw [hv]
        cases v with
        | true =>
          simp only [if_true] at hd ⊢
          exact tr_sound a ha e e' bs tau _ _ _ _ hr hd
        | false =>
          simp only [Bool.false_eq_true, if_false] at hd ⊢
          obtain ⟨e2, h1, h2⟩ := tr_sound b hb e e' bs tau _ _ _ _ hr hd
          refine ⟨e2, h1, ?_⟩
          cases x with
          | nrm => obtain ⟨_, _, h5, _⟩ := h2; cases h5
          | ex id => exact h2
          | rt => exact h2
      · cases hd
    · cases ht
  | .block id b, ex, out, s, n, c', r, ht => by
    simp only [tr] at ht
    split at ht
    · rename_i b' x1 hb
      split at ht
      · rename_i b2 hb2
        cases ht
        intro e e' bs tau x e2' bs2 tau2 hr hd
        simp only [denB] at hd
        cases hk : denB O L b2 e' bs tau with
        | none => rw [hk] at hd; cases hd
        | some y =>
          rw [hk] at hd
          obtain ⟨y1, y2, y3, y4⟩ := y
          obtain ⟨e2, h1, h2⟩ := focB_ok (tr_sound b hb) hb2 e e' bs tau _ _ _ _ hr hk
          cases y1 with
          | nrm =>
            simp only [outBlock] at hd
            cases hd
            refine ⟨e2, by simp only [den, h1, outBlock], _, _, rfl, ?_⟩
            obtain ⟨h3, h4⟩ := h2
            rw [h4]; exact canS_rel h3
          | ex id' =>
            simp only [outBlock] at hd
            obtain ⟨o, h3, h4, h5⟩ := h2
            simp only [look] at h3
            by_cases hid : id = id'
            · rw [if_pos hid] at h3
              cases h3
              rw [if_pos hid.symm] at hd
              cases hd
              refine ⟨e2, by simp only [den, h1, outBlock, if_pos hid.symm], _, _, rfl, ?_⟩
              rw [h5]; exact canS_rel h4
            · rw [if_neg hid] at h3
              rw [if_neg (fun h => hid h.symm)] at hd
              cases hd
              exact ⟨e2, by simp only [den, h1, outBlock, if_neg (fun h => hid (Eq.symm h))], o, h3, h4, h5⟩
          | rt =>
            simp only [outBlock] at hd
            cases hd
            exact ⟨e2, by simp only [den, h1, outBlock], h2⟩
      · cases ht
    · cases ht
  | .loop b, ex, out, s, n, c', r, ht => by
    simp only [tr] at ht
    split at ht
    · rename_i l b' x1 hl hb
      split at ht
      · rename_i b2 hb2
        cases ht
        intro e e' bs tau x e2' bs2 tau2 hr hd
        simp only [denB, bindN] at hd
        rw [mapL_ev hr hl] at hd
        simp only [den]
        exact loop_ok (focB_ok (tr_sound b hb) hb2) L e bs tau x e2' bs2 tau2 hr.len hd
      · cases ht
    · cases ht
  | .exit id, ex, out, s, n, c', r, ht => by
    simp only [tr] at ht
    split at ht
    · rename_i o ho
      split at ht
      · rename_i l hl
        cases ht
        intro e e' bs tau x e2' bs2 tau2 hr hd
        cases hd
        exact ⟨e, rfl, o, ho, hr.len, mapL_ev hr hl⟩
      · cases ht
    · cases ht
  | .ret, ex, out, s, n, c', r, ht => by
    simp only [tr] at ht
    split at ht
    · rename_i l hl
      cases ht
      intro e e' bs tau x e2' bs2 tau2 hr hd
      cases hd
      exact ⟨e, rfl, hr.len, mapL_ev hr hl⟩
    · cases ht

theorem resAt_ok {e : Env} {bs : List Box} : ∀ {l : List RV} {k : Nat} {e' : Env}, (∀ j, getE e' (k + j) = getE ((l.map RV.temp).map (getE e)) j) → resVs e' bs (resAt k l) = resVs e bs l
  | [], _, _, _ => rfl
  | .t i :: l, k, e', h => by
    have h0 : getE e' k = getE e i := h 0
    simp only [resAt, resVs, resV, h0]
    rw [resAt_ok (l := l) (k := k + 1) fun j => by rw [show k + 1 + j = k + (j + 1) from by omega, h (j + 1)]; rfl]
  | .cell i a n :: l, k, e', h => by
    have h0 : getE e' k = getE e i := h 0
    simp only [resAt, resVs, resV, h0]
    rw [resAt_ok (l := l) (k := k + 1) fun j => by rw [show k + 1 + j = k + (j + 1) from by omega, h (j + 1)]; rfl]
theorem getE_out : ∀ {e : Env} {k : Nat}, e.length ≤ k → getE e k = .junk
  | [], _, _ => rfl
  | x :: l, 0, h => by simp at h
  | x :: l, k + 1, h => by simp only [getE]; exact getE_out (by simpa using h)
theorem getE_app1 {b : Env} : ∀ {a : Env} {k : Nat}, k < a.length → getE (a ++ b) k = getE a k
  | [], k, h => by simp at h
  | x :: l, 0, _ => rfl
  | x :: l, k + 1, h => by
    simp only [List.length_cons, Nat.add_lt_add_iff_right] at h
    simp only [List.cons_append, getE]
    exact getE_app1 h

theorem trFun_sound {fn : AFun} {b : BFun} {args : List AV} {L : Nat} (ht : trFun args.length fn = some b) {r : DV × List Box} (h : finish b.res bs.length (denB O L b.body args bs []) = some r) :
    finish fn.res bs.length (den O L fn.body (entry fn.nt args) bs []) = some r := by
  have key : ∀ c1 s1 (hs : tr ⟨fn.nt, fn.res.map RV.temp⟩ [] (addR 0 (fn.res.map RV.temp)) fn.body (canS 0 (List.range args.length)) args.length = some (c1, s1)), args.length ≤ fn.nt →
      ∀ x e2' bs2 tau2, denB O L c1 args bs [] = some (x, e2', bs2, tau2) → ∃ e2, den O L fn.body (entry fn.nt args) bs [] = some (x, e2, bs2, tau2) ∧ Post ⟨fn.nt, fn.res.map RV.temp⟩ [] s1 e2 e2' x := by
    intro c1 s1 hs hnp x e2' bs2 tau2 hd
    refine tr_sound fn.body hs _ _ _ _ _ _ _ _ ⟨?_, rfl, fun i y hy => ?_⟩ hd
    · simp only [entry, List.length_append, List.length_replicate]; omega
    · obtain ⟨j, rfl, hj⟩ := canS_look hy
      rw [Nat.zero_add]
      have hj' := List.getElem?_eq_some_iff.1 hj
      obtain ⟨hj1, hj2⟩ := hj'
      simp only [List.length_range] at hj1
      simp only [List.getElem_range] at hj2
      subst hj2
      exact ⟨hj1, by simp only [entry, Opd.ev]; exact getE_app1 hj1⟩
  have fin : ∀ e2 e2' bs2 x tau2, e2' = (fn.res.map RV.temp).map (getE e2) → (∀ id, x ≠ .ex id) → finish (resAt 0 fn.res) bs.length (some (.rt, e2', bs2, tau2)) = some r → finish fn.res bs.length (some (x, e2, bs2, tau2)) = some r := by
    intro e2 e2' bs2 x tau2 he hx hf
    have hv : resVs e2' bs2 (resAt 0 fn.res) = resVs e2 bs2 fn.res := resAt_ok fun j => by rw [Nat.zero_add, he]
    simp only [finish, hv] at hf
    cases x with
    | ex id => exact (hx id rfl).elim
    | nrm => simp only [finish]; exact hf
    | rt => simp only [finish]; exact hf
  simp only [trFun] at ht
  split at ht
  · rename_i hnp
    split at ht
    · rename_i c1 s1 n1 hs
      split at ht
      · rename_i l hl
        cases ht
        simp only [denB] at h
        cases hd : denB O L c1 args bs [] with
        | none => rw [hd] at h; simp [bindN, finish] at h
        | some y =>
          rw [hd] at h
          obtain ⟨y1, y2, y3, y4⟩ := y
          obtain ⟨e2, h1, h2⟩ := key _ _ hs hnp _ _ _ _ hd
          rw [h1]
          cases y1 with
          | nrm =>
            simp only [bindN] at h
            obtain ⟨s2, n2, h3, h4⟩ := h2
            cases h3
            exact fin _ _ _ _ _ (mapL_ev h4 hl) (fun id => by simp) h
          | ex id => simp [bindN, finish] at h
          | rt =>
            simp only [bindN] at h
            exact fin _ _ _ _ _ h2.2 (fun id => by simp) h
      · cases ht
    · rename_i c1 hs
      cases ht
      simp only at h
      cases hd : denB O L c1 args bs [] with
      | none => rw [hd] at h; simp [finish] at h
      | some y =>
        rw [hd] at h
        obtain ⟨y1, y2, y3, y4⟩ := y
        obtain ⟨e2, h1, h2⟩ := key _ _ hs hnp _ _ _ _ hd
        rw [h1]
        cases y1 with
        | nrm => obtain ⟨_, _, h5, _⟩ := h2; cases h5
        | ex id => simp [finish] at h
        | rt => exact fin _ _ _ _ _ h2.2 (fun id => by simp) h
    · cases ht
  · cases ht
end
end Go.Abs

/- The second form without fuel: equations; its run. A table of such code evaluated for given arguments. -/
namespace Go.Abs
open Go

section
variable {O O' : Orc}
theorem evB_mono (h : Ole O O') : ∀ {l : List BIns} {e : Env} {bs : List Box} {tau : List Nat} {x : St}, evB O l e bs tau = some x → evB O' l e bs tau = some x
  | [], _, _, _, _, he => he
  | i :: l, e, bs, tau, x, he => by
    simp only [evB] at he ⊢
    split at he
    · rename_i v b t hv
      rw [evG_mono h hv]
      exact evB_mono h he
    · cases he
theorem denB_mono (h : Ole O O') {L L' : Nat} (hL : L ≤ L') : ∀ (c : BC) {e : Env} {bs : List Box} {tau : List Nat} {x : Ex × Env × List Box × List Nat}, denB O L c e bs tau = some x → denB O' L' c e bs tau = some x
  | .skip, _, _, _, _, he => he
  | .seq a b, e, bs, tau, x, he => by
    simp only [denB] at he ⊢
    obtain ⟨y, h1, h2⟩ := bindN_some he
    rw [denB_mono h hL a h1]
    obtain ⟨y1, y2, y3, y4⟩ := y
    cases y1 <;> simp only [bindN] at h2 ⊢
    · exact denB_mono h hL b h2
    · exact h2
    · exact h2
  | .ins l, e, bs, tau, x, he => by
    simp only [denB] at he ⊢
    split at he
    · rename_i e' bs' tau' h1
      rw [evB_mono h h1]
      exact he
    · cases he
  | .cond c a b, e, bs, tau, x, he => by
    simp only [denB] at he ⊢
    split at he
    · split at he
      · rename_i hv; rw [if_pos hv]; exact denB_mono h hL a he
      · rename_i hv; rw [if_neg hv]; exact denB_mono h hL b he
    · cases he
  | .block id b, e, bs, tau, x, he => by
    simp only [denB] at he ⊢
    cases hr : denB O L b e bs tau with
    | none => simp [hr, outBlock] at he
    | some y => rw [denB_mono h hL b hr]; rw [hr] at he; exact he
  | .loop b, e, bs, tau, x, he => by
    simp only [denB] at he ⊢
    exact loopN_mono (fun e bs tau x => denB_mono h hL b) hL he
  | .exit _ _, _, _, _, _, he => he
  | .ret _, _, _, _, _, he => he
  | .foc _, _, _, _, _, he => he
end

noncomputable def DnB (O : Orc) (c : BC) (e : Env) (bs : List Box) (tau : List Nat) : Res := Lim fun L => denB O L c e bs tau

section
variable {O : Orc} {e : Env} {bs : List Box} {tau : List Nat}
theorem denB_up {c : BC} : ∀ (n m : Nat) (r : Ex × Env × List Box × List Nat), n ≤ m → denB O n c e bs tau = some r → denB O m c e bs tau = some r :=
  fun _ _ _ h he => denB_mono (fun _ _ _ _ h => h) h c he

theorem B_skip : DnB O .skip e bs tau = some (.nrm, e, bs, tau) := Lim_of denB_up (n := 0) rfl
theorem B_exit {id : Nat} {l : List Opd} : DnB O (.exit id l) e bs tau = some (.ex id, evL e l, bs, tau) := Lim_of denB_up (n := 0) rfl
theorem B_ret {l : List Opd} : DnB O (.ret l) e bs tau = some (.rt, evL e l, bs, tau) := Lim_of denB_up (n := 0) rfl
theorem B_foc {l : List Opd} : DnB O (.foc l) e bs tau = some (.nrm, evL e l, bs, tau) := Lim_of denB_up (n := 0) rfl
theorem B_seq {a b : BC} : DnB O (.seq a b) e bs tau = bindN (DnB O a e bs tau) fun e bs tau => DnB O b e bs tau := by
  have key : ∀ r, (∃ n, denB O n (.seq a b) e bs tau = some r) ↔ bindN (DnB O a e bs tau) (fun e bs tau => DnB O b e bs tau) = some r := by
    intro r
    constructor
    · rintro ⟨n, hn⟩
      simp only [denB] at hn
      obtain ⟨y, h1, h2⟩ := bindN_some hn
      rw [show DnB O a e bs tau = some y from Lim_of denB_up h1]
      obtain ⟨y1, y2, y3, y4⟩ := y
      cases y1 <;> simp only [bindN] at h2 ⊢
      · exact Lim_of denB_up h2
      · exact h2
      · exact h2
    · intro h
      obtain ⟨y, h1, h2⟩ := bindN_some h
      obtain ⟨n, hn⟩ := Lim_some h1
      obtain ⟨y1, y2, y3, y4⟩ := y
      cases y1 with
      | nrm =>
        simp only [bindN] at h2
        obtain ⟨m, hm⟩ := Lim_some h2
        refine ⟨max n m, ?_⟩
        simp only [denB, denB_up n (max n m) _ (Nat.le_max_left n m) hn, bindN]
        exact denB_up m (max n m) _ (Nat.le_max_right n m) hm
      | ex id => exact ⟨n, by simp only [denB, hn]; exact h2⟩
      | rt => exact ⟨n, by simp only [denB, hn]; exact h2⟩
  cases h : bindN (DnB O a e bs tau) (fun e bs tau => DnB O b e bs tau) with
  | some r =>
    obtain ⟨n, hn⟩ := (key r).2 h
    exact Lim_of denB_up hn
  | none =>
    cases h' : DnB O (.seq a b) e bs tau with
    | none => rfl
    | some r => rw [(key r).1 (Lim_some h')] at h; cases h
theorem B_const {c : BC} {r : Res} (h : ∀ n, denB O n c e bs tau = r) : DnB O c e bs tau = r := by
  cases hr : r with
  | some x => exact Lim_of denB_up (n := 0) ((h 0).trans hr)
  | none =>
    cases h' : DnB O c e bs tau with
    | none => rfl
    | some x =>
      obtain ⟨n, hn⟩ := Lim_some h'
      rw [h n, hr] at hn
      cases hn
theorem B_ins {l : List BIns} : DnB O (.ins l) e bs tau = regK (evB O l e bs tau) := B_const fun n => by
  simp only [denB]
  rfl
theorem B_cond {c : Opd} {a b : BC} : DnB O (.cond c a b) e bs tau = condK (c.ev e) (DnB O a e bs tau) (DnB O b e bs tau) := by
  unfold condK
  split
  · rename_i v hv
    cases v with
    | true =>
      simp only [if_true]
      exact Lim_ext denB_up denB_up fun r => by simp only [denB, hv, if_true]
    | false =>
      simp only [Bool.false_eq_true, if_false]
      exact Lim_ext denB_up denB_up fun r => by simp only [denB, hv, Bool.false_eq_true, if_false]
  · rename_i hne
    exact B_const fun n => by
      simp only [denB]
theorem B_block {id : Nat} {b : BC} : DnB O (.block id b) e bs tau = outBlock id (DnB O b e bs tau) := by
  have key : ∀ r, (∃ n, denB O n (.block id b) e bs tau = some r) ↔ outBlock id (DnB O b e bs tau) = some r := by
    intro r
    constructor
    · rintro ⟨n, hn⟩
      simp only [denB] at hn
      cases hr : denB O n b e bs tau with
      | none => simp [hr, outBlock] at hn
      | some y => rw [show DnB O b e bs tau = some y from Lim_of denB_up hr]; rw [hr] at hn; exact hn
    · intro h
      cases hr : DnB O b e bs tau with
      | none => simp [hr, outBlock] at h
      | some y =>
        obtain ⟨n, hn⟩ := Lim_some hr
        exact ⟨n, by simp only [denB, hn]; rw [hr] at h; exact h⟩
  cases h : outBlock id (DnB O b e bs tau) with
  | some r =>
    obtain ⟨n, hn⟩ := (key r).2 h
    exact Lim_of denB_up hn
  | none =>
    cases h' : DnB O (.block id b) e bs tau with
    | none => rfl
    | some r => rw [(key r).1 (Lim_some h')] at h; cases h
theorem B_loop {b : BC} : DnB O (.loop b) e bs tau = bindN (DnB O b e bs tau) fun e' bs' tau' => DnB O (.loop b) (clrE bs.length e') (bs'.take bs.length) tau' := by
  have up : ∀ n m, n ≤ m → ∀ e bs tau x, denB O n b e bs tau = some x → denB O m b e bs tau = some x := fun n m h e bs tau x => denB_up n m x h
  have key : ∀ r, (∃ n, denB O n (.loop b) e bs tau = some r) ↔ bindN (DnB O b e bs tau) (fun e' bs' tau' => DnB O (.loop b) (clrE bs.length e') (bs'.take bs.length) tau') = some r := by
    intro r
    constructor
    · rintro ⟨n, hn⟩
      simp only [denB] at hn
      cases n with
      | zero => cases hn
      | succ n =>
        simp only [loopN] at hn
        obtain ⟨y, h1, h2⟩ := bindN_some hn
        rw [show DnB O b e bs tau = some y from Lim_of denB_up h1]
        obtain ⟨y1, y2, y3, y4⟩ := y
        cases y1 <;> simp only [bindN] at h2 ⊢
        · refine Lim_of denB_up (n := n + 1) ?_
          simp only [denB]
          exact loopN_mono (fun _ _ _ _ h => h) (Nat.le_succ n) h2
        · exact h2
        · exact h2
    · intro h
      obtain ⟨y, h1, h2⟩ := bindN_some h
      obtain ⟨n, hn⟩ := Lim_some h1
      obtain ⟨y1, y2, y3, y4⟩ := y
      cases y1 with
      | nrm =>
        simp only [bindN] at h2
        obtain ⟨m, hm⟩ := Lim_some h2
        refine ⟨max n m + 1, ?_⟩
        simp only [denB] at hm ⊢
        simp only [loopN, denB_up n (max n m + 1) _ (by omega) hn, bindN]
        exact loopN_mono (up m (max n m + 1) (by omega)) (Nat.le_max_right n m) hm
      | ex id => exact ⟨n + 1, by simp only [denB, loopN, denB_up n (n + 1) _ (by omega) hn]; exact h2⟩
      | rt => exact ⟨n + 1, by simp only [denB, loopN, denB_up n (n + 1) _ (by omega) hn]; exact h2⟩
  cases h : bindN (DnB O b e bs tau) (fun e' bs' tau' => DnB O (.loop b) (clrE bs.length e') (bs'.take bs.length) tau') with
  | some r =>
    obtain ⟨n, hn⟩ := (key r).2 h
    exact Lim_of denB_up hn
  | none =>
    cases h' : DnB O (.loop b) e bs tau with
    | none => rfl
    | some r => rw [(key r).1 (Lim_some h')] at h; cases h

theorem evB_nil : evB O [] e bs tau = some (e, bs, tau) := rfl
theorem evB_ins {g : Option (Nat × Bool)} {r : Rhs} {l : List BIns} : evB O (⟨g, r⟩ :: l) e bs tau = insK (evG O e bs tau g r) fun v bs tau => evB O l (e ++ [v]) bs tau := by
  simp only [evB]
  rfl
end

/- THE TABLE: every function that is no hand-proved one is compiled -/
def Tab.of (P : Program) (prim : FuncId → Option (List AV → List Box → Option (DV × List Box))) : Tab :=
  ⟨prim, fun f => match P.funcs[f]? with | some g => if g.name == "runtime.NumGoroutine" then none else cFun P g | none => none⟩

section
variable {P : Program} {prim : FuncId → Option (List AV → List Box → Option (DV × List Box))}
theorem Tab.of_ok (hm : P.follows .mixedOrders = true) (hp : ∀ f p args bs r bs', prim f = some p → p args bs = some (r, bs') → (∀ x ∈ bs, x.plain) → Enters P f ∧ Sound P f args bs r bs') : TabOK P (Tab.of P prim) where
  mixed := hm
  prims := hp
  fns f fn h0 h := by
    simp only [Tab.of] at h
    split at h
    · rename_i g hg
      split at h
      · cases h
      · rename_i hn
        exact ⟨g, hg, by simpa using hn, h⟩
    · cases h

/-- The code of a function. -/
structure Code2 (P : Program) (prim : FuncId → Option (List AV → List Box → Option (DV × List Box))) (f : FuncId) (np : Nat) (b : BFun) : Prop where
  noprim : prim f = none
  code : ∃ fn, (Tab.of P prim).fns f = some fn ∧ trFun np fn = some b

theorem Code2.mk' {f : FuncId} {np : Nat} {b : BFun} {g : Func} (hp : prim f = none) (hf : P.funcs[f]? = some g) (hn : (g.name == "runtime.NumGoroutine") = false) (hc : (cFun P g).bind (trFun np) = some b) : Code2 P prim f np b := by
  cases h : cFun P g with
  | none => rw [h] at hc; cases hc
  | some fn =>
    rw [h] at hc
    exact ⟨hp, fn, by simp only [Tab.of, hf, hn, Bool.false_eq_true, if_false, h], hc⟩

theorem Code2.fin {f : FuncId} {b : BFun} {args : List AV} {bs : List Box} {r : DV × List Box} (hc : Code2 P prim f args.length b) {L : Nat} (h : finish b.res bs.length (denB (Run (Tab.of P prim)) L b.body args bs []) = some r) : Run (Tab.of P prim) f args bs = some r := by
  obtain ⟨fn, h1, h2⟩ := hc.code
  refine Run_fn (T := Tab.of P prim) hc.noprim h1 ?_
  have h3 := trFun_sound h2 h
  exact finish_mono (fun x hx => Lim_of den_up hx) h3

theorem Code2.run {f : FuncId} {b : BFun} {args : List AV} {bs : List Box} {r : DV × List Box} (hc : Code2 P prim f args.length b) (h : finish b.res bs.length (DnB (Run (Tab.of P prim)) b.body args bs []) = some r) : Run (Tab.of P prim) f args bs = some r := by
  cases hd : DnB (Run (Tab.of P prim)) b.body args bs [] with
  | none => rw [hd] at h; simp [finish] at h
  | some x =>
    obtain ⟨L, hL⟩ := Lim_some hd
    refine hc.fin (L := L) ?_
    rw [hL]
    rw [hd] at h
    exact h

/- GIVEN ARGUMENTS -/
/-- A table that knows each function's number of arguments. -/
def runT (prim : FuncId → Option (List AV → List Box → Option (DV × List Box))) (tb : FuncId → Option (Nat × BFun)) : Nat → Orc
  | 0 => fun _ _ _ => none
  | n + 1 => fun f args bs =>
    match prim f with
    | some p => p args bs
    | none =>
      match tb f with
      | some (np, b) => if args.length = np then finish b.res bs.length (denB (runT prim tb n) n b.body args bs []) else none
      | none => none
theorem runT_ok {tb : FuncId → Option (Nat × BFun)} (ht : ∀ f np b, tb f = some (np, b) → Code2 P prim f np b) : ∀ n, Ole (runT prim tb n) (Run (Tab.of P prim))
  | 0 => fun f args bs r h => by simp [runT] at h
  | n + 1 => fun f args bs r h => by
    have ih := runT_ok ht n
    simp only [runT] at h
    split at h
    · rename_i p hp
      exact Run_prim (T := Tab.of P prim) hp h
    · split at h
      · rename_i np b hb
        split at h
        · rename_i hnp
          subst hnp
          exact (ht _ _ _ hb).fin (L := n) (finish_mono (fun x => denB_mono ih (Nat.le_refl n) b.body) h)
        · cases h
      · cases h
end
end Go.Abs

/- The functions whose contracts are proved by hand: what they answer. -/
namespace Go.Abs
open Go

/-- Where a byte is first. -/
def idxByte (c : UInt8) : List UInt8 → Nat → Int
  | [], _ => -1
  | x :: l, i => if x = c then i else idxByte c l (i + 1)
/-- Where a text is first. -/
def idxStr (p : List UInt8) : List UInt8 → Nat → Int
  | [], i => if p = [] then i else -1
  | x :: l, i => if p.isPrefixOf (x :: l) then i else idxStr p l (i + 1)
def lowC (c : UInt8) : UInt8 := if 65 ≤ c ∧ c ≤ 90 then c ||| 32 else c
/-- Great letters made small. -/
def lowS (s : List UInt8) : List UInt8 := s.map lowC
def dStrs : List DV → Option (List (List UInt8))
  | [] => some []
  | .str s :: l => (match dStrs l with | some r => some (s :: r) | none => none)
  | _ => none

def pWriteByte : List AV → List Box → Option (DV × List Box)
  | [.bp 0 0, .d (.int .u8 n)], [.bld l] => if l.length < maxLenN ∧ 0 ≤ n ∧ n < 256 then some (.nili, [.bld (l ++ [UInt8.ofNat n.toNat])]) else none
  | _, _ => none
def pWriteString : List AV → List Box → Option (DV × List Box)
  | [.bp 0 0, .d (.str s)], [.bld l] => if l.length + s.length ≤ maxLenN then some (.tup [.int .i64 s.length, .nili], [.bld (l ++ s)]) else none
  | _, _ => none
/-- (Of bytes, not of none: an empty slice may lie nowhere.) -/
def pWrite : List AV → List Box → Option (DV × List Box)
  | [.bp 0 0, .d (.slice _ es)], [.bld l] =>
    match dBytes es with
    | some (c :: s) => if l.length + (c :: s).length ≤ maxLenN then some (.tup [.int .i64 (c :: s).length, .nili], [.bld (l ++ (c :: s))]) else none
    | _ => none
  | _, _ => none
/-- (Behind String the builder is not written any more: its bytes lie frozen.) -/
def pString : List AV → List Box → Option (DV × List Box)
  | [.bp 0 0], [.bld l] => some (.str l, [.cells [.d .any, .d .any]])
  | _, _ => none
def pIdxByte : List AV → List Box → Option (DV × List Box)
  | [.d (.str s), .d (.int .u8 n)], [] => if s.length ≤ maxLenN ∧ 0 ≤ n ∧ n < 256 then some (.int .i64 (idxByte (UInt8.ofNat n.toNat) s 0), []) else none
  | _, _ => none
def pCut : List AV → List Box → Option (DV × List Box)
  | [.d (.str s), .d (.str p)], [] => if s.length ≤ maxLenN then some (.tup [.str (Lib.cut s p).1, .str (Lib.cut s p).2.1, .bool (Lib.cut s p).2.2], []) else none
  | _, _ => none
def pJoin : List AV → List Box → Option (DV × List Box)
  | [.d (.slice k es), .d (.str p)], [] =>
    match dStrs es with
    | some xs => if (k = 1 ∨ xs = []) ∧ (Lib.join xs p).length ≤ maxLenN ∧ xs.length ≤ maxLenN then some (.str (Lib.join xs p), []) else none
    | none => none
  | _, _ => none
def pCutPrefix : List AV → List Box → Option (DV × List Box)
  | [.d (.str s), .d (.str p)], [] => some (.tup [.str (Lib.trimPrefix s p), .bool (Lib.hasPrefix s p)], [])
  | _, _ => none
/-- (At one byte.) -/
def pSplit : List AV → List Box → Option (DV × List Box)
  | [.d (.str s), .d (.str [c])], [] => if s.length ≤ maxLenN then some (.slice 1 ((splitC c s).map .str), []) else none
  | _, _ => none
def pCutSuffix : List AV → List Box → Option (DV × List Box)
  | [.d (.str s), .d (.str p)], [] => if s.length ≤ maxLenN then some (.tup [.str (Lib.trimSuffix s p), .bool (Lib.hasSuffix s p)], []) else none
  | _, _ => none
def pCompare : List AV → List Box → Option (DV × List Box)
  | [.d (.str s), .d (.str p)], [] => some (.int .i64 (Lib.compareBytes s p), [])
  | _, _ => none
def pTrimPrefix : List AV → List Box → Option (DV × List Box)
  | [.d (.str s), .d (.str p)], [] => some (.str (Lib.trimPrefix s p), [])
  | _, _ => none
def pLower : List AV → List Box → Option (DV × List Box)
  | [.d (.str s)], [] => if s.length ≤ maxLenN then some (.str (lowS s), []) else none
  | _, _ => none

/-- (Its contract is of the second level.) -/
def pNone : List AV → List Box → Option (DV × List Box) := fun _ _ => none

def prims : FuncId → Option (List AV → List Box → Option (DV × List Box))
  | 44 => some pString
  | 85 => some pWriteByte
  | 86 => some pWriteString
  | 136 => some pWrite
  | 93 => some pIdxByte
  | 94 => some pCut
  | 109 => some pJoin
  | 141 => some pCutPrefix
  | 143 => some pSplit
  | 201 => some pCutSuffix
  | 209 => some pCompare
  | 235 => some pTrimPrefix
  | 123 => some pLower
  | 154 => some pLower
  | 78 | 95 | 100 | 111 | 120 | 121 | 148 | 156 | 160 | 191 | 192 | 194 | 203 | 206 | 234 | 238 => some pNone
  | _ => none
end Go.Abs

/- The equations in the form that simp walks with: what comes later waits in a closed form. -/
namespace Go.Abs
open Go

abbrev OpR := Option (AV × List Box × List Nat)
noncomputable def seqK (O : Orc) (b : BC) : Res → Res
  | some (.nrm, e, bs, tau) => DnB O b e bs tau
  | r => r
noncomputable def nxtK (O : Orc) (l : List BIns) (e : Env) : OpR → Res
  | some (v, bs, tau) => DnB O (.ins l) (e ++ [v]) bs tau
  | none => none
noncomputable def cndK (O : Orc) (a b : BC) (e : Env) (bs : List Box) (tau : List Nat) : AV → Res
  | .d (.bool v) => if v then DnB O a e bs tau else DnB O b e bs tau
  | _ => none
def grdK (O : Orc) (e : Env) (bs : List Box) (tau : List Nat) (want : Bool) (r : Rhs) : AV → OpR
  | .d (.bool v) => if v = want then evR O e bs tau r else some (und, bs, tau)
  | .d (.tup []) => some (und, bs, tau)
  | _ => none
noncomputable def loopK (O : Orc) (b : BC) (n : Nat) : Res → Res
  | some (.nrm, e, bs, tau) => DnB O (.loop b) (clrE n e) (bs.take n) tau
  | r => r

section
variable {O : Orc} {e : Env} {bs : List Box} {tau : List Nat}
theorem L_loop {b : BC} : DnB O (.loop b) e bs tau = loopK O b bs.length (DnB O b e bs tau) := by
  rw [B_loop]
  generalize DnB O b e bs tau = r
  match r with
  | none => rfl
  | some (.nrm, _, _, _) => rfl
  | some (.ex _, _, _, _) => rfl
  | some (.rt, _, _, _) => rfl
theorem L_seq {a b : BC} : DnB O (.seq a b) e bs tau = seqK O b (DnB O a e bs tau) := by
  rw [B_seq]
  generalize DnB O a e bs tau = r
  match r with
  | none => rfl
  | some (.nrm, _, _, _) => rfl
  | some (.ex _, _, _, _) => rfl
  | some (.rt, _, _, _) => rfl
theorem L_ins {g : Option (Nat × Bool)} {r : Rhs} {l : List BIns} : DnB O (.ins (⟨g, r⟩ :: l)) e bs tau = nxtK O l e (evG O e bs tau g r) := by
  rw [B_ins, evB_ins]
  generalize evG O e bs tau g r = x
  match x with
  | none => rfl
  | some (_, _, _) => simp only [insK, nxtK, B_ins]
theorem L_nil : DnB O (.ins []) e bs tau = some (.nrm, e, bs, tau) := by rw [B_ins]; rfl
theorem L_cond {c : Opd} {a b : BC} : DnB O (.cond c a b) e bs tau = cndK O a b e bs tau (c.ev e) := by
  rw [B_cond]
  generalize c.ev e = x
  match x with
  | .d (.bool true) => rfl
  | .d (.bool false) => rfl
  | .d (.int ..) | .d (.flt ..) | .d (.cpx ..) | .d (.str _) | .d (.nils _) | .d (.slice ..) | .d (.iface ..) | .d .nili | .d .nilp | .d (.agg _) | .d (.tup _) | .d .any => rfl
  | .sl .. | .ep _ | .bp .. | .fn .. | .junk => rfl
theorem L_grd {j : Nat} {want : Bool} {r : Rhs} : evG O e bs tau (some (j, want)) r = grdK O e bs tau want r (getE e j) := by
  rfl
/-- Control. -/
theorem bC :
    (∀ {O : Orc} {b : BC} {e bs tau}, seqK O b (some (.nrm, e, bs, tau)) = DnB O b e bs tau) ∧
    (∀ {O : Orc} {b : BC} {i e bs tau}, seqK O b (some (.ex i, e, bs, tau)) = some (.ex i, e, bs, tau)) ∧
    (∀ {O : Orc} {b : BC} {e bs tau}, seqK O b (some (.rt, e, bs, tau)) = some (.rt, e, bs, tau)) ∧
    (∀ {O : Orc} {l e v bs tau}, nxtK O l e (some (v, bs, tau)) = DnB O (.ins l) (e ++ [v]) bs tau) ∧
    (∀ {O : Orc} {a b : BC} {e bs tau}, cndK O a b e bs tau (.d (.bool true)) = DnB O a e bs tau) ∧
    (∀ {O : Orc} {a b : BC} {e bs tau}, cndK O a b e bs tau (.d (.bool false)) = DnB O b e bs tau) ∧
    (∀ {O : Orc} {e bs tau r}, grdK O e bs tau true r (.d (.bool true)) = evR O e bs tau r) ∧
    (∀ {O : Orc} {e bs tau r}, grdK O e bs tau false r (.d (.bool false)) = evR O e bs tau r) ∧
    (∀ {O : Orc} {e bs tau r}, grdK O e bs tau true r (.d (.bool false)) = some (und, bs, tau)) ∧
    (∀ {O : Orc} {e bs tau r}, grdK O e bs tau false r (.d (.bool true)) = some (und, bs, tau)) ∧
    (∀ {O : Orc} {e bs tau w r}, grdK O e bs tau w r (.d (.tup [])) = some (und, bs, tau)) ∧
    (∀ {O : Orc} {b : BC} {n e bs tau}, loopK O b n (some (.nrm, e, bs, tau)) = DnB O (.loop b) (clrE n e) (bs.take n) tau) ∧
    (∀ {O : Orc} {b : BC} {n i e bs tau}, loopK O b n (some (.ex i, e, bs, tau)) = some (.ex i, e, bs, tau)) ∧
    (∀ {O : Orc} {b : BC} {n e bs tau}, loopK O b n (some (.rt, e, bs, tau)) = some (.rt, e, bs, tau)) ∧
    (∀ {O : Orc} {a b : BC} {e bs tau}, DnB O (.seq a b) e bs tau = seqK O b (DnB O a e bs tau)) ∧
    (∀ {O : Orc} {g r l e bs tau}, DnB O (.ins (⟨g, r⟩ :: l)) e bs tau = nxtK O l e (evG O e bs tau g r)) ∧
    (∀ {O : Orc} {e bs tau}, DnB O (.ins []) e bs tau = some (.nrm, e, bs, tau)) ∧
    (∀ {O : Orc} {c : Opd} {a b : BC} {e bs tau}, DnB O (.cond c a b) e bs tau = cndK O a b e bs tau (c.ev e)) ∧
    (∀ {O : Orc} {id : Nat} {b : BC} {e bs tau}, DnB O (.block id b) e bs tau = outBlock id (DnB O b e bs tau)) ∧
    (∀ {O : Orc} {l e bs tau}, DnB O (.foc l) e bs tau = some (.nrm, evL e l, bs, tau)) ∧
    (∀ {O : Orc} {l e bs tau}, DnB O (.ret l) e bs tau = some (.rt, evL e l, bs, tau)) ∧
    (∀ {O : Orc} {id : Nat} {l e bs tau}, DnB O (.exit id l) e bs tau = some (.ex id, evL e l, bs, tau)) ∧
    (∀ {O : Orc} {e bs tau}, DnB O .skip e bs tau = some (.nrm, e, bs, tau)) ∧
    (∀ {id : Nat} {e bs tau}, outBlock id (some (.nrm, e, bs, tau)) = some (.nrm, e, bs, tau)) ∧
    (∀ {id : Nat} {e bs tau}, outBlock id (some (.rt, e, bs, tau)) = some (.rt, e, bs, tau)) ∧
    (∀ {id : Nat} {e bs tau}, outBlock id (some (.ex id, e, bs, tau)) = some (.nrm, e, bs, tau)) ∧
    (∀ {O : Orc} {e bs tau r}, evG O e bs tau none r = evR O e bs tau r) ∧
    (∀ {O : Orc} {e bs tau j want r}, evG O e bs tau (some (j, want)) r = grdK O e bs tau want r (getE e j)) ∧
    (∀ {x : AV} {l : Env}, getE (x :: l) 0 = x) ∧
    (∀ {x : AV} {l : Env} {i : Nat}, getE (x :: l) (i + 1) = getE l i) ∧
    (∀ {e : Env} {i : Nat}, (Opd.t i).ev e = getE e i) ∧
    (∀ {e : Env} {x : DV}, (Opd.d x).ev e = .d x) ∧
    (∀ {e : Env} {f : FuncId}, (Opd.fn f).ev e = .fn f []) ∧
    (∀ {e : Env}, evL e [] = []) ∧
    (∀ {e : Env} {x l}, evL e (x :: l) = x.ev e :: evL e l) ∧
    (∀ {x : AV} {l l' : List AV}, x :: l ++ l' = x :: (l ++ l')) ∧
    (∀ {l : List AV}, [] ++ l = l) :=
  ⟨rfl, rfl, rfl, rfl, rfl, rfl, rfl, rfl, rfl, rfl, rfl, rfl, rfl, rfl, L_seq, L_ins, L_nil, L_cond, B_block, B_foc, B_ret, B_exit, B_skip, rfl, rfl, by simp [outBlock], rfl, L_grd, rfl, rfl, rfl, rfl, rfl, rfl, rfl, rfl, rfl⟩
end

/- OPERATIONS -/
def binK (bs : List Box) (tau : List Nat) (op : BOp) : AV → AV → OpR
  | .d a, .d b => optDV (evBin op a b) bs tau
  | _, _ => none
def binbK (bs : List Box) (tau : List Nat) (op : BOp) : AV → AV → OpR
  | .d a, .d b => optDV (evBinB op a b) bs tau
  | _, _ => none
def u1K (f : U1) (bs : List Box) (tau : List Nat) : AV → OpR
  | .d a => optDV (evU1 f a) bs tau
  | _ => none
def u2K (f : U2) (bs : List Box) (tau : List Nat) : AV → AV → OpR
  | .d a, .d b => optDV (evU2 f a b) bs tau
  | _, _ => none
def pickK (bs : List Box) (tau : List Nat) (a b : AV) : AV → OpR
  | .d (.bool v) => some (pickV v a b, bs, tau)
  | _ => none
def notK (bs : List Box) (tau : List Nat) : AV → OpR
  | .d (.bool b) => some (.d (.bool !b), bs, tau)
  | _ => none
def ldK (g : Bool) (n : Nat) (bs : List Box) (tau : List Nat) (x : AV) : OpR := optAV (evLd g n bs x) bs tau
def lenK (bs : List Box) (tau : List Nat) : AV → OpR
  | .d (.nils _) => some (.d (.int .i64 0), bs, tau)
  | .d (.slice _ es) => some (.d (.int .i64 es.length), bs, tau)
  | .sl _ _ _ es => some (.d (.int .i64 es.length), bs, tau)
  | _ => none
def lenSK (bs : List Box) (tau : List Nat) : AV → OpR
  | .d (.str l) => some (.d (.int .i64 l.length), bs, tau)
  | _ => none
def fadK (bs : List Box) (tau : List Nat) (off : Nat) : AV → OpR
  | .ep cs => some (.ep (cs.drop off), bs, tau)
  | .bp b o => some (.bp b (o + off), bs, tau)
  | _ => none
def iadK (bs : List Box) (tau : List Nat) (sz : Nat) (x i : AV) : OpR :=
  match elemsOf sz x, asIx i with
  | some es, some k => (match es[k]? with | some v => some (.ep v.cells, bs, tau) | none => none)
  | _, _ => none
def ixsK (bs : List Box) (tau : List Nat) (x i : AV) : OpR :=
  match x, asIx i with
  | .d (.str l), some k => (match l[k]? with | some c => some (.d (.int .u8 c.toNat), bs, tau) | none => none)
  | _, _ => none
def boxK (n : Nat) (bs : List Box) (tau : List Nat) (x : AV) : OpR :=
  match stCells n x with | some cs => some (.bp bs.length 0, bs ++ [.cells cs], tau) | none => none
def extK (i : Nat) (bs : List Box) (tau : List Nat) : AV → OpR
  | .d (.tup vs) => (match vs[i]? with | some v => some (.d v, bs, tau) | none => none)
  | _ => none
def stK (n : Nat) (bs : List Box) (tau : List Nat) (a x : AV) : OpR :=
  match evSt n bs a x with | some bs' => some (.junk, bs', tau) | none => none
def fldK (agg : Bool) (off n : Nat) (bs : List Box) (tau : List Nat) : AV → OpR
  | .d (.agg cs) => if off + n ≤ cs.length then optDV (aggOf agg ((cs.drop off).take n)) bs tau else none
  | _ => none
def convK (c : Cv) (bs : List Box) (tau : List Nat) (x : AV) : OpR := match x.dv with | some v => optDV (evConv c v) bs tau | _ => none
def appK (t : TypeId) (sz : Nat) (bs : List Box) (tau : List Nat) (x y : AV) : OpR :=
  match elemsOf sz y with
  | some ys => (match evApp t sz tau x ys with | some (v, tau) => some (v, bs, tau) | none => none)
  | none => none

/-- Each instruction, by its operands' values. -/
theorem bO :
    (∀ {O : Orc} {e bs tau x}, evR O e bs tau (.mv x) = some (x.ev e, bs, tau)) ∧
    (∀ {O : Orc} {e bs tau c a b}, evR O e bs tau (.pick c a b) = pickK bs tau (a.ev e) (b.ev e) (c.ev e)) ∧
    (∀ {O : Orc} {e bs tau zs}, evR O e bs tau (.alloc zs) = some (.bp bs.length 0, bs ++ [.cells (zs.map .d)], tau)) ∧
    (∀ {O : Orc} {e bs tau}, evR O e bs tau .allocB = some (.bp bs.length 0, bs ++ [.bld []], tau)) ∧
    (∀ {O : Orc} {e bs tau n x}, evR O e bs tau (.box n x) = boxK n bs tau (x.ev e)) ∧
    (∀ {O : Orc} {e bs tau g n a}, evR O e bs tau (.ld g n a) = ldK g n bs tau (a.ev e)) ∧
    (∀ {O : Orc} {e bs tau n a x}, evR O e bs tau (.st n a x) = stK n bs tau (a.ev e) (x.ev e)) ∧
    (∀ {O : Orc} {e bs tau op x y}, evR O e bs tau (.bin op x y) = binK bs tau op (x.ev e) (y.ev e)) ∧
    (∀ {O : Orc} {e bs tau op x y}, evR O e bs tau (.binb op x y) = binbK bs tau op (x.ev e) (y.ev e)) ∧
    (∀ {O : Orc} {e bs tau x}, evR O e bs tau (.not x) = notK bs tau (x.ev e)) ∧
    (∀ {O : Orc} {e bs tau c x}, evR O e bs tau (.conv c x) = convK c bs tau (x.ev e)) ∧
    (∀ {O : Orc} {e bs tau x off}, evR O e bs tau (.fad x off) = fadK bs tau off (x.ev e)) ∧
    (∀ {O : Orc} {e bs tau g off n x}, evR O e bs tau (.fld g off n x) = fldK g off n bs tau (x.ev e)) ∧
    (∀ {O : Orc} {e bs tau sz x i}, evR O e bs tau (.iad sz x i) = iadK bs tau sz (x.ev e) (i.ev e)) ∧
    (∀ {O : Orc} {e bs tau x i}, evR O e bs tau (.ixs x i) = ixsK bs tau (x.ev e) (i.ev e)) ∧
    (∀ {O : Orc} {e bs tau x}, evR O e bs tau (.len x) = lenK bs tau (x.ev e)) ∧
    (∀ {O : Orc} {e bs tau x}, evR O e bs tau (.lenS x) = lenSK bs tau (x.ev e)) ∧
    (∀ {O : Orc} {e bs tau t sz x y}, evR O e bs tau (.app t sz x y) = appK t sz bs tau (x.ev e) (y.ev e)) ∧
    (∀ {O : Orc} {e bs tau pu f l}, evR O e bs tau (.call pu f l) = evCall O pu f (evL e l) bs tau) ∧
    (∀ {O : Orc} {e bs tau x i}, evR O e bs tau (.ext x i) = extK i bs tau (x.ev e)) ∧
    (∀ {O : Orc} {e bs tau f x}, evR O e bs tau (.u1 f x) = u1K f bs tau (x.ev e)) ∧
    (∀ {O : Orc} {e bs tau f x y}, evR O e bs tau (.u2 f x y) = u2K f bs tau (x.ev e) (y.ev e)) :=
  ⟨rfl, rfl, rfl, rfl, rfl, rfl, rfl, rfl, rfl, rfl, rfl, rfl, rfl, rfl, rfl, rfl, rfl, rfl, rfl, rfl, rfl, rfl⟩


/- ON VALUES OF A KNOWN SHAPE -/
theorem wrap_s {n : Int} (h : -9223372036854775808 ≤ n ∧ n < 9223372036854775808) : IntKind.i64.wrap n = n := by rw [IntKind.wrap_i64]; omega
theorem ix_ok {bs : List Box} {tau : List Nat} {l : List UInt8} {i : Nat} (h : i < l.length) {k : IntKind} : ixsK bs tau (.d (.str l)) (.d (.int k i)) = some (.d (.int .u8 (l[i]).toNat), bs, tau) := by
  simp [ixsK, asIx, h]
theorem ia_ok {bs : List Box} {tau : List Nat} {sz : Nat} {es : List DV} {i : Nat} (h : i < es.length) {k : IntKind} : iadK bs tau sz (.d (.slice sz es)) (.d (.int k i)) = some (.ep (es[i]).cells, bs, tau) := by
  simp [iadK, asIx, elemsOf, h]

/-- Each instruction, on values. -/
theorem bV :
    (∀ {bs tau a b}, pickK bs tau a b (.d (.bool true)) = some (a, bs, tau)) ∧
    (∀ {bs tau a b}, pickK bs tau a b (.d (.bool false)) = some (b, bs, tau)) ∧
    (∀ {bs tau b}, notK bs tau (.d (.bool b)) = some (.d (.bool !b), bs, tau)) ∧
    (∀ {bs tau l}, lenSK bs tau (.d (.str l)) = some (.d (.int .i64 l.length), bs, tau)) ∧
    (∀ {bs tau s l}, lenK bs tau (.d (.slice s l)) = some (.d (.int .i64 l.length), bs, tau)) ∧
    (∀ {bs tau s}, lenK bs tau (.d (.nils s)) = some (.d (.int .i64 0), bs, tau)) ∧
    (∀ {bs tau t e s l}, lenK bs tau (.sl t e s l) = some (.d (.int .i64 l.length), bs, tau)) ∧
    (∀ {bs tau off cs}, fadK bs tau off (.ep cs) = some (.ep (cs.drop off), bs, tau)) ∧
    (∀ {bs tau off b o}, fadK bs tau off (.bp b o) = some (.bp b (o + off), bs, tau)) ∧
    (∀ {bs tau k a b}, binK bs tau .lss (.d (.int k a)) (.d (.int k b)) = some (.d (.bool (decide (a < b))), bs, tau)) ∧
    (∀ {bs tau k a b}, binK bs tau .leq (.d (.int k a)) (.d (.int k b)) = some (.d (.bool (decide (a ≤ b))), bs, tau)) ∧
    (∀ {bs tau k a b}, binK bs tau .gtr (.d (.int k a)) (.d (.int k b)) = some (.d (.bool (decide (b < a))), bs, tau)) ∧
    (∀ {bs tau k a b}, binK bs tau .geq (.d (.int k a)) (.d (.int k b)) = some (.d (.bool (decide (b ≤ a))), bs, tau)) ∧
    (∀ {bs tau k a b}, binK bs tau .eql (.d (.int k a)) (.d (.int k b)) = some (.d (.bool (a == b)), bs, tau)) ∧
    (∀ {bs tau k a b}, binK bs tau .neq (.d (.int k a)) (.d (.int k b)) = some (.d (.bool (a != b)), bs, tau)) ∧
    (∀ {bs tau k a b}, binK bs tau .add (.d (.int k a)) (.d (.int k b)) = some (.d (.int k (k.wrap (a + b))), bs, tau)) ∧
    (∀ {bs tau k a b}, binK bs tau .sub (.d (.int k a)) (.d (.int k b)) = some (.d (.int k (k.wrap (a - b))), bs, tau)) ∧
    (∀ {bs tau k a b}, binK bs tau .mul (.d (.int k a)) (.d (.int k b)) = some (.d (.int k (k.wrap (a * b))), bs, tau)) ∧
    (∀ {bs tau a b}, binK bs tau .eql (.d (.str a)) (.d (.str b)) = some (.d (.bool (a == b)), bs, tau)) ∧
    (∀ {bs tau a b}, binK bs tau .neq (.d (.str a)) (.d (.str b)) = some (.d (.bool (a != b)), bs, tau)) ∧
    (∀ {bs tau a b}, binbK bs tau .eql (.d (.bool a)) (.d (.bool b)) = some (.d (.bool (a == b)), bs, tau)) ∧
    (∀ {bs tau a b}, binbK bs tau .neq (.d (.bool a)) (.d (.bool b)) = some (.d (.bool !(a == b)), bs, tau)) ∧
    (∀ {bs tau i vs}, extK i bs tau (.d (.tup vs)) = (match vs[i]? with | some v => some (.d v, bs, tau) | none => none)) := by
  refine ⟨rfl, rfl, rfl, rfl, rfl, rfl, rfl, rfl, rfl, ?_, ?_, ?_, ?_, ?_, ?_, ?_, ?_, ?_, rfl, rfl, rfl, rfl, rfl⟩ <;> intros <;> simp [binK, evBin, optDV] <;> rfl

/-- A slice as it crosses a call: of the empty one no size is kept. -/
def slc (s : Nat) (es : List DV) : DV := canon1 (.slice s es)
theorem slc_len {bs : List Box} {tau : List Nat} {s : Nat} {l : List DV} : lenK bs tau (.d (slc s l)) = some (.d (.int .i64 l.length), bs, tau) := by cases l <;> rfl
theorem slc_c2 {s : Nat} {l : List DV} : canon2 (slc s l) = slc s l := by cases l <;> rfl
theorem slc_c {s : Nat} {l : List DV} : canon (slc s l) = slc s l := by cases l <;> rfl
theorem slc_cells {s : Nat} {l : List DV} : (slc s l).cells = [slc s l] := by cases l <;> rfl
theorem elems_slc {s : Nat} {l : List DV} : elemsOf s (.d (slc s l)) = some l := by cases l <;> simp [slc, canon1, elemsOf]
theorem is_ok {bs : List Box} {tau : List Nat} {sz : Nat} {es : List DV} {i : Nat} (h : i < es.length) {k : IntKind} : iadK bs tau sz (.d (slc sz es)) (.d (.int k i)) = some (.ep (es[i]).cells, bs, tau) := by
  simp [iadK, asIx, elems_slc, h]

/- THE END OF A FUNCTION -/
theorem bF :
    (∀ {x bs tau e}, finish [.t 0] 0 (some (.rt, .d x :: e, bs, tau)) = some (canon x, [])) ∧
    (∀ {t k s l bs tau e}, finish [.t 0] 0 (some (.rt, .sl t k s l :: e, bs, tau)) = some (slc s l, [])) ∧
    (∀ {x y bs tau e}, finish [.t 0, .t 1] 0 (some (.rt, .d x :: .d y :: e, bs, tau)) = some (canon (.tup [x, y]), [])) ∧
    (∀ {x y z bs tau e}, finish [.t 0, .t 1, .t 2] 0 (some (.rt, .d x :: .d y :: .d z :: e, bs, tau)) = some (canon (.tup [x, y, z]), [])) ∧
    (∀ {b}, canon (.bool b) = .bool b) ∧ (∀ {k n}, canon (.int k n) = .int k n) ∧ (∀ {l}, canon (.str l) = .str l) ∧ (∀ {s l}, canon (.slice s l) = slc s l) ∧
    (canon .nili = .nili) ∧
    (∀ {vs}, canon (.tup vs) = .tup (vs.map canon2)) ∧ (∀ {b}, canon2 (.bool b) = .bool b) ∧ (∀ {k n}, canon2 (.int k n) = .int k n) ∧ (∀ {l}, canon2 (.str l) = .str l) ∧ (∀ {s l}, canon2 (.slice s l) = slc s l) ∧
    (∀ {s}, canon2 (.nils s) = slc s []) ∧ (∀ {s}, canon (.nils s) = slc s []) ∧
    (∀ {s l}, canon2 (slc s l) = slc s l) ∧ (∀ {s l}, canon (slc s l) = slc s l) ∧ (∀ {s l}, (slc s l).cells = [slc s l]) ∧
    (∀ {bs tau s l}, lenK bs tau (.d (slc s l)) = some (.d (.int .i64 l.length), bs, tau)) :=
  ⟨rfl, rfl, rfl, rfl, rfl, rfl, rfl, rfl, rfl, rfl, rfl, rfl, rfl, rfl, rfl, rfl, slc_c2, slc_c, slc_cells, slc_len⟩

/- CALLS -/
theorem bCall :
    (∀ {ps}, argVs ps [] = some ([], ps)) ∧
    (∀ {ps x l}, argVs ps (.d x :: l) = match argVs ps l with | some (ys, ps) => some (.d (canon2 x) :: ys, ps) | none => none) ∧
    (∀ {ps t k s es l}, argVs ps (.sl t k s es :: l) = match argVs ps l with | some (ys, ps) => some (.d (slc s es) :: ys, ps) | none => none) ∧
    (∀ {ps f l}, argVs ps (.fn f [] :: l) = match argVs ps l with | some (ys, ps) => some (.fn f [] :: ys, ps) | none => none) :=
  ⟨rfl, rfl, rfl, rfl⟩
def callK (bs : List Box) (tau : List Nat) : Option (DV × List Box) → OpR
  | some (r, _) => some (.d r, bs, tau)
  | none => none
def callA (O : Orc) (pu : Bool) (f : FuncId) (args : List AV) (bs : List Box) (tau : List Nat) : Option (List AV × List Nat) → OpR
  | some (vs, []) => callK bs tau (O f vs [])
  | _ => evCall O pu f args bs tau
theorem evCall_A {O : Orc} {pu : Bool} {f : FuncId} {args : List AV} {bs : List Box} {tau : List Nat} : evCall O pu f args bs tau = callA O pu f args bs tau (argVs [] args) := by
  unfold callA
  split
  · rename_i vs h
    simp only [evCall, h]
    cases O f vs [] <;> rfl
  · rfl
theorem bK :
    (∀ {O : Orc} {pu f args bs tau vs}, callA O pu f args bs tau (some (vs, [])) = callK bs tau (O f vs [])) ∧
    (∀ {bs tau r b}, callK bs tau (some (r, b)) = some (.d r, bs, tau)) ∧
    (∀ {O : Orc} {pu f args bs tau}, evCall O pu f args bs tau = callA O pu f args bs tau (argVs [] args)) :=
  ⟨rfl, rfl, evCall_A⟩

theorem L_loopU {O : Orc} {b c : BC} {e : Env} {bs : List Box} {tau : List Nat} (h : b = c) : DnB O (.loop b) e bs tau = loopK O b bs.length (DnB O c e bs tau) := by
  rw [L_loop, h]

/-- At a loop's back edge; lengths. -/
theorem bL :
    (∀ {n}, clrE n [] = []) ∧ (∀ {n x l}, clrE n (x :: l) = clr n x :: clrE n l) ∧
    (∀ {n x}, clr n (.d x) = .d x) ∧ (∀ {n t k s l}, clr n (.sl t k s l) = .sl t k s l) ∧ (∀ {n cs}, clr n (.ep cs) = .ep cs) ∧ (∀ {n}, clr n .junk = .junk) ∧
    (∀ {n f}, clr n (.fn f []) = .fn f []) ∧
    (∀ {n o}, clr (n + 1) (.bp 0 o) = .bp 0 o) ∧ (∀ {n o}, clr (n + 2) (.bp 1 o) = .bp 1 o) ∧ (∀ {n o}, clr (n + 3) (.bp 2 o) = .bp 2 o) ∧ (∀ {n o}, clr (n + 4) (.bp 3 o) = .bp 3 o) ∧
    (([] : List Box).length = 0) ∧ (∀ {x : Box} {l}, (x :: l).length = l.length + 1) ∧
    (∀ {l : List Box}, l.take 0 = []) ∧ (∀ {x : Box} {l n}, (x :: l).take (n + 1) = x :: l.take n) ∧ (0 + 1 = 1) ∧ (1 + 1 = 2) ∧ (2 + 1 = 3) ∧ (3 + 1 = 4) ∧
    (∀ {x : Box} {l l' : List Box}, x :: l ++ l' = x :: (l ++ l')) ∧ (∀ {l : List Box}, [] ++ l = l) :=
  ⟨rfl, rfl, rfl, rfl, rfl, rfl, rfl, rfl, rfl, rfl, rfl, rfl, rfl, rfl, rfl, rfl, rfl, rfl, rfl, rfl, rfl⟩

theorem res_bool {a b : Bool} (h : a = true ↔ b = true) : some (DV.bool a, ([] : List Box)) = some (DV.bool b, []) := by
  rw [Bool.eq_iff_iff.2 h]
theorem wrap_inc {i n : Nat} (h : i < n) (hn : n ≤ 1073741824) : IntKind.i64.wrap ((i : Int) + 1) = ((i + 1 : Nat) : Int) := by rw [wrap_s (by omega)]; omega
end Go.Abs

/- More equations: min, max, pieces of texts, calls of values. -/
namespace Go.Abs
open Go

def mnK (bs : List Box) (tau : List Nat) : AV → AV → OpR
  | .d a, .d b => optDV (evMn false a b) bs tau
  | _, _ => none
def mxK (bs : List Box) (tau : List Nat) : AV → AV → OpR
  | .d a, .d b => optDV (evMn true a b) bs tau
  | _, _ => none
def cvK (O : Orc) (pu : Bool) (l : List AV) (bs : List Box) (tau : List Nat) : AV → OpR
  | .fn f caps => evCall O pu f (l ++ capAVs caps) bs tau
  | _ => none
def slsK (bs : List Box) (tau : List Nat) (e : Env) (lo hi : Option Opd) : AV → OpR
  | .d (.str l) =>
    match bound e 0 lo, bound e l.length hi with
    | some i, some j => if i ≤ j ∧ j ≤ l.length then some (.d (.str ((l.take j).drop i)), bs, tau) else none
    | _, _ => none
  | _ => none

theorem bM :
    (∀ {O : Orc} {e bs tau x y}, evR O e bs tau (.mn x y) = mnK bs tau (x.ev e) (y.ev e)) ∧
    (∀ {O : Orc} {e bs tau x y}, evR O e bs tau (.mx x y) = mxK bs tau (x.ev e) (y.ev e)) ∧
    (∀ {O : Orc} {e bs tau pu x l}, evR O e bs tau (.callv pu x l) = cvK O pu (evL e l) bs tau (x.ev e)) ∧
    (∀ {O : Orc} {l bs tau pu f}, cvK O pu l bs tau (.fn f []) = evCall O pu f l bs tau) ∧
    (∀ {bs tau a b}, mnK bs tau (.d (.int .i64 a)) (.d (.int .i64 b)) = some (.d (.int .i64 (min a b)), bs, tau)) ∧
    (∀ {bs tau a b}, mxK bs tau (.d (.int .i64 a)) (.d (.int .i64 b)) = some (.d (.int .i64 (max a b)), bs, tau)) ∧
    (∀ {O : Orc} {e bs tau x lo hi}, evR O e bs tau (.sls x lo hi) = slsK bs tau e lo hi (x.ev e)) := by
  refine ⟨rfl, rfl, rfl, ?_, ?_, ?_, rfl⟩
  · intros; simp [cvK, capAVs]
  · intro bs tau a b
    simp only [mnK, evMn, optDV, Bool.false_eq_true, if_false]
    by_cases h : b < a
    · rw [if_pos h, Int.min_eq_right (by omega)]
    · rw [if_neg h, Int.min_eq_left (by omega)]
  · intro bs tau a b
    simp only [mxK, evMn, optDV, if_true]
    by_cases h : a < b
    · rw [if_pos h, Int.max_eq_right (by omega)]
    · rw [if_neg h, Int.max_eq_left (by omega)]
end Go.Abs

/- Own slices, literals of slices, the builder. -/
namespace Go.Abs
open Go

/-- A slice that grew out of nil by appends of something. -/
def ownV (t : TypeId) (sz : Nat) (es : List DV) : AV := match es with | [] => .d (.nils 0) | _ => .sl 0 t sz es
def ownT (es : List DV) : List Nat := match es with | [] => [] | _ => [es.length]

theorem app_own' {t : TypeId} {sz : Nat} {bs : List Box} {es ys : List DV} {y : AV} (he : elemsOf sz y = some ys) (hy : ys ≠ []) (h : es.length + ys.length ≤ maxLenN) : appK t sz bs (ownT es) (ownV t sz es) y = some (ownV t sz (es ++ ys), bs, ownT (es ++ ys)) := by
  cases es with
  | nil =>
    cases ys with
    | nil => exact (hy rfl).elim
    | cons z ys =>
      simp only [List.length_nil, Nat.zero_add] at h
      simp only [appK, he, ownV, ownT, evApp, List.nil_append, if_pos h, List.length_nil]
  | cons e es =>
    have h2 : (e :: es).length + ys.length ≤ maxLenN := h
    simp only [appK, he, ownV, ownT, evApp, List.getElem?_cons_zero, true_and, List.set_cons_zero, if_pos h2, List.cons_append]
    simp only [List.length_cons, List.length_append]
    congr 4
    omega
theorem app_own {t : TypeId} {sz : Nat} {bs : List Box} {es ys : List DV} (hy : ys ≠ []) (h : es.length + ys.length ≤ maxLenN) : appK t sz bs (ownT es) (ownV t sz es) (.d (.slice sz ys)) = some (ownV t sz (es ++ ys), bs, ownT (es ++ ys)) :=
  app_own' (by simp [elemsOf]) hy h
theorem ownV_clr {n : Nat} {t : TypeId} {sz : Nat} {es : List DV} : clr n (ownV t sz es) = ownV t sz es := by cases es <;> rfl

theorem dBytes_bytesD : ∀ l : List UInt8, dBytes (bytesD l) = some l
  | [] => rfl
  | c :: l => by
    have h1 : (0 : Int) ≤ (c.toNat : Int) ∧ (c.toNat : Int) < 256 := by have := c.toNat_lt; omega
    have ih := dBytes_bytesD l
    simp only [bytesD, List.map_cons, dBytes] at ih ⊢
    rw [if_pos h1, ih]
    simp
theorem conv_own {t : TypeId} {bs : List Box} {tau : List Nat} {l : List UInt8} : convK .bs bs tau (ownV t 1 (bytesD l)) = some (.d (.str l), bs, tau) := by
  cases l with
  | nil => rfl
  | cons c l =>
    have h := dBytes_bytesD (c :: l)
    simp only [bytesD, List.map_cons] at h
    simp only [convK, bytesD, List.map_cons, ownV, AV.dv, evConv, h]
    rfl
theorem conv_bytes {bs : List Box} {tau : List Nat} {l : List UInt8} : convK .bs bs tau (.d (.slice 1 (bytesD l))) = some (.d (.str l), bs, tau) := by
  have h := dBytes_bytesD l
  simp only [convK, AV.dv, evConv, h]
  rfl
theorem bytesD_app (l m : List UInt8) : bytesD (l ++ m) = bytesD l ++ bytesD m := by simp [bytesD]
theorem bytesD_len (l : List UInt8) : (bytesD l).length = l.length := by simp [bytesD]

/-- A slice's literal, on values. -/
def fillV (sz : Nat) : List DV → List (Nat × AV) → Option (List DV)
  | es, [] => some es
  | es, (i, x) :: ps =>
    match x.dvc with
    | some v => if (canon2 v).cells.length = sz ∧ i < es.length then fillV sz (es.set i (canon2 v)) ps else none
    | none => none
theorem fillE_V {e : Env} {sz : Nat} : ∀ {ps : List (Nat × Opd)} {es : List DV}, fillE e sz es ps = fillV sz es (ps.map fun p => (p.1, p.2.ev e))
  | [], _ => rfl
  | (i, x) :: ps, es => by
    simp only [fillE, List.map_cons, fillV]
    cases (x.ev e).dvc with
    | none => rfl
    | some v =>
      simp only
      split
      · exact fillE_V
      · rfl
def mksK (own : Option TypeId) (sz n : Nat) (z : List DV) (bs : List Box) (tau : List Nat) (ps : List (Nat × AV)) : OpR :=
  match fillV sz (List.replicate n (zeroEl sz z)) ps with
  | some es => (match own with | some t => some (.sl tau.length t sz es, bs, tau ++ [n]) | none => some (.d (.slice sz es), bs, tau))
  | none => none
theorem R_mks {O : Orc} {e : Env} {bs : List Box} {tau : List Nat} {own sz n z ps} : evR O e bs tau (.mks own sz n z ps) = mksK own sz n z bs tau (ps.map fun p => (p.1, p.2.ev e)) := by
  simp only [evR, fillE_V]
  rfl

/- The builder. -/
theorem call_b {O : Orc} {f : FuncId} {v r : DV} {l l' : List UInt8} {rest : List Box} {tau : List Nat} (h : O f [.bp 0 0, .d (canon2 v)] [.bld l] = some (r, [.bld l'])) : evCall O false f [.bp 0 0, .d v] (.bld l :: rest) tau = some (.d r, .bld l' :: rest, tau) := by
  simp [evCall, argVs, argV, idxB, boxesOut, boxOut, h, boxesIn]
theorem call_b0 {O : Orc} {f : FuncId} {r : DV} {l l' : List UInt8} {rest : List Box} {tau : List Nat} (h : O f [.bp 0 0] [.bld l] = some (r, [.bld l'])) : evCall O false f [.bp 0 0] (.bld l :: rest) tau = some (.d r, .bld l' :: rest, tau) := by
  simp [evCall, argVs, argV, idxB, boxesOut, boxOut, h, boxesIn]
theorem call_b1 {O : Orc} {f : FuncId} {r : DV} {l : List UInt8} {rest : List Box} {tau : List Nat} (h : O f [.bp 0 0] [.bld l] = some (r, [.cells [.d .any, .d .any]])) : evCall O false f [.bp 0 0] (.bld l :: rest) tau = some (.d r, .cells [.d .any, .d .any] :: rest, tau) := by
  simp [evCall, argVs, argV, idxB, boxesOut, boxOut, h, boxesIn]
section
variable {P : Program} {l s : List UInt8} {rest : List Box} {tau : List Nat}
theorem wb_byte {c : UInt8} (h : l.length < maxLenN) : evCall (Run (Tab.of P prims)) false 85 [.bp 0 0, .d (.int .u8 c.toNat)] (.bld l :: rest) tau = some (.d .nili, .bld (l ++ [c]) :: rest, tau) := by
  refine call_b (Run_prim (T := Tab.of P prims) rfl ?_)
  have := c.toNat_lt
  simp only [canon2, canon1, pWriteByte]
  rw [if_pos ⟨h, by omega, by omega⟩]
  simp
theorem wb_str (h : l.length + s.length ≤ maxLenN) : evCall (Run (Tab.of P prims)) false 86 [.bp 0 0, .d (.str s)] (.bld l :: rest) tau = some (.d (.tup [.int .i64 s.length, .nili]), .bld (l ++ s) :: rest, tau) := by
  refine call_b (Run_prim (T := Tab.of P prims) rfl ?_)
  simp only [canon2, canon1, pWriteString]
  rw [if_pos h]
theorem wb_bytes {c : UInt8} (h : l.length + (c :: s).length ≤ maxLenN) : evCall (Run (Tab.of P prims)) false 136 [.bp 0 0, .d (.slice 1 (bytesD (c :: s)))] (.bld l :: rest) tau = some (.d (.tup [.int .i64 (c :: s).length, .nili]), .bld (l ++ (c :: s)) :: rest, tau) := by
  refine call_b (Run_prim (T := Tab.of P prims) rfl ?_)
  have h2 : canon2 (.slice 1 (bytesD (c :: s))) = .slice 1 (bytesD (c :: s)) := rfl
  rw [h2]
  simp only [pWrite, dBytes_bytesD]
  rw [if_pos h]
theorem wb_out : evCall (Run (Tab.of P prims)) false 44 [.bp 0 0] (.bld l :: rest) tau = some (.d (.str l), .cells [.d .any, .d .any] :: rest, tau) :=
  call_b1 (Run_prim (T := Tab.of P prims) rfl rfl)
end
end Go.Abs

/- The table's second level: what was run on the first is run on the second. -/
namespace Go.Abs
open Go

theorem runN_le {P : Program} {p q : FuncId → Option (List AV → List Box → Option (DV × List Box))} (h : ∀ f x, p f = some x → ∃ y, q f = some y ∧ ∀ args bs r, x args bs = some r → y args bs = some r) (h0 : ∀ f, p f = none → q f = none) : ∀ n, Ole (runN (Tab.of P p) n) (runN (Tab.of P q) n)
  | 0 => fun f args bs r h => by simp [runN] at h
  | n + 1 => fun f args bs r hr => by
    have ih := runN_le (P := P) h h0 n
    simp only [runN] at hr ⊢
    cases hp : p f with
    | some x =>
      obtain ⟨y, hy, hxy⟩ := h f x hp
      simp only [show (Tab.of P p).prim f = p f from rfl, hp] at hr
      simp only [show (Tab.of P q).prim f = q f from rfl, hy]
      exact hxy _ _ _ hr
    | none =>
      simp only [show (Tab.of P p).prim f = p f from rfl, hp] at hr
      simp only [show (Tab.of P q).prim f = q f from rfl, h0 f hp]
      simp only [show (Tab.of P q).fns f = (Tab.of P p).fns f from rfl]
      cases hf : (Tab.of P p).fns f with
      | none => simp only [hf] at hr; cases hr
      | some fn =>
        simp only [hf] at hr ⊢
        exact finish_mono (fun x => den_mono ih (Nat.le_refl n) fn.body) hr
theorem Run_le {P : Program} {p q : FuncId → Option (List AV → List Box → Option (DV × List Box))} (h : ∀ f x, p f = some x → ∃ y, q f = some y ∧ ∀ args bs r, x args bs = some r → y args bs = some r) (h0 : ∀ f, p f = none → q f = none) : Ole (Run (Tab.of P p)) (Run (Tab.of P q)) := fun f args bs r hr => by
  obtain ⟨n, hn⟩ := Run_some hr
  exact Run_of (n := n) (runN_le h h0 n _ _ _ _ hn)
end Go.Abs
