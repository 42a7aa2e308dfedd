/- Part PkD of the proof: PrimA Ent EntB EntC EntD EntE. -/
import Derived.Test.YtinebfdbacaahaaGreatDoorPkC
import Derived.Below
import Derived.Test.YtinebfdbacaahaaGreatDoorRows
import Derived.Deep.Slices
import Derived.Carry
import Derived.ChangeSame
import Derived.OpenShut
import Derived.RowKit
import Derived.Test.YtinebfdbacaahaaGreatDoorChecked
import Derived.Shelf.Vars
import Derived.Lib.LaidU8
import Derived.Lib.LaidIn
import Derived.Deep.DeepHandedRow
import Derived.Deep.DeepWitnessRowRef
import Derived.ProofKit
import Derived.JoinedOf
import Derived.Test.YtinebfdbacaahaaGreatDoorCards
import Derived.SevenTiedAt
set_option linter.unusedSimpArgs false
set_option linter.unusedVariables false
set_option linter.unusedSectionVars false
set_option linter.unnecessarySimpa false

/- Contracts over worlds and contracts over data, turned into one another. -/
namespace Go.Abs
open Go Go.RowKit

/-- What is known of memory behind a call that made memory: what was known, and all that is new. -/
def grow (m : Addr → Option Value) (w w' : World) : Addr → Option Value :=
  fun a => match m a with | some v => some v | none => if w.heap.size ≤ a.block then w'.cell? a else none
theorem grow_le {m : Addr → Option Value} {w w' : World} : Ile m (grow m w w') := fun a v h => by simp [grow, h]
theorem grow_new {m : Addr → Option Value} {w w' : World} {a : Addr} (hm : Ile m w.cell?) (h : w.heap.size ≤ a.block) : grow m w w' a = w'.cell? a := by
  unfold grow
  cases hma : m a with
  | none => simp [h]
  | some v =>
    have := cell_lt (hm a v hma)
    omega
theorem grow_cell {m : Addr → Option Value} {w w' : World} (hm : Ile m w.cell?) (hb : Below w.heap.size w w') : Ile (grow m w w') w'.cell? := fun a v h => by
  unfold grow at h
  split at h
  · rename_i u hu
    cases h
    have h1 := hm a v hu
    rw [hb.cell (cell_lt h1)]
    exact h1
  · split at h
    · exact h
    · cases h

/-- A call's contract, over data, that holds whatever is known of memory. -/
def Pure (P : Program) (f : FuncId) (xs : List DV) (r : DV) : Prop :=
  ∀ (m : Addr → Option Value) (w : World) (vals : List Value), Ile m w.cell? → GlobOK m → DRt m xs vals →
    Calls P f vals.toArray w fun e w' => ∃ v, e = .returned v ∧ Below w.heap.size w w' ∧ DR (grow m w w') r v

theorem ARs_d {M : Mem} : ∀ {xs : List DV} {vals : List Value}, ARs M (xs.map .d) vals → DRt M.imm xs vals
  | [], vals, h => h
  | x :: xs, vals, h => by
    obtain ⟨v, r, rfl, h1, h2⟩ := h
    simp only [DRt]
    exact ⟨v, r, rfl, h1, ARs_d h2⟩
theorem d_ARs {M : Mem} : ∀ {xs : List DV} {vals : List Value}, DRt M.imm xs vals → ARs M (xs.map .d) vals
  | [], vals, h => h
  | x :: xs, vals, h => by
    simp only [DRt] at h
    obtain ⟨v, r, rfl, h1, h2⟩ := h
    exact ⟨v, r, rfl, h1, d_ARs h2⟩

theorem Pure.sound {P : Program} {f : FuncId} {xs : List DV} {r : DV} (h : Pure P f xs r) : Sound P f (xs.map .d) [] r [] := by
  refine ⟨rfl, by simp, fun M w vals hw ha => ?_⟩
  refine (h M.imm w vals hw.imm hw.glob (ARs_d ha)).mono ?_
  rintro e w' ⟨v, rfl, hb, hd⟩
  have hle : Ile M.imm (grow M.imm w w') := grow_le
  have hold : ∀ g o, M.own g = some o → w'.heap[g]? = w.heap[g]? := fun g o e => hb.block g (hw.lt g o e)
  refine ⟨v, { M with imm := grow M.imm w w' }, rfl, ⟨⟨hle, fun _ _ h => h, fun _ _ _ h => h, fun _ _ h => h⟩, fun _ _ h => h, ?_, ⟨hb.os, hb.tape, hb.output, hb.size⟩⟩, ?_, hd⟩
  · intro a v o ho hv
    have hv : grow M.imm w w' a = some v := hv
    have ho : M.own a.block = some (.row o) := ho
    unfold grow at hv
    split at hv
    · rename_i u hu; cases hv; exact hu
    · split at hv
      · rename_i hlt; have := hw.lt _ _ ho; omega
      · cases hv
  · exact {
      imm := grow_cell hw.imm hb
      immb := fun a v b e k => by
        have e : grow M.imm w w' a = some v := e
        have k : M.own a.block = some (.box b) := k
        unfold grow at e
        split at e
        · rename_i u hu; exact hw.immb a u b hu k
        · split at e
          · rename_i hlt; have := hw.lt _ _ k; omega
          · cases e
      box := fun b x e => by simp at e
      boxd := hw.boxd
      tok := fun t n e => by simp at e
      tokd := hw.tokd
      toked := hw.toked
      row := fun g o e => by rw [hold g _ e]; exact hw.row g o e
      lt := fun g o e => Nat.lt_of_lt_of_le (hw.lt g o e) hb.size
      ownb := hw.ownb
      glob := hw.glob.mono hle
      ownt := hw.ownt }

/-- The memory of a call that is handed data alone: all blocks are put aside. -/
def memOf (m : Addr → Option Value) (w : World) : Mem where
  imm := m
  own := fun g => (w.heap[g]?).map .row
  box := fun _ => none
  tokv := fun _ _ => none
  toke := fun _ => none
theorem memOf_wr {m : Addr → Option Value} {w : World} (hm : Ile m w.cell?) (hg : GlobOK m) : WR (memOf m w) [] [] w where
  imm := hm
  immb a v b e k := by simp only [memOf, Option.map_eq_some_iff] at k; obtain ⟨o, _, h⟩ := k; cases h
  box b x e := by simp at e
  boxd b g e := by simp [memOf] at e
  tok t n e := by simp at e
  tokd t n v e := by simp [memOf] at e
  toked t x e := by simp [memOf] at e
  row g o e := by simp only [memOf, Option.map_eq_some_iff] at e; obtain ⟨o', h1, h2⟩ := e; cases h2; exact h1
  lt g o e := by simp only [memOf, Option.map_eq_some_iff] at e; obtain ⟨o', h1, h2⟩ := e; exact heap_lt h1
  ownb g b e := by simp only [memOf, Option.map_eq_some_iff] at e; obtain ⟨o, _, h⟩ := e; cases h
  glob := hg
  ownt g t e := by simp only [memOf, Option.map_eq_some_iff] at e; obtain ⟨o, _, h⟩ := e; cases h

theorem below_of {m : Addr → Option Value} {w w' : World} {M' : Mem} (hs : SR (memOf m w) w M' w') (hw' : WR M' [] [] w') : Below w.heap.size w w' := by
  refine ⟨hs.ext.os, hs.ext.tape, hs.ext.output, hs.ext.size, fun k hk => ?_⟩
  have h1 : (memOf m w).own k = some (.row w.heap[k]) := by simp [memOf, hk]
  rw [hw'.row _ _ (hs.row _ _ h1)]
  simp [hk]

theorem Sound.pure {P : Program} {f : FuncId} {xs : List DV} {r : DV} (h : Sound P f (xs.map .d) [] r []) : Pure P f xs r := by
  intro m w vals hm hg hx
  obtain ⟨_, _, h3⟩ := h
  refine (h3 (memOf m w) w vals (memOf_wr hm hg) (d_ARs hx)).mono ?_
  rintro e w' ⟨v, M', rfl, hs, hw', hd⟩
  have hb := below_of hs hw'
  refine ⟨v, rfl, hb, DR.mono ?_ _ _ hd⟩
  intro a u hu
  by_cases ha : a.block < w.heap.size
  · have h1 : (memOf m w).own a.block = some (.row w.heap[a.block]) := by simp [memOf, ha]
    exact grow_le a u (hs.rowi a u _ h1 hu)
  · rw [grow_new hm (by omega)]
    exact hw'.imm a u hu
end Go.Abs

/- What is read as data is data for the interpreter; the world at a call's entry. -/
namespace Go.Abs
open Go

section
variable {H : Type} {enc : TypeId × Value → H} {P : Program} {w : World}

def contigB (P : Program) : Nat → List Field → Nat → Bool
  | o, [], n => o == n
  | o, f :: fs, n => f.offset == o && contigB P (o + P.cellsOf f.type) fs n
/-- A type of plain data, over a list of such types. -/
def dataT1 (P : Program) (S : List TypeId) (t : TypeId) : Bool :=
  match P.underlying t with
  | some .bool => true
  | some (.int _) => true
  | some .string => true
  | some (.slice e) => S.contains e && decide (0 < P.cellsOf e)
  | some (.struct fs) => fs.toList.all (fun f => S.contains f.type) && contigB P 0 fs.toList (P.cellsOf t)
  | _ => false
def dataT (P : Program) (S : List TypeId) : Bool := S.all (dataT1 P S)

def Al2 {α β : Type} (R : α → β → Prop) : List α → List β → Prop
  | [], l => l = []
  | x :: xs, l => ∃ y ys, l = y :: ys ∧ R x y ∧ Al2 R xs ys

/-- What data of a type looks like; N bounds every length. -/
def Typed (P : Program) (N : Nat) : Nat → TypeId → DV → Prop
  | 0, _, _ => False
  | n + 1, t, x =>
    match P.underlying t with
    | some .bool => ∃ b, x = .bool b
    | some (.int k) => ∃ i, x = .int k i ∧ (Lit.int k i).wf = true
    | some .string => ∃ l, x = .str l ∧ l.length ≤ N
    | some (.slice e) => ∃ es, x = slc (P.cellsOf e) es ∧ es.length ≤ N ∧ ∀ y ∈ es, Typed P N n e y
    | some (.struct fs) => ∃ ys : List DV, x = .agg (ys.flatMap DV.cells) ∧ Al2 (fun f y => Typed P N n f.type y) fs.toList ys
    | _ => False

theorem bulk_pos : ∀ d : DataW H, 1 ≤ Go.Proofs.YtinebfdbacaahaaGreatDoor.Rows.uptoBulk d
  | .lit l => by cases l <;> simp [Go.Proofs.YtinebfdbacaahaaGreatDoor.Rows.uptoBulk]
  | .nil => by simp [Go.Proofs.YtinebfdbacaahaaGreatDoor.Rows.uptoBulk]
  | .ptr _ => by simp [Go.Proofs.YtinebfdbacaahaaGreatDoor.Rows.uptoBulk]
  | .slice _ _ => by simp [Go.Proofs.YtinebfdbacaahaaGreatDoor.Rows.uptoBulk]
  | .agg _ => by simp [Go.Proofs.YtinebfdbacaahaaGreatDoor.Rows.uptoBulk]
  | .iface _ _ => by simp [Go.Proofs.YtinebfdbacaahaaGreatDoor.Rows.uptoBulk]
  | .map _ => by simp [Go.Proofs.YtinebfdbacaahaaGreatDoor.Rows.uptoBulk]
  | .held _ => by simp [Go.Proofs.YtinebfdbacaahaaGreatDoor.Rows.uptoBulk]
theorem bulkAll_len : ∀ l : List (DataW H), l.length ≤ Go.Proofs.YtinebfdbacaahaaGreatDoor.Rows.uptoBulkAll l
  | [] => by simp
  | d :: l => by
    have := bulkAll_len l
    have := bulk_pos d
    simp only [List.length_cons, Go.Proofs.YtinebfdbacaahaaGreatDoor.Rows.uptoBulkAll]
    omega
theorem bulkAll_mem : ∀ {l : List (DataW H)} {d : DataW H}, d ∈ l → Go.Proofs.YtinebfdbacaahaaGreatDoor.Rows.uptoBulk d ≤ Go.Proofs.YtinebfdbacaahaaGreatDoor.Rows.uptoBulkAll l
  | [], _, h => by cases h
  | x :: l, d, h => by
    simp only [Go.Proofs.YtinebfdbacaahaaGreatDoor.Rows.uptoBulkAll]
    cases h with
    | head => omega
    | tail _ h => have := bulkAll_mem h; omega

/-- A value of cells that data describes. -/
theorem mk_val {m : Addr → Option Value} {x : DV} {cs : List Value} (h : DRs m x.cells cs) (hx : (∃ l, x = .agg l) ∨ x.cells = [x]) : ∃ u : Value, u.cells.toList = cs ∧ DR m x u := by
  rcases hx with ⟨l, rfl⟩ | hx
  · exact ⟨.agg cs.toArray, by simp [Value.cells], by simp only [DR]; exact ⟨_, rfl, by simpa [DV.cells] using h⟩⟩
  · rw [hx] at h
    simp only [DRs] at h
    obtain ⟨v, r, rfl, h1, h2, rfl⟩ := h
    by_cases ha : ∃ l, x = .agg l
    · obtain ⟨l, rfl⟩ := ha
      simp only [DR] at h1
      obtain ⟨vs, rfl, h3⟩ := h1
      simp [Value.oneCell'] at h2
    · exact ⟨v, by rw [DR.ofCell h1 fun cs e => ha ⟨cs, e⟩], h1⟩

/-- Data as a value's reading gives it. -/
def RD (P : Program) (w : World) (N n : Nat) (t : TypeId) (cs : List Value) (x : DV) : Prop :=
  Typed P N n t x ∧ DRs w.cell? x.cells cs ∧ ((∃ l, x = .agg l) ∨ x.cells = [x])

theorem slc_DR {m : Addr → Option Value} {sz : Nat} {es : List DV} {A : Option Addr} {c : Nat} {vs : List Value} (hc : es.length ≤ c) (h : DRe m sz es vs) (hm : ∀ k u, vs[k]? = some u → ∃ a, A = some a ∧ m (a.add k) = some u) : DR m (slc sz es) (.slice A es.length c) := by
  cases es with
  | nil =>
    show DR m (.slice 0 []) _
    simp only [DR]
    exact ⟨A, c, [], by simp, by simp, by simp [DRe], by simp⟩
  | cons e es =>
    show DR m (.slice sz (e :: es)) _
    simp only [DR]
    exact ⟨A, c, vs, rfl, hc, h, hm⟩

theorem read_fields {S : List TypeId} {N n fuel : Nat} {cs : List Value} (H1 : ∀ t cs d ps, t ∈ S → DataW.trod enc P w 0 (fun _ => true) true fuel t cs = some (d, ps) → Go.Proofs.YtinebfdbacaahaaGreatDoor.Rows.uptoBulk d ≤ N → ∃ x, RD P w N n t cs x) :
    ∀ (fs : List Field) (o : Nat) (xs : List (DataW H × List MemPlace)), contigB P o fs cs.length = true → (∀ f ∈ fs, f.type ∈ S) → o ≤ cs.length →
      (fs.mapM fun f => DataW.trod enc P w 0 (fun _ => true) true fuel f.type ((cs.drop f.offset).take (P.cellsOf f.type))) = some xs → (∀ x ∈ xs, Go.Proofs.YtinebfdbacaahaaGreatDoor.Rows.uptoBulk x.1 ≤ N) →
      ∃ ys : List DV, Al2 (fun f y => Typed P N n f.type y) fs ys ∧ DRs w.cell? (ys.flatMap DV.cells) (cs.drop o)
  | [], o, xs, hc, _, ho, _, _ => by
    simp only [contigB, beq_iff_eq] at hc
    subst hc
    exact ⟨[], rfl, by simp [DRs]⟩
  | f :: fs, o, xs, hc, hS, ho, hm, hN => by
    simp only [contigB, Bool.and_eq_true, beq_iff_eq] at hc
    obtain ⟨h1, h2⟩ := hc
    simp only [List.mapM_cons, Option.bind_eq_bind, Option.pure_def, Option.bind_eq_some_iff, Option.some.injEq] at hm
    obtain ⟨⟨d, ps⟩, h3, ys', h4, rfl⟩ := hm
    rw [h1] at h3
    obtain ⟨x, h5, h6, h7⟩ := H1 f.type _ d ps (hS f (by simp)) h3 (hN (d, ps) (by simp))
    have hlen := h6.length
    have hle : o + P.cellsOf f.type ≤ cs.length := by
      have : ∀ (fs : List Field) (k n : Nat), contigB P k fs n = true → k ≤ n := by
        intro fs
        induction fs with
        | nil => intro k n h; simp [contigB] at h; omega
        | cons g gs ih => intro k n h; simp only [contigB, Bool.and_eq_true] at h; have := ih _ _ h.2; omega
      exact this fs _ _ h2
    obtain ⟨ys, h8, h9⟩ := read_fields H1 fs (o + P.cellsOf f.type) ys' h2 (fun g hg => hS g (by simp [hg])) hle h4 (fun y hy => hN y (by simp [hy]))
    refine ⟨x :: ys, ⟨x, ys, rfl, h5, h8⟩, ?_⟩
    simp only [List.flatMap_cons]
    have : cs.drop o = (cs.drop o).take (P.cellsOf f.type) ++ cs.drop (o + P.cellsOf f.type) := by
      rw [← List.drop_drop, List.take_append_drop]
    rw [this]
    exact h6.append h9

theorem read_data {S : List TypeId} (hS : dataT P S = true) {N : Nat} : ∀ (fuel : Nat) (t : TypeId) (cs : List Value) (d : DataW H) (ps : List MemPlace), t ∈ S → DataW.trod enc P w 0 (fun _ => true) true fuel t cs = some (d, ps) → Go.Proofs.YtinebfdbacaahaaGreatDoor.Rows.uptoBulk d ≤ N → ∃ x, RD P w N fuel t cs x
  | 0, t, cs, d, ps, _, h, _ => by simp [DataW.trod] at h
  | fuel + 1, t, cs, d, ps, ht, h, hN => by
    have ih := read_data hS (N := N) fuel
    have h1 := List.all_eq_true.1 hS t ht
    unfold dataT1 at h1
    split at h1
    · rename_i hu
      unfold DataW.trod at h
      rw [hu] at h
      split at h <;> first | (cases h; done) | (rename_i h2 _; cases h2; done) | (rename_i h2; cases h2; done) | skip
      rename_i b _
      exact ⟨.bool b, by simp only [Typed, hu]; exact ⟨b, rfl⟩, by simp only [DV.cells, DRs, DR]; exact ⟨_, _, rfl, rfl, rfl, rfl⟩, .inr rfl⟩
    · rename_i k hu
      unfold DataW.trod at h
      rw [hu] at h
      split at h <;> first | (cases h; done) | (rename_i h2 _; cases h2; done) | (rename_i h2; cases h2; done) | skip
      rename_i k1 k2 n heq
      cases heq
      split at h
      · rename_i hc
        obtain ⟨rfl, hwf⟩ := hc
        exact ⟨.int k2 n, by simp only [Typed, hu]; exact ⟨n, rfl, hwf⟩, by simp only [DV.cells, DRs, DR]; exact ⟨_, _, rfl, rfl, rfl, rfl⟩, .inr rfl⟩
      · cases h
    · rename_i hu
      unfold DataW.trod at h
      rw [hu] at h
      split at h <;> first | (cases h; done) | (rename_i h2 _; cases h2; done) | (rename_i h2; cases h2; done) | skip
      rename_i b _
      split at h
      · cases h
        simp only [Go.Proofs.YtinebfdbacaahaaGreatDoor.Rows.uptoBulk] at hN
        exact ⟨.str b.data.toList, by simp only [Typed, hu]; exact ⟨_, rfl, by omega⟩, by simp only [DV.cells, DRs, DR]; exact ⟨_, _, rfl, by simp, rfl, rfl⟩, .inr rfl⟩
      · cases h
    · rename_i e hu
      simp only [Bool.and_eq_true, decide_eq_true_eq, List.contains_iff_mem] at h1
      obtain ⟨he, hpos⟩ := h1
      rcases DataW.trod_slice hu h with ⟨rfl, heq⟩ | ⟨a, len, cap, elems, rest, n, hn, rfl, heq, hb, hl, hm, hlen, hel, _, _⟩
      · cases heq
        refine ⟨slc (P.cellsOf e) [], by simp only [Typed, hu]; exact ⟨[], rfl, by simp, by simp⟩, ?_, .inr slc_cells⟩
        rw [slc_cells]
        simp only [DRs]
        exact ⟨_, _, rfl, slc_DR (A := none) (vs := []) (Nat.le_refl _) (by simp [DRe]) (by simp), rfl, rfl⟩
      · cases heq
        cases hn
        simp only [Go.Proofs.YtinebfdbacaahaaGreatDoor.Rows.uptoBulk] at hN
        have hbl := bulkAll_len (elems.map (·.1))
        rw [List.length_map, hlen] at hbl
        have key : ∀ (k i : Nat), i + k = len → ∃ es vs, es.length = k ∧ DRe w.cell? (P.cellsOf e) es vs ∧ (∀ j u, vs[j]? = some u → w.cell? (a.add (i * P.cellsOf e + j)) = some u) ∧ ∀ y ∈ es, Typed P N fuel e y := by
          intro k
          induction k with
          | zero => intro i _; exact ⟨[], [], rfl, by simp [DRe], by simp, by simp⟩
          | succ k ihk =>
            intro i hi
            obtain ⟨es, vs, h2, h3, h4, h5⟩ := ihk (i + 1) (by omega)
            have hi' : i < elems.length := by omega
            have h6 := hel i (by omega)
            rw [List.getElem?_eq_getElem hi'] at h6
            obtain ⟨cs', h7, h8⟩ := Option.bind_eq_some_iff.1 h6
            have hmem : elems[i].1 ∈ elems.map (·.1) := List.mem_map_of_mem (List.getElem_mem hi')
            have hbd := bulkAll_mem hmem
            obtain ⟨x, h9, h10, h11⟩ := ih e cs' elems[i].1 elems[i].2 he h8 (by omega)
            obtain ⟨u, hu1, hu2⟩ := mk_val h10 h11
            obtain ⟨_, hcl, hcg⟩ := World.cells?_some h7
            refine ⟨x :: es, cs' ++ vs, by simp [h2], ?_, ?_, ?_⟩
            · simp only [DRe]
              refine ⟨u, vs, by rw [hu1], by rw [← Array.length_toList, hu1, hcl], ?_, hu2, h3⟩
              rw [hu1]
              exact h10.one
            · intro j v hj
              by_cases hjl : j < cs'.length
              · rw [List.getElem?_append_left hjl] at hj
                rw [← Deep.add_add, hcg j (by omega)]
                exact hj
              · rw [List.getElem?_append_right (by omega)] at hj
                have := h4 _ _ hj
                rw [hcl] at this
                rw [hcl] at hjl
                rw [show i * P.cellsOf e + j = (i + 1) * P.cellsOf e + (j - P.cellsOf e) by rw [Nat.succ_mul]; omega]
                exact this
            · intro y hy
              cases hy with
              | head => exact h9
              | tail _ hy => exact h5 y hy
        obtain ⟨es, vs, h2, h3, h4, h5⟩ := key len 0 (by omega)
        subst h2
        refine ⟨slc (P.cellsOf e) es, by simp only [Typed, hu]; exact ⟨es, rfl, by omega, h5⟩, ?_, .inr slc_cells⟩
        rw [slc_cells]
        simp only [DRs]
        refine ⟨_, _, rfl, slc_DR (A := some a) (vs := vs) hl h3 (fun k u hk => ⟨a, rfl, ?_⟩), rfl, rfl⟩
        have := h4 k u hk
        simpa using this
    · rename_i fs hu
      simp only [Bool.and_eq_true, List.all_eq_true, List.contains_iff_mem] at h1
      obtain ⟨hf, hco⟩ := h1
      simp only [DataW.trod, hu] at h
      split at h
      · rename_i hlen
        simp only [Option.map_eq_some_iff] at h
        obtain ⟨xs, hxs, heq⟩ := h
        cases heq
        simp only [Go.Proofs.YtinebfdbacaahaaGreatDoor.Rows.uptoBulk] at hN
        obtain ⟨ys, h3, h4⟩ := read_fields (N := N) ih fs.toList 0 xs (by rw [hlen]; exact hco) hf (Nat.zero_le _) hxs (fun x hx => by
          have := bulkAll_mem (List.mem_map_of_mem (f := fun x : DataW H × List MemPlace => x.1) hx)
          omega)
        rw [List.drop_zero] at h4
        exact ⟨.agg (ys.flatMap DV.cells), by simp only [Typed, hu]; exact ⟨ys, rfl, h3⟩, by simpa only [DV.cells] using h4, .inl ⟨_, rfl⟩⟩
      · cases h
    · cases h1
end
end Go.Abs

/- A law that runs to true over data is a row's contract. -/
namespace Go.Abs
open Go Go.RowKit Go.WideShapes Go.ChangeShapes
open Go.Proofs.YtinebfdbacaahaaGreatDoor (Rows.uptoBulk Rows.uptoBulkAll)

section
variable {H : Type} {enc : TypeId × Value → H} {P : Program}
theorem post_below {f : Func} {s : ChangeSpec} {apart fresh handsOn again : Bool} {W W' : World} {args : Array Value} {v : Value} {ds gs : List (DataW H)} {before pa pv : List MemPlace}
    (hW : DataW.Whole enc P f.params.toList s.vars apart W args.toList ds gs before)
    (hres : ∀ (b : Nat) (sp : Nat → Bool) (hd : Bool), DataW.TrodAll enc P W' b sp hd f.resultTypes.toList (v.resultList f.resultTypes.size) (s.fn H (ds ++ gs)).results [])
    (hargs : ∀ sp : Nat → Bool, (∀ p ∈ before, sp p.block = true) → DataW.TrodAll enc P W' 0 sp true f.params.toList args.toList (s.fn H (ds ++ gs)).args pa)
    (hvars : ∀ sp : Nat → Bool, (∀ p ∈ before, sp p.block = true) → DataW.TrodVars enc P W' sp s.vars (s.fn H (ds ++ gs)).vars pv)
    (hps : before = pa ++ pv) (hb : Below W.heap.size W W')
    (hok : ∀ (j : Nat) (t : TypeId) (r : Value), f.resultTypes[j]? = some t → (v.resultList f.resultTypes.size)[j]? = some r → Value.okWide P W' .any 0 t r) :
    s.post enc P f apart fresh handsOn again W args v W' := by
  have hlt : ∀ p ∈ before, p.block < W.heap.size := fun p hp => hW.lt p hp
  have hold : ∀ p ∈ before, (fun b => decide (b < W.heap.size)) p.block = true := fun p hp => by simpa using hlt p hp
  refine ⟨ds, gs, before, [], pa, pv, hW, hres _ _ _, hargs _ hold, hvars _ hold, World.keptBut_mono (fun p hp => ⟨hp, ?_⟩) (hb.frame (· ∈ before)), fun _ => ?_⟩
  · rw [hps, List.mem_append] at hp
    exact Or.inr hp
  · obtain ⟨_, _, _, _, _, hz, hn⟩ := hW
    refine ⟨hok, _, _, ([] ++ pa) ++ pv, ⟨[] ++ pa, pv, trodAll_append (hargs _ (fun _ _ => rfl)) (hres _ _ _), hvars _ (fun _ _ => rfl), rfl, ?_, ?_⟩, ?_⟩
    · intro b off hp
      have hin : MemPlace.cell b off ∈ before := by rw [hps]; simpa using hp
      rw [hb.frozen (hlt _ hin)]
      exact hz b off hin
    · intro ha
      have := hn ha
      rw [hps] at this
      simpa using this
    · intro p hp _
      rw [hps]
      simpa using hp

/-- The arguments, as data. -/
theorem args_data {S : List TypeId} (hS : dataT P S = true) {N : Nat} {w : World} : ∀ (ts : List TypeId) (vs : List Value) (ds : List (DataW H)) (ps : List MemPlace), (∀ t ∈ ts, t ∈ S) → DataW.TrodAll enc P w 0 (fun _ => true) true ts vs ds ps →
    (∀ (j : Nat) t v, ts[j]? = some t → vs[j]? = some v → Value.okWide P w .any 0 t v) → Rows.uptoBulkAll ds ≤ N → ds.length = ts.length ∧ ∃ xs : List DV, Al2 (fun t x => ∃ n, Typed P N n t x) ts xs ∧ DRt w.cell? xs vs
  | [], vs, ds, ps, _, h, _, _ => by
    obtain ⟨rfl, rfl, _⟩ := trodAll_nil h
    exact ⟨rfl, [], rfl, by simp [DRt]⟩
  | t :: ts, vs, ds, ps, hs, h, hv, hN => by
    obtain ⟨v, vs', d, ds', p, q, rfl, rfl, rfl, ⟨fuel, h1⟩, h2⟩ := trodAll_cons h
    simp only [Rows.uptoBulkAll] at hN
    obtain ⟨x, h3, h4, h5⟩ := read_data hS (N := N) fuel t _ d p (hs t (by simp)) h1 (by omega)
    obtain ⟨hl, xs, h6, h7⟩ := args_data (N := N) hS ts vs' ds' q (fun t ht => hs t (by simp [ht])) h2 (fun j t v e1 e2 => hv (j + 1) t v (by simpa using e1) (by simpa using e2)) (by have := bulk_pos d; omega)
    refine ⟨by simp [hl], x :: xs, ⟨x, xs, rfl, ⟨fuel, h3⟩, h6⟩, ?_⟩
    simp only [DRt]
    refine ⟨v, vs', rfl, ?_, h7⟩
    obtain ⟨u, hu1, hu2⟩ := mk_val h4 h5
    have hok := hv 0 t v rfl rfl
    have hin : t ∈ S := hs t (by simp)
    have hd := List.all_eq_true.1 hS t hin
    have huv : u.cells = v.cells := Array.ext' hu1
    have hagg : ∀ us, u = .agg us → ∀ vs, v = .agg vs → u = v := by
      rintro us rfl vs rfl
      simp only [Value.cells] at huv
      rw [huv]
    have hone : (∀ us, u ≠ .agg us) → (∀ vs, v ≠ .agg vs) → u = v := by
      intro h1 h2
      have e1 : u.cells = #[u] := by cases u <;> first | rfl | exact absurd rfl (h1 _)
      have e2 : v.cells = #[v] := by cases v <;> first | rfl | exact absurd rfl (h2 _)
      rw [e1, e2] at huv
      simpa using huv
    have : u = v := by
      unfold Value.okWide at hok
      cases fuel with
      | zero => simp [Typed] at h3
      | succ fuel =>
      unfold dataT1 at hd
      split at hd
      all_goals rename_i hu
      all_goals first | (cases hd; done) | skip
      all_goals simp only [hu] at hok
      all_goals simp only [Typed, hu] at h3
      · obtain ⟨b, rfl⟩ := h3
        simp only [DR] at hu2
        refine hone (by rw [hu2]; intro us h; cases h) (fun vs h => ?_)
        subst h
        simp [Cell.okWide, Cell.ok, hu] at hok
      · obtain ⟨b, rfl, _⟩ := h3
        simp only [DR] at hu2
        refine hone (by rw [hu2]; intro us h; cases h) (fun vs h => ?_)
        subst h
        simp [Cell.okWide, Cell.ok, hu] at hok
      · obtain ⟨b, rfl, _⟩ := h3
        simp only [DR] at hu2
        refine hone (by rw [hu2]; intro us h; cases h) (fun vs h => ?_)
        subst h
        simp [Cell.okWide, Cell.ok, hu] at hok
      · obtain ⟨es, rfl, _⟩ := h3
        have : ∃ A n c, u = .slice A n c := by
          cases es with
          | nil => simp only [slc, canon1, DR] at hu2; obtain ⟨A, c, _, h, _⟩ := hu2; exact ⟨_, _, _, h⟩
          | cons e es => simp only [slc, canon1, DR] at hu2; obtain ⟨A, c, _, h, _⟩ := hu2; exact ⟨_, _, _, h⟩
        obtain ⟨A, n, c, rfl⟩ := this
        refine hone (by intro us h; cases h) (fun vs h => ?_)
        subst h
        simp [Cell.okWide, Cell.ok, hu] at hok
      · obtain ⟨ys, rfl, _⟩ := h3
        obtain ⟨cs, rfl, _⟩ := hok
        simp only [DR] at hu2
        obtain ⟨us, rfl, _⟩ := hu2
        exact hagg _ rfl _ rfl
    rw [← this]
    exact hu2

theorem args_stay {S : List TypeId} {w w' : World} (hl : laidOutB P = true) (hb : Below w.heap.size w w') (hS : ∀ t ∈ S, P.readableRec t = true ∧ t < P.types.size) : ∀ (ts : List TypeId) (vs : List Value) (ds : List (DataW H)) (ps : List MemPlace), (∀ t ∈ ts, t ∈ S) →
    DataW.TrodAll enc P w 0 (fun _ => true) true ts vs ds ps → (∀ p ∈ ps, p.block < w.heap.size) → ∀ sp : Nat → Bool, (∀ p ∈ ps, sp p.block = true) → DataW.TrodAll enc P w' 0 sp true ts vs ds ps
  | [], vs, ds, ps, _, h, _, sp, _ => by
    obtain ⟨rfl, rfl, rfl⟩ := trodAll_nil h
    exact trodAll_mk0
  | t :: ts, vs, ds, ps, hs, h, hlt, sp, hsp => by
    obtain ⟨v, vs', d, ds', p, q, rfl, rfl, rfl, h1, h2⟩ := trodAll_cons h
    have ht := hS t (hs t (by simp))
    exact trodAll_cons_mk (WideElems.Trod_stays hl ht.1 ht.2 h1 (fun x hx => hb.same (hlt x (by simp [hx]))) (fun x hx => hsp x (by simp [hx])))
      (args_stay hl hb hS ts vs' ds' q (fun t ht => hs t (by simp [ht])) h2 (fun x hx => hlt x (by simp [hx])) sp (fun x hx => hsp x (by simp [hx])))

/-- A law: it runs to true over whatever data its arguments hold. -/
theorem law_contract {prim : FuncId → Option (List AV → List Box → Option (DV × List Box))} {S : List TypeId} (hT : TabOK P (Tab.of P prim)) (hS : dataT P S = true) (hS2 : ∀ t ∈ S, P.readableRec t = true ∧ t < P.types.size) (hl : laidOutB P = true)
    {f : FuncId} {fn : Func} (hps : ∀ t ∈ fn.params.toList, t ∈ S) {tb : TypeId} (hres : fn.resultTypes = #[tb]) (hbool : P.underlying tb = some .bool)
    {s : ChangeSpec} (hvars : s.vars = []) (hspec : ∀ ds : List (DataW H), ds.length = fn.params.toList.length → s.fn H ds = { results := [.lit (.bool true)], args := ds })
    {N : Nat} (hrun : ∀ xs, Al2 (fun t x => ∃ n, Typed P N n t x) fn.params.toList xs → Run (Tab.of P prim) f (xs.map .d) [] = some (.bool true, []))
    {apart fresh handsOn again : Bool} (W : World) (args : Array Value) (ds gs : List (DataW H)) (before : List MemPlace)
    (hval : ∀ (j : Nat) t v, fn.params[j]? = some t → args[j]? = some v → Value.okWide P W .any 0 t v) (hW : DataW.Whole enc P fn.params.toList s.vars apart W args.toList ds gs before) (hbulk : Rows.uptoBulkAll (ds ++ gs) ≤ N) (hglob : GlobOK W.cell?) :
    Calls P f args W fun e W' => ∃ v, e = .returned v ∧ s.post enc P fn apart fresh handsOn again W args v W' := by
  have hW' := hW
  obtain ⟨p, q, hA, hV, rfl, hfz, hnd⟩ := hW
  rw [hvars] at hV
  obtain ⟨rfl, rfl⟩ := trodVars_none hV
  simp only [List.append_nil] at hW' hbulk
  obtain ⟨hlen, xs, hx1, hx2⟩ := args_data hS fn.params.toList args.toList ds p hps hA (fun j t v e1 e2 => hval j t v (by simpa using e1) (by simpa using e2)) hbulk
  have hr := hrun xs hx1
  obtain ⟨n, hn⟩ := Run_some hr
  obtain ⟨_, hs⟩ := run_sound hT n f _ [] _ _ hn (by simp)
  have hc := Sound.pure hs W.cell? W args.toList (fun _ _ h => h) hglob hx2
  rw [show args.toList.toArray = args from by simp] at hc
  refine hc.mono ?_
  rintro e w' ⟨v, rfl, hb, hd⟩
  simp only [DR] at hd
  subst hd
  refine ⟨_, rfl, ?_⟩
  have hlt : ∀ x ∈ p, x.block < W.heap.size := fun x hx => hW'.lt x hx
  refine post_below (pa := p) (pv := []) hW' ?_ ?_ ?_ (by simp) hb ?_
  · intro b sp hd
    rw [List.append_nil, hspec ds hlen, hres]
    exact trodAll_mk1 (shut_bool hbool true)
  · intro sp hsp
    rw [List.append_nil, hspec ds hlen]
    exact args_stay hl hb hS2 _ _ _ _ hps hA hlt sp hsp
  · intro sp _
    rw [List.append_nil, hspec ds hlen, hvars]
    rfl
  · exact ok_one hres rfl (okWide_bool_mk hbool true)
end
end Go.Abs

/- The package's variables at a call's entry: what is laid. -/
namespace Go.Abs
open Go

section
variable {P : Program} {w : World}
def tabT (P : Program) : Nat → TypeId → Bool
  | 0, _ => false
  | n + 1, t =>
    match P.underlying t with
    | some (.int _) => true
    | some (.struct fs) => fs.toList.all (fun f => tabT P n f.type) && contigB P 0 fs.toList (P.cellsOf t)
    | some (.array k e) => tabT P n e && (P.cellsOf t == k * P.cellsOf e)
    | _ => false
theorem cellsDs_append : ∀ a b : List (DataW Unit), cellsDs (a ++ b) = cellsDs a ++ cellsDs b
  | [], b => rfl
  | d :: l, b => by simp only [List.cons_append, cellsDs, cellsDs_append l b, List.append_assoc]
theorem contigB_le {P : Program} : ∀ (fs : List Field) (k n : Nat), contigB P k fs n = true → k ≤ n
  | [], k, n, h => by simp [contigB] at h; omega
  | g :: gs, k, n, h => by simp only [contigB, Bool.and_eq_true] at h; have := contigB_le gs _ _ h.2; omega

theorem tab_fields {base : Nat} {sp : Nat → Bool} {held : Bool} {n fuel : Nat} {cs : List Value} (ih : ∀ fuel t cs d ps, tabT P n t = true → DataW.trod (fun _ => ()) P w base sp held fuel t cs = some (d, ps) → cs = cellsD d) :
    ∀ (fs : List Field) (o : Nat) (xs : List (DataW Unit × List MemPlace)), contigB P o fs cs.length = true → (∀ f ∈ fs, tabT P n f.type = true) →
      (fs.mapM fun f => DataW.trod (fun _ => ()) P w base sp held fuel f.type ((cs.drop f.offset).take (P.cellsOf f.type))) = some xs → cs.drop o = cellsDs (xs.map (·.1))
  | [], o, xs, hc, _, hm => by
    simp only [contigB, beq_iff_eq] at hc
    simp at hm
    subst hm hc
    simp [cellsDs]
  | f :: fs, o, xs, hc, hS, hm => by
    simp only [contigB, Bool.and_eq_true, beq_iff_eq] at hc
    obtain ⟨h1, h2⟩ := hc
    simp only [List.mapM_cons, Option.bind_eq_bind, Option.pure_def, Option.bind_eq_some_iff, Option.some.injEq] at hm
    obtain ⟨⟨d, ps⟩, h3, ys', h4, rfl⟩ := hm
    rw [h1] at h3
    have h5 := ih fuel f.type _ d ps (hS f (by simp)) h3
    have h6 := tab_fields ih fs _ ys' h2 (fun g hg => hS g (by simp [hg])) h4
    simp only [List.map_cons, cellsDs]
    rw [← h5, ← h6, ← List.drop_drop, List.take_append_drop]
theorem tab_elems {base : Nat} {sp : Nat → Bool} {held : Bool} {n fuel : Nat} {cs : List Value} {e : TypeId} (ih : ∀ fuel t cs d ps, tabT P n t = true → DataW.trod (fun _ => ()) P w base sp held fuel t cs = some (d, ps) → cs = cellsD d) (he : tabT P n e = true) :
    ∀ (k o : Nat) (xs : List (DataW Unit × List MemPlace)), cs.length = (o + k) * P.cellsOf e →
      (((List.range' o k).mapM fun i => DataW.trod (fun _ => ()) P w base sp held fuel e ((cs.drop (i * P.cellsOf e)).take (P.cellsOf e))) = some xs) → cs.drop (o * P.cellsOf e) = cellsDs (xs.map (·.1))
  | 0, o, xs, hl, hm => by
    simp at hm
    subst hm
    simp only [List.map_nil, cellsDs]
    exact List.drop_eq_nil_of_le (by rw [hl]; simp)
  | k + 1, o, xs, hl, hm => by
    simp only [List.range'_succ, List.mapM_cons, Option.bind_eq_bind, Option.pure_def, Option.bind_eq_some_iff, Option.some.injEq] at hm
    obtain ⟨⟨d, ps⟩, h3, ys', h4, rfl⟩ := hm
    have h5 := ih fuel e _ d ps he h3
    have h6 := tab_elems ih he k (o + 1) ys' (by rw [hl]; congr 1; omega) h4
    simp only [List.map_cons, cellsDs]
    rw [← h5, ← h6, Nat.succ_mul, ← List.drop_drop, List.take_append_drop]
theorem tab_cells {base : Nat} {sp : Nat → Bool} {held : Bool} : ∀ (n fuel : Nat) (t : TypeId) (cs : List Value) (d : DataW Unit) (ps : List MemPlace), tabT P n t = true → DataW.trod (fun _ => ()) P w base sp held fuel t cs = some (d, ps) → cs = cellsD d
  | 0, fuel, t, cs, d, ps, h, _ => by simp [tabT] at h
  | n + 1, 0, t, cs, d, ps, _, h => by simp [DataW.trod] at h
  | n + 1, fuel + 1, t, cs, d, ps, ht, h => by
    have ih := tab_cells (base := base) (sp := sp) (held := held) n
    unfold tabT at ht
    split at ht
    · rename_i k hu
      unfold DataW.trod at h
      rw [hu] at h
      split at h <;> first | (cases h; done) | (rename_i h2 _; cases h2; done) | (rename_i h2; cases h2; done) | skip
      rename_i k1 k2 m heq
      cases heq
      split at h
      · rename_i hc
        obtain ⟨rfl, _⟩ := hc
        cases h
        rfl
      · cases h
    · rename_i fs hu
      simp only [Bool.and_eq_true, List.all_eq_true] at ht
      simp only [DataW.trod, hu] at h
      split at h
      · rename_i hlen
        simp only [Option.map_eq_some_iff] at h
        obtain ⟨xs, hxs, heq⟩ := h
        cases heq
        have := tab_fields (cs := cs) ih fs.toList 0 xs (by rw [hlen]; exact ht.2) ht.1 hxs
        simpa only [List.drop_zero, cellsD] using this
      · cases h
    · rename_i k e hu
      simp only [Bool.and_eq_true, beq_iff_eq] at ht
      simp only [DataW.trod, hu] at h
      split at h
      · rename_i hlen
        simp only [Option.map_eq_some_iff] at h
        obtain ⟨xs, hxs, heq⟩ := h
        cases heq
        rw [List.range_eq_range'] at hxs
        have := tab_elems (cs := cs) ih ht.1 k 0 xs (by rw [hlen, ht.2]; simp) hxs
        simpa only [Nat.zero_mul, List.drop_zero, cellsD] using this
      · cases h
    · cases ht

theorem tab_reads {n : String} {d : DataW Unit} {g : Nat} {t : TypeId} (h : Lib.VarReads P w n d) (hg : P.globalNamed n = some g) (ht : (P.globals[g]?).map (·.type) = some t) (k : Nat) (hT : tabT P k t = true) : ∀ i v, (cellsD d)[i]? = some v → w.cell? ⟨g, i, none⟩ = some v := by
  obtain ⟨g', t', cs, fuel, p, h1, h2, h3, h4⟩ := h
  rw [hg] at h1
  cases h1
  rw [ht] at h2
  cases h2
  have := tab_cells k fuel t _ d p hT h4
  intro i v hv
  rw [World.var?_cell hg h3 i, ← Array.getElem?_toList, this]
  exact hv
theorem iface_reads {n : String} {nm : String} {d : DataW Unit} {g : Nat} {t : TypeId} {ms : Array (String × TypeId)} (h : Lib.VarReads P w n (.iface nm d)) (hg : P.globalNamed n = some g) (ht : (P.globals[g]?).map (·.type) = some t) (hu : P.underlying t = some (.interface ms)) : ∃ u v, w.cell? ⟨g, 0, none⟩ = some (.iface u v) := by
  obtain ⟨g', t', cs, fuel, p, h1, h2, h3, h4⟩ := h
  rw [hg] at h1
  cases h1
  rw [ht] at h2
  cases h2
  cases fuel with
  | zero => simp [DataW.trod] at h4
  | succ fuel =>
    unfold DataW.trod at h4
    rw [hu] at h4
    split at h4 <;> first | (cases h4; done) | (rename_i h2 _; cases h2; done) | (rename_i h2; cases h2; done) | skip
    rename_i u v heq hcs
    refine ⟨u, v, ?_⟩
    rw [World.var?_cell hg h3 0, ← Array.getElem?_toList, hcs]
    rfl
end
end Go.Abs

/- The laid variables of this program; a world that holds them. -/
namespace Go.Abs
open Go Go.Proofs Go.Lib
open Go.Proofs.YtinebfdbacaahaaGreatDoor (Rows.laid_math_bits_deBruijn32tab Rows.laid_math_bits_deBruijn64tab Rows.laid_internal_strconv_uint64pow10 Rows.laid_unicode_utf8_acceptRanges Rows.laid_strconv_ErrRange Rows.laid_strconv_ErrSyntax Rows.laid_unicode_utf8_first)

def laidL : List (String × DataW Unit) :=
  [("math/bits.deBruijn32tab", Rows.laid_math_bits_deBruijn32tab), ("math/bits.deBruijn64tab", Rows.laid_math_bits_deBruijn64tab), ("internal/strconv.uint64pow10", Rows.laid_internal_strconv_uint64pow10), ("unicode/utf8.acceptRanges", Rows.laid_unicode_utf8_acceptRanges), ("strconv.ErrRange", Rows.laid_strconv_ErrRange), ("strconv.ErrSyntax", Rows.laid_strconv_ErrSyntax), ("unicode/utf8.first", Rows.laid_unicode_utf8_first)]
theorem laidH {w : World} (h : laidMetH Tryz.prog laidL w) : laidMet Tryz.prog laidL w := h

theorem glob_of {w : World} (hL : laidMetH Tryz.prog laidL w) (hsh : w.ShapedOpen Tryz.prog) : GlobOK w.cell? where
  maxLen := cell_of_shapedOpen_int (zero := #[.int .i64 0]) (t := 3) hsh (of_decide_eq_true (by kernel_rfl)) (by kernel_rfl) rfl (by kernel_rfl) (by kernel_rfl) Tryz.underlying3
  errSyntax := iface_reads (laidMet.reads (laidH hL) (.tail _ (.tail _ (.tail _ (.tail _ (.tail _ (.head _))))))) (g := 1) (t := 135) (by kernel_rfl) (by kernel_rfl) Tryz.underlying135
  errRange := iface_reads (laidMet.reads (laidH hL) (.tail _ (.tail _ (.tail _ (.tail _ (.head _)))))) (g := 2) (t := 135) (by kernel_rfl) (by kernel_rfl) Tryz.underlying135
  tabs x hx := by
    simp only [globTabs, List.mem_cons, List.not_mem_nil, or_false] at hx
    rcases hx with rfl | rfl | rfl | rfl | rfl
    · exact tab_reads (laidMet.reads (laidH hL) (.tail _ (.tail _ (.tail _ (.tail _ (.tail _ (.tail _ (.head _)))))))) (g := 3) (t := 310) (by kernel_rfl) (by kernel_rfl) 3 (by kernel_rfl)
    · exact tab_reads (laidMet.reads (laidH hL) (.tail _ (.tail _ (.tail _ (.head _))))) (g := 4) (t := 313) (by kernel_rfl) (by kernel_rfl) 3 (by kernel_rfl)
    · exact tab_reads (laidMet.reads (laidH hL) (.tail _ (.tail _ (.head _)))) (g := 5) (t := 314) (by kernel_rfl) (by kernel_rfl) 3 (by kernel_rfl)
    · exact tab_reads (laidMet.reads (laidH hL) (.head _)) (g := 7) (t := 324) (by kernel_rfl) (by kernel_rfl) 3 (by kernel_rfl)
    · exact tab_reads (laidMet.reads (laidH hL) (.tail _ (.head _))) (g := 8) (t := 325) (by kernel_rfl) (by kernel_rfl) 3 (by kernel_rfl)

/-- A WORLD FOR THE WITNESS: the settled one with two blocks more (the errors' texts), the seven variables holding what their initialisers lay. -/
noncomputable def laidWorld (os : Os) : World :=
  let N := (World.settled Tryz.prog os).heap.size
  let w0 := World.holding Tryz.prog os ⟨#[
    .cells #[.string ⟨#[118, 97, 108, 117, 101, 32, 111, 117, 116, 32, 111, 102, 32, 114, 97, 110, 103, 101]⟩] 321, .cells #[.string ⟨#[105, 110, 118, 97, 108, 105, 100, 32, 115, 121, 110, 116, 97, 120]⟩] 321], #[], []⟩
  let put (h : Array Obj) (g : Nat) (cs : Array Value) : Array Obj := h.modify g fun
    | .cells _ t frozen => .cells cs t frozen
    | o => o
  let h1 := put w0.heap 3 (cellsD Rows.laid_unicode_utf8_first).toArray
  let h2 := put h1 4 (cellsD Rows.laid_unicode_utf8_acceptRanges).toArray
  let h3 := put h2 5 (cellsD Rows.laid_internal_strconv_uint64pow10).toArray
  let h4 := put h3 7 (cellsD Rows.laid_math_bits_deBruijn32tab).toArray
  let h5 := put h4 8 (cellsD Rows.laid_math_bits_deBruijn64tab).toArray
  let h6 := put h5 2 #[.iface 319 (.pointer (some ⟨N, 0, none⟩))]
  let h7 := put h6 1 #[.iface 319 (.pointer (some ⟨N + 1, 0, none⟩))]
  { w0 with heap := h7 }
noncomputable abbrev N0 : Nat := (World.settled Tryz.prog default).heap.size
set_option maxRecDepth 1000000 in
theorem laid_in (os : Os) (args : Array Value) : LaidIn Tryz.prog ((laidWorld os).forCall (fun _ _ => 0) ⟨#[], args, []⟩).memory laidL [7, 8, 5, 4, 2, N0, 1, N0 + 1, 3] :=
  LaidIn.of_run _ 8 (by kernel_rfl) (by kernel_rfl) (by kernel_rfl) (by kernel_rfl)
theorem laid_met (os : Os) (args : Array Value) : laidMet Tryz.prog laidL ((laidWorld os).forCall (fun _ _ => 0) ⟨#[], args, []⟩).memory := (laid_in os args).met
end Go.Abs

/- Facts of the whole program that each row asks. -/
namespace Go.Proofs.YtinebfdbacaahaaGreatDoor
open Go Go.Abs Go.Proofs
theorem own : ownKnob Tryz.prog.godebug = none := by kernel_rfl
theorem laidOut : laidOutB Tryz.prog = true := by kernel_rfl
theorem mapsRow : mapsRowed Tryz.prog = true := by kernel_rfl
theorem heard : Tryz.prog.stopsHeard = true := by kernel_rfl
theorem enters : Tryz.prog.mayEnter = true := by kernel_rfl
theorem lookOk : true = Tryz.prog.looks [] := by kernel_rfl
def typesP : List TypeId := [25, 9, 22, 3, 23, 26, 39, 53, 73, 55, 4, 5]
theorem typesP_data : dataT Tryz.prog typesP = true := by kernel_rfl
theorem typesP_read : ∀ t ∈ typesP, Tryz.prog.readableRec t = true ∧ t < Tryz.prog.types.size := by
  have h1 : (typesP.all fun t => Tryz.prog.readableRec t) = true := by kernel_rfl
  have h2 : (typesP.all fun t => decide (t < Tryz.prog.types.size)) = true := by kernel_rfl
  intro t ht
  exact ⟨List.all_eq_true.1 h1 t ht, of_decide_eq_true (List.all_eq_true.1 h2 t ht)⟩
theorem typesP_stand : ∀ t ∈ typesP, Tryz.prog.wantsStandIn t = false := by
  have h1 : (typesP.all fun t => !Tryz.prog.wantsStandIn t) = true := by kernel_rfl
  intro t ht
  simpa using List.all_eq_true.1 h1 t ht

def zeroF : Value := .agg #[.int .i64 0, .string ⟨#[]⟩, .string ⟨#[]⟩, .string ⟨#[]⟩, .string ⟨#[]⟩, .slice none 0 0, .slice none 0 0]
def zeroFD {H : Type} : DataW H := .agg [.lit (.int .i64 0), .lit (.string []), .lit (.string []), .lit (.string []), .lit (.string []), .nil, .nil]
def zeroR : Value := .agg #[.string ⟨#[]⟩, .int .i64 0, .int .i64 0, .int .i64 0, .string ⟨#[]⟩, .string ⟨#[]⟩, .string ⟨#[]⟩, .string ⟨#[]⟩, .slice none 0 0, .slice none 0 0, .slice none 0 0, .bool false, .int .i64 0]
def zeroRD {H : Type} : DataW H := .agg [.lit (.string []), .lit (.int .i64 0), .lit (.int .i64 0), zeroFD, .nil, .lit (.bool false), .lit (.int .i64 0)]
end Go.Proofs.YtinebfdbacaahaaGreatDoor
